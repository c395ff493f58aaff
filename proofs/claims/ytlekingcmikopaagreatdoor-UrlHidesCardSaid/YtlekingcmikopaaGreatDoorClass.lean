/-
  The walks of the inner functions of package class that the laws reach: within, Lower, Letter, Digit.
-/
import Derived.Test.YtlekingcmikopaaGreatDoorRows
import Derived.WalkKit
import Derived.Lib.Hide
namespace Go.Proofs.YtlekingcmikopaaGreatDoor
open Go.RowKit

/-- Lies c between a and b? -/
def inB (c a b : Int) : Bool := decide (a ≤ c) && decide (c ≤ b)
/-- The small letter. -/
def low (c : Int) : Int := if 65 ≤ c ∧ c ≤ 90 then c + 32 else c

theorem within_any (c a b : Int) (w : World) :
    Calls Tryz.prog 40 #[.int .i32 c, .int .i32 a, .int .i32 b] w fun e w' => e = .returned (.bool (inB c a b)) ∧ w = w' := by
  by_cases h1 : a ≤ c
  · by_cases h2 : c ≤ b
    · go_enter Tryz.func40, Tryz.ntmps40
      go_wp2
      go_ret
      exact ⟨by simp [inB, h1, h2], rfl⟩
    · go_enter Tryz.func40, Tryz.ntmps40
      go_wp2
      go_ret
      exact ⟨by simp [inB, h1, h2], rfl⟩
  · go_enter Tryz.func40, Tryz.ntmps40
    go_wp2
    go_ret
    exact ⟨by simp [inB]; omega, rfl⟩

theorem lower_any (c : Int) (w : World) (h0 : 0 ≤ c) (h1 : c ≤ 255) :
    Calls Tryz.prog 33 #[.int .i32 c] w fun e w' => e = .returned (.int .i32 (low c)) ∧ w = w' := by
  by_cases hb : inB c 65 90 = true
  · have hl : low c = c + 32 := by unfold low inB at *; simp at hb; rw [if_pos hb]
    have H := Lib.hid hl; clear hl
    go_enter Tryz.func33, Tryz.ntmps33
    go_wp2_with (go_at_call 40; refine (within_any _ _ _ _).mono ?_; rintro e w' ⟨rfl, rfl⟩)
    go_ret
    exact ⟨by rw [H.out]; rfl, rfl⟩
  · have hb : inB c 65 90 = false := by simpa using hb
    have hl : low c = c := by unfold low inB at *; simp at hb; rw [if_neg (by omega)]
    have H := Lib.hid hl; clear hl
    go_enter Tryz.func33, Tryz.ntmps33
    go_wp2_with (go_at_call 40; refine (within_any _ _ _ _).mono ?_; rintro e w' ⟨rfl, rfl⟩)
    go_ret
    exact ⟨by rw [H.out]; rfl, rfl⟩

theorem letter_any (c : Int) (w : World) (h0 : 0 ≤ c) (h1 : c ≤ 255) :
    Calls Tryz.prog 30 #[.int .i32 c] w fun e w' => e = .returned (.bool (inB (low c) 97 122)) ∧ w = w' := by
  go_enter Tryz.func30, Tryz.ntmps30
  go_wp2_with (first
    | (go_at_call 33; refine (lower_any _ _ h0 h1).mono ?_; rintro e w' ⟨rfl, rfl⟩)
    | (go_at_call 40; refine (within_any _ _ _ _).mono ?_; rintro e w' ⟨rfl, rfl⟩))
  go_ret
  exact ⟨rfl, rfl⟩

theorem digit_any (c : Int) (w : World) :
    Calls Tryz.prog 31 #[.int .i32 c] w fun e w' => e = .returned (.bool (inB c 48 57)) ∧ w = w' := by
  go_enter Tryz.func31, Tryz.ntmps31
  go_wp2_with (go_at_call 40; refine (within_any _ _ _ _).mono ?_; rintro e w' ⟨rfl, rfl⟩)
  go_ret
  exact ⟨rfl, rfl⟩
end Go.Proofs.YtlekingcmikopaaGreatDoor
