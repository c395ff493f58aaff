/-
  The walk of strings.ContainsRune at the text of plus, minus and point and a rune up to 255.
-/
import Derived.Test.YtlekingcmikopaaGreatDoorRepl
import Derived.Laws.Runes
import Derived.WalkLawsBesides
import Derived.WalkMore
import Derived.BigQuiet
namespace Go.Proofs.YtlekingcmikopaaGreatDoor
open Go.RowKit

/-- The two bytes of a rune from 128 to 255. -/
def rs2 (c : Int) : ByteArray := ⟨#[UInt8.ofNat (192 + c.toNat / 64), UInt8.ofNat (128 + c.toNat % 64)]⟩
theorem encode2 (c : Int) (h0 : 128 ≤ c) (h1 : c ≤ 255) : Utf8.encode c = rs2 c := by
  unfold Utf8.encode rs2
  have hv : Utf8.valid c = true := by rw [validRune_eq]; unfold validRune; exact decide_eq_true (by omega)
  simp only [hv, if_true]
  rw [if_neg (by omega), if_pos (by omega)]

theorem indexByte_high (y : UInt8) (h : (128 : Int) ≤ (y.toNat : Int)) : Lib.indexByte ((⟨#[43, 45, 46]⟩ : ByteArray).extract 2 3).data.toList ((y.toNat : Int)).toNat.toUInt8 = -1 := by
  have e1 : ((y.toNat : Int)).toNat.toUInt8 = y := by simp
  have e2 : ((⟨#[43, 45, 46]⟩ : ByteArray).extract 2 3).data.toList = [46] := by rw [Lib.extract_data]; rfl
  rw [e1, e2]
  have hne : (46 : UInt8) ≠ y := fun h' => by subst h'; revert h; decide
  simp [Lib.indexByte, hne]

set_option maxRecDepth 100000 in
set_option maxHeartbeats 1000000 in
theorem indexRune_high (c : Int) (w : World) (h0 : 128 ≤ c) (h1 : c ≤ 255) :
    Calls Tryz.prog 41 #[.string ⟨#[43, 45, 46]⟩, .int .i32 c] w fun e w' => e = .returned (.int .i64 (-1)) ∧ Below w.heap.size w w' := by
  have he := encode2 c h0 h1
  have hval : Lib.validRune c = true := by unfold Lib.validRune; exact decide_eq_true (by omega)
  go_enter Tryz.func41, Tryz.ntmps41
  go_wp2_with (go_at_call 49; refine (Tryz.utf8_ValidRune c _).mono ?_; rintro e w' ⟨rfl, hw⟩; rw [hw])
  go_step3
  have hsz : (rs2 c).size = 2 := rfl
  go_wp2_with fail
  obtain ⟨y, hy⟩ : ∃ y, (rs2 c)[1]'(by rw [hsz]; omega) = y := ⟨_, rfl⟩
  have hy128 : (128 : Int) ≤ (y.toNat : Int) := by
    obtain rfl : UInt8.ofNat (128 + c.toNat % 64) = y := hy
    simp
    omega
  have hx : (⟨#[43, 45, 46]⟩ : ByteArray)[1] = 45 := rfl
  refine wp_loop_rounds 1 ?_
  rw [rounds_succ]
  go_wp2_with fail
  go_step3
  go_wp2_with fail
  go_quiet (fail)
  go_wp2_with fail
  have hb2 : Below w.heap.size w (w.drewN nq) := (Below.refl _ _).trans ⟨rfl, rfl, rfl, Nat.le_refl _, fun _ _ => rfl⟩
  generalize w.drewN nq = w2 at hb2 ⊢
  go_quiet ((go_at_call 48; exact Calls.quiet_of_same (Tryz.strings_IndexByte _ _ _)))
  rw [indexByte_high y hy128]
  have hb3 : Below w.heap.size w (w2.drewN nq) := hb2.trans ⟨rfl, rfl, rfl, Nat.le_refl _, fun _ _ => rfl⟩
  have Hb3 := Lib.hid hb3
  clear hb2 hb3
  go_wp2_with fail
  rw [Exit.noGoto_ret]
  simp only [Exit.inBlock, Exit.then]
  rw [Exit.noGoto_ret]
  try simp only [Exit.inBlock]
  go_ret
  exact ⟨rfl, Hb3.out⟩

/-- Plus, minus, point. -/
def isPM (c : Int) : Bool := decide (c = 43) || decide (c = 45) || decide (c = 46)
theorem pm_index (n : Fin 128) : decide (0 ≤ Lib.indexByte [43, 45, 46] n.val.toUInt8) = isPM n.val := by revert n; decide

set_option maxRecDepth 100000 in
theorem contains_any (c : Int) (w : World) (h0 : 0 ≤ c) (h1 : c ≤ 255) :
    Calls Tryz.prog 32 #[.string ⟨#[43, 45, 46]⟩, .int .i32 c] w fun e w' => e = .returned (.bool (isPM c)) ∧ Below w.heap.size w w' := by
  by_cases h : c < 128
  · refine (Tryz.strings_ContainsRune_ascii ⟨#[43, 45, 46]⟩ c w h0 h).mono ?_
    rintro e w' ⟨rfl, rfl⟩
    refine ⟨?_, Below.refl _ _⟩
    obtain ⟨n, rfl⟩ := Int.eq_ofNat_of_zero_le h0
    have := pm_index ⟨n, by omega⟩
    rw [Int.toNat_natCast]
    exact congrArg (fun b => Ending.returned (.bool b)) this
  · have hp : isPM c = false := by unfold isPM; simp; omega
    rw [hp]
    clear hp
    go_enter Tryz.func32, Tryz.ntmps32
    go_wp2_with (go_at_call 41; refine (indexRune_high c w (by omega) h1).mono ?_; rintro e w' ⟨rfl, hb⟩; have Hb := Lib.hid hb; clear hb)
    go_ret
    exact ⟨rfl, Hb.out⟩

end Go.Proofs.YtlekingcmikopaaGreatDoor
