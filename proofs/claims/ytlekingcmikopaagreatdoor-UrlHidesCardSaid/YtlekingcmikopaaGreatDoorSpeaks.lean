/-
  The walk of the document's own example (decanterlaw19.speaks): it is true.
-/
import Derived.Test.YtlekingcmikopaaGreatDoorLaws
namespace Go.Proofs.YtlekingcmikopaaGreatDoor
open Go.RowKit Go.Lib

def sample : ByteArray := ⟨#[32, 106, 97, 118, 97, 10, 83, 99, 114, 105, 112, 116, 58, 120]⟩
theorem sample_has : hasS sample = true := by kernel_rfl
theorem sample_sch : schS sample = ⟨#[106, 97, 118, 97, 115, 99, 114, 105, 112, 116]⟩ := by kernel_rfl
theorem href_name : namesB [104, 114, 101, 102] = true := by kernel_rfl

def SpeaksPost (w : World) (e : Ending) (w' : World) : Prop := e = .returned (.bool true) ∧ Below w.heap.size w w'

set_option maxRecDepth 100000 in
set_option maxHeartbeats 1000000 in
theorem speaks_any (w : World) (hT : Lib.Utf8Tabs 1 2 w) : Calls Tryz.prog 7 #[] w (SpeaksPost w) := by
  have K := Lib.hid (scheme_any sample w (by decide) hT)
  rw [sample_has, sample_sch] at K
  have KN : Hid (∀ w, Calls Tryz.prog 16 #[.string ⟨#[104, 114, 101, 102]⟩] w fun e w' => e = .returned (.bool true) ∧ w = w') := fun w => by
    have := names_any ⟨#[104, 114, 101, 102]⟩ w
    unfold NamesPost at this
    rw [show (⟨#[104, 114, 101, 102]⟩ : ByteArray).data.toList = [104, 114, 101, 102] from rfl, href_name] at this
    exact this
  clear hT
  go_enter Tryz.func7, Tryz.ntmps7
  go_wp2_with (first
    | (go_at_call 9; refine K.out.mono ?_; rintro e w1 ⟨rfl, hb1⟩; have Hb1 := Lib.hid hb1; clear hb1)
    | (go_at_call 16; refine (KN.out _).mono ?_; rintro e w2 ⟨rfl, rfl⟩))
  go_ret
  exact ⟨rfl, Hb1.out⟩
end Go.Proofs.YtlekingcmikopaaGreatDoor
