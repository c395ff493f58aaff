/-
  The walks of url.Scheme, url.Right, url.Allowed and url.Names.
-/
import Derived.Test.YtlekingcmikopaaGreatDoorBareW
import Derived.Test.YtlekingcmikopaaGreatDoorLetters
import Derived.OwnWalk
namespace Go.Proofs.YtlekingcmikopaaGreatDoor
open Go.RowKit Go.Lib

/-- Has a text, bared already, a scheme? -/
def hasL (l : List UInt8) : Bool := decide (0 < lettersN l) && decide (lettersN l < l.length) && l[lettersN l]? == some 58
/-- Its scheme; nothing, if it has none. -/
def schL (l : List UInt8) : List UInt8 := if hasL l then small (l.take (lettersN l)) else []
def hasS (s : ByteArray) : Bool := hasL (bareL s.data.toList)
def schS (s : ByteArray) : ByteArray := ⟨(schL (bareL s.data.toList)).toArray⟩

theorem lettersFrom_le : ∀ (l : List UInt8) (k : Nat), k ≤ lettersFrom l k ∧ lettersFrom l k ≤ k + l.length
  | [], k => ⟨Nat.le_refl _, by simp [lettersFrom]⟩
  | x :: l, k => by
    have := lettersFrom_le l (k + 1)
    unfold lettersFrom
    rw [List.length_cons]
    split <;> omega
theorem lettersN_le (l : List UInt8) : lettersN l ≤ l.length := by have := lettersFrom_le l 0; unfold lettersN; omega

def SchPost (l : List UInt8) (w : World) (e : Ending) (w' : World) : Prop := e = .returned (.tuple #[.string ⟨(schL l).toArray⟩, .bool (hasL l)]) ∧ Below w.heap.size w w'

set_option maxRecDepth 100000 in
set_option maxHeartbeats 1000000 in
theorem scheme_core (s b : ByteArray) (w : World) (hb : b.size ≤ 1000000) (K : Calls Tryz.prog 12 #[.string s] w fun e w' => e = .returned (.string b) ∧ Below w.heap.size w w') :
    Calls Tryz.prog 9 #[.string s] w (SchPost b.data.toList w) := by
  have HK := Lib.hid K; clear K
  have KL := Lib.hid fun w => letters_any b w hb
  have hn := lettersN_le b.data.toList
  rw [← size_eq] at hn
  have hno : ∀ P : Prop, P → (lettersN b.data.toList < 1 ∨ b.size ≤ lettersN b.data.toList → hasL b.data.toList = false) := fun P _ h => by
    unfold hasL; rw [← size_eq]
    rcases h with h | h
    · simp [show ¬ 0 < lettersN b.data.toList by omega]
    · simp [show ¬ lettersN b.data.toList < b.size by omega]
  by_cases h0 : lettersN b.data.toList < 1
  · have hf := hno True trivial (.inl h0)
    have H : Hid (SchPost b.data.toList w = fun e w' => e = .returned (.tuple #[.string ⟨#[]⟩, .bool false]) ∧ Below w.heap.size w w') := by unfold Hid SchPost schL; rw [hf]; rfl
    rw [H.out]
    clear hno hf H
    generalize lettersN b.data.toList = n at *
    go_enter Tryz.func9, Tryz.ntmps9
    go_wp2_with (first
      | (go_at_call 12; refine HK.out.mono ?_; rintro e w1 ⟨rfl, hb1⟩; have Hb1 := Lib.hid hb1; clear hb1)
      | (go_at_call 20; refine (KL.out _).mono ?_; rintro e w2 ⟨rfl, hb2⟩; have Hb2 := Lib.hid hb2; clear hb2))
    go_ret2
    exact ⟨rfl, Hb1.out.trans (Hb2.out.mono Hb1.out.size)⟩
  · by_cases h1 : b.size ≤ lettersN b.data.toList
    · have hf := hno True trivial (.inr h1)
      have H : Hid (SchPost b.data.toList w = fun e w' => e = .returned (.tuple #[.string ⟨#[]⟩, .bool false]) ∧ Below w.heap.size w w') := by unfold Hid SchPost schL; rw [hf]; rfl
      rw [H.out]
      clear hno hf H
      generalize lettersN b.data.toList = n at *
      go_enter Tryz.func9, Tryz.ntmps9
      go_wp2_with (first
        | (go_at_call 12; refine HK.out.mono ?_; rintro e w1 ⟨rfl, hb1⟩; have Hb1 := Lib.hid hb1; clear hb1)
        | (go_at_call 20; refine (KL.out _).mono ?_; rintro e w2 ⟨rfl, hb2⟩; have Hb2 := Lib.hid hb2; clear hb2))
      go_ret2
      exact ⟨rfl, Hb1.out.trans (Hb2.out.mono Hb1.out.size)⟩
    · clear hno
      have hlt : lettersN b.data.toList < b.size := by omega
      obtain ⟨x, hx⟩ : ∃ x, b[lettersN b.data.toList] = x := ⟨_, rfl⟩
      have hget : b.data.toList[lettersN b.data.toList]? = some x := by rw [← hx]; simp [hlt]; rfl
      have hhas : hasL b.data.toList = (x == 58) := by
        unfold hasL
        rw [hget, ← size_eq]
        simp [hlt, show 0 < lettersN b.data.toList by omega]
      have KS : Hid (∀ w, Calls Tryz.prog 21 #[.string (b.extract 0 (lettersN b.data.toList))] w fun e w' => e = .returned (.string ⟨(small (b.data.toList.take (lettersN b.data.toList))).toArray⟩) ∧ Below w.heap.size w w') := fun w => by
        have := small_any (b.extract 0 (lettersN b.data.toList)) w (by rw [ByteArray.size_extract]; omega)
        rw [Lib.extract_data, List.drop_zero, Nat.sub_zero] at this
        exact this
      by_cases h58 : x = 58
      · have H : Hid (SchPost b.data.toList w = fun e w' => e = .returned (.tuple #[.string ⟨(small (b.data.toList.take (lettersN b.data.toList))).toArray⟩, .bool true]) ∧ Below w.heap.size w w') := by
          unfold Hid SchPost schL
          rw [hhas, h58]
          rfl
        rw [H.out]
        have hx0 : ((x.toNat : Int) != 58) = false := by rw [h58]; rfl
        clear H hhas hget h58
        generalize lettersN b.data.toList = n at *
        have hn0 : ((n : Int) == 0) = false := beq_eq_false_iff_ne.2 (by omega)
        have hn1 : ((n : Int) == (b.size : Int)) = false := beq_eq_false_iff_ne.2 (by omega)
        go_enter Tryz.func9, Tryz.ntmps9
        go_wp2_with (first
          | (go_at_call 12; refine HK.out.mono ?_; rintro e w1 ⟨rfl, hb1⟩; have Hb1 := Lib.hid hb1; clear hb1)
          | (go_at_call 20; refine (KL.out _).mono ?_; rintro e w2 ⟨rfl, hb2⟩; have Hb2 := Lib.hid hb2; clear hb2)
          | (go_at_call 21; refine (KS.out _).mono ?_; rintro e w3 ⟨rfl, hb3⟩; have Hb3 := Lib.hid hb3; clear hb3))
        go_ret2
        exact ⟨rfl, (Hb1.out.trans (Hb2.out.mono Hb1.out.size)).trans (Hb3.out.mono (Nat.le_trans Hb1.out.size Hb2.out.size))⟩
      · have H : Hid (SchPost b.data.toList w = fun e w' => e = .returned (.tuple #[.string ⟨#[]⟩, .bool false]) ∧ Below w.heap.size w w') := by
          unfold Hid SchPost schL
          rw [hhas, show (x == 58) = false by simpa using h58]
          rfl
        rw [H.out]
        have hx0 : ((x.toNat : Int) != 58) = true := by
          simp only [bne_iff_ne, ne_eq]
          intro h'
          exact h58 (UInt8.toNat_inj.1 (by have : (58 : UInt8).toNat = 58 := rfl; omega))
        clear H hhas hget h58
        generalize lettersN b.data.toList = n at *
        go_enter Tryz.func9, Tryz.ntmps9
        go_wp2_with (first
          | (go_at_call 12; refine HK.out.mono ?_; rintro e w1 ⟨rfl, hb1⟩; have Hb1 := Lib.hid hb1; clear hb1)
          | (go_at_call 20; refine (KL.out _).mono ?_; rintro e w2 ⟨rfl, hb2⟩; have Hb2 := Lib.hid hb2; clear hb2))
        go_ret2
        exact ⟨rfl, Hb1.out.trans (Hb2.out.mono Hb1.out.size)⟩

theorem scheme_any (s : ByteArray) (w : World) (hs : s.size ≤ 1000000) (hT : Lib.Utf8Tabs 1 2 w) :
    Calls Tryz.prog 9 #[.string s] w fun e w' => e = .returned (.tuple #[.string (schS s), .bool (hasS s)]) ∧ Below w.heap.size w w' := by
  have hbs := bareS_le s
  exact scheme_core s (bareS s) w (by omega) (bare_any s w hs hT)
end Go.Proofs.YtlekingcmikopaaGreatDoor
