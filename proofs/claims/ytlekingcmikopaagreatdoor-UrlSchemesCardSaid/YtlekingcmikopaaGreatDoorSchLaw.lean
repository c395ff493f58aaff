/-
  The walk of the law decanterlaw19.UrlSchemes: it is true whatever the address and the schemes.
-/
import Derived.Test.YtlekingcmikopaaGreatDoorBareLaw
import Derived.Test.YtlekingcmikopaaGreatDoorRefD
namespace Go.Proofs.YtlekingcmikopaaGreatDoor
open Go.RowKit Go.Lib

set_option maxRecDepth 100000 in
set_option maxHeartbeats 2000000 in
theorem schLaw_small (s : ByteArray) (a : Option Addr) (c : Nat) (zs : List ByteArray) (w : World) (hs : s.size ≤ 300) (hl : zs.length ≤ 20) (hT : Lib.Utf8Tabs 1 2 w) (hv : Strs w (.slice a zs.length c) zs) :
    Calls Tryz.prog 5 #[.string s, .slice a zs.length c] w (SpeaksPost w) := by
  have HT : Hid (∀ W, Below w.heap.size w W → Lib.Utf8Tabs 1 2 W) := fun W h => Utf8Tabs_below hT h
  have KSp : Hid (∀ W, Below w.heap.size w W → Calls Tryz.prog 7 #[] W (SpeaksPost W)) := fun W h => speaks_any W (HT.out W h)
  have KB : Hid (∀ W, Below w.heap.size w W → Calls Tryz.prog 12 #[.string s] W fun e w' => e = .returned (.string (bareS s)) ∧ Below W.heap.size W w') := fun W h => bare_any s W (by omega) (HT.out W h)
  have KrB : Hid (∀ W, Calls Tryz.prog 13 #[.string s] W fun e w' => e = .returned (.string (bareS s)) ∧ Below W.heap.size W w') := fun W => rbare_any s W (by omega)
  have KS : Hid (∀ W, Below w.heap.size w W → Calls Tryz.prog 9 #[.string s] W fun e w' => e = .returned (.tuple #[.string (schS s), .bool (hasS s)]) ∧ Below W.heap.size W w') := fun W h => scheme_any s W (by omega) (HT.out W h)
  have KrS : Hid (∀ W, Calls Tryz.prog 11 #[.string s] W fun e w' => e = .returned (.tuple #[.string (schS s), .bool (hasS s)]) ∧ Below W.heap.size W w') := fun W => rscheme_any s W (by omega)
  have KR : Hid (∀ W, Calls Tryz.prog 14 #[.string s] W fun e w' => e = .returned (.bool (rightL s.data.toList)) ∧ Below W.heap.size W w') := fun W => right_any s W (by omega)
  have KrR : Hid (∀ W, Calls Tryz.prog 8 #[.string s] W fun e w' => e = .returned (.bool (rightL s.data.toList)) ∧ Below W.heap.size W w') := fun W => rright_any s W (by unfold maxLen; omega)
  have KA : Hid (∀ W, Below w.heap.size w W → Calls Tryz.prog 10 #[.string s, .slice a zs.length c] W fun e w' => e = .returned (.bool (allowedB s zs)) ∧ Below W.heap.size W w') := fun W h => allowed_any s _ zs W (by omega) (HT.out W h) (hv.below h) (by omega)
  have KrA : Hid (∀ W, Below w.heap.size w W → Calls Tryz.prog 15 #[.string s, .slice a zs.length c] W fun e w' => e = .returned (.bool (allowedB s zs)) ∧ Below W.heap.size W w') := fun W h => rallowed_any s _ zs W (by omega) (hv.below h) (by omega)
  have KN : Hid (∀ W, Calls Tryz.prog 16 #[.string s] W fun e w' => e = .returned (.bool (namesB s.data.toList)) ∧ Below W.heap.size W w') := fun W => (names_any s W).mono fun e w' ⟨he, hw⟩ => ⟨he, by subst hw; exact Below.refl _ _⟩
  have KrN : Hid (∀ W, Calls Tryz.prog 17 #[.string s] W fun e w' => e = .returned (.bool (namesB s.data.toList)) ∧ Below W.heap.size W w') := fun W => rnames_any s W
  clear hT hv HT
  generalize bareS s = b at *
  generalize schS s = t at *
  generalize hasS s = p at *
  generalize rightL s.data.toList = q at *
  generalize namesB s.data.toList = n at *
  generalize allowedB s zs = r at *
  generalize zs.length = m at *
  have hd1 : decide ((300 : Int) < (s.size : Int)) = false := decide_eq_false (by omega)
  have hd2 : decide ((20 : Int) < (m : Int)) = false := decide_eq_false (by omega)
  have hb : (b.toList == b.toList) = true := beq_self_eq_true _
  have ht : (t.toList == t.toList) = true := beq_self_eq_true _
  go_enter Tryz.func5, Tryz.ntmps5
  go_wp2_with fail
  refine (KSp.out _ (Below.refl _ _)).mono ?_
  rintro e w1 ⟨rfl, hb1⟩
  have Hb1 := Lib.hid hb1
  clear hb1
  go_wp2_with fail
  refine (KS.out _ Hb1.out).mono ?_
  rintro e w2 ⟨rfl, hb2⟩
  have Hb2 := Lib.hid (chain Hb1.out hb2)
  clear hb2 Hb1
  go_wp2_with fail
  refine (KrS.out _).mono ?_
  rintro e w3 ⟨rfl, hb3⟩
  have Hb3 := Lib.hid (chain Hb2.out hb3)
  clear hb3 Hb2
  go_wp2_with fail
  refine (KB.out _ Hb3.out).mono ?_
  rintro e w4 ⟨rfl, hb4⟩
  have Hb4 := Lib.hid (chain Hb3.out hb4)
  clear hb4 Hb3
  go_wp2_with fail
  refine (KrB.out _).mono ?_
  rintro e w5 ⟨rfl, hb5⟩
  have Hb5 := Lib.hid (chain Hb4.out hb5)
  clear hb5 Hb4
  go_wp2_with fail
  refine (KR.out _).mono ?_
  rintro e w6 ⟨rfl, hb6⟩
  have Hb6 := Lib.hid (chain Hb5.out hb6)
  clear hb6 Hb5
  go_wp2_with fail
  refine (KrR.out _).mono ?_
  rintro e w7 ⟨rfl, hb7⟩
  have Hb7 := Lib.hid (chain Hb6.out hb7)
  clear hb7 Hb6
  go_wp2_with fail
  refine (KA.out _ Hb7.out).mono ?_
  rintro e w8 ⟨rfl, hb8⟩
  have Hb8 := Lib.hid (chain Hb7.out hb8)
  clear hb8 Hb7
  go_wp2_with fail
  refine (KrA.out _ Hb8.out).mono ?_
  rintro e w9 ⟨rfl, hb9⟩
  have Hb9 := Lib.hid (chain Hb8.out hb9)
  clear hb9 Hb8
  go_wp2_with fail
  refine (KN.out _).mono ?_
  rintro e w10 ⟨rfl, hb10⟩
  have Hb10 := Lib.hid (chain Hb9.out hb10)
  clear hb10 Hb9
  go_wp2_with fail
  refine (KrN.out _).mono ?_
  rintro e w11 ⟨rfl, hb11⟩
  have Hb11 := Lib.hid (chain Hb10.out hb11)
  clear hb11 Hb10
  go_wp2_with fail
  go_ret
  exact ⟨rfl, Hb11.out⟩

set_option maxRecDepth 100000 in
set_option maxHeartbeats 1000000 in
theorem schLaw_any (s : ByteArray) (a : Option Addr) (c : Nat) (zs : List ByteArray) (w : World) (hs : s.size ≤ maxLen) (hl : zs.length ≤ maxLen) (hT : Lib.Utf8Tabs 1 2 w) (hv : Strs w (.slice a zs.length c) zs) :
    Calls Tryz.prog 5 #[.string s, .slice a zs.length c] w (SpeaksPost w) := by
  unfold maxLen at hs hl
  by_cases h1 : s.size ≤ 300
  · by_cases h2 : zs.length ≤ 20
    · exact schLaw_small s a c zs w h1 h2 hT hv
    · skip
      have KSp : Hid (∀ W, Below w.heap.size w W → Calls Tryz.prog 7 #[] W (SpeaksPost W)) := fun W h => speaks_any W (Utf8Tabs_below hT h)
      clear hT hv
      generalize zs.length = m at *
      have hd1 : decide ((300 : Int) < (s.size : Int)) = false := decide_eq_false (by omega)
      have hd2 : decide ((20 : Int) < (m : Int)) = true := decide_eq_true (by omega)
      go_enter Tryz.func5, Tryz.ntmps5
      go_wp2_with fail
      refine (KSp.out _ (Below.refl _ _)).mono ?_
      rintro e w1 ⟨rfl, hb1⟩
      have Hb1 := Lib.hid hb1
      clear hb1
      go_wp2_with fail
      refine (KSp.out _ Hb1.out).mono ?_
      rintro e w2 ⟨rfl, hb2⟩
      have Hb2 := Lib.hid (chain Hb1.out hb2)
      clear hb2 Hb1
      go_wp2_with fail
      go_ret
      exact ⟨rfl, Hb2.out⟩
  · skip
    have KSp : Hid (∀ W, Below w.heap.size w W → Calls Tryz.prog 7 #[] W (SpeaksPost W)) := fun W h => speaks_any W (Utf8Tabs_below hT h)
    clear hT hv
    generalize zs.length = m at *
    have hd1 : decide ((300 : Int) < (s.size : Int)) = true := decide_eq_true (by omega)
    go_enter Tryz.func5, Tryz.ntmps5
    go_wp2_with fail
    refine (KSp.out _ (Below.refl _ _)).mono ?_
    rintro e w1 ⟨rfl, hb1⟩
    have Hb1 := Lib.hid hb1
    clear hb1
    go_wp2_with fail
    refine (KSp.out _ Hb1.out).mono ?_
    rintro e w2 ⟨rfl, hb2⟩
    have Hb2 := Lib.hid (chain Hb1.out hb2)
    clear hb2 Hb1
    go_wp2_with fail
    go_ret
    exact ⟨rfl, Hb2.out⟩
end Go.Proofs.YtlekingcmikopaaGreatDoor
