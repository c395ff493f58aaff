/-
  The walks of url.Right, url.Allowed and url.Names.
-/
import Derived.Test.YtlekingcmikopaaGreatDoorUrl
namespace Go.Proofs.YtlekingcmikopaaGreatDoor
open Go.RowKit Go.Lib

/-- May a text be a scheme? -/
def rightL (l : List UInt8) : Bool := !l.isEmpty && (decide (lettersN l = l.length) && small l == l)
def RightPost (l : List UInt8) (w : World) (e : Ending) (w' : World) : Prop := e = .returned (.bool (rightL l)) ∧ Below w.heap.size w w'

set_option maxRecDepth 100000 in
set_option maxHeartbeats 1000000 in
theorem right_any (s : ByteArray) (w : World) (hs : s.size ≤ 1000000) : Calls Tryz.prog 14 #[.string s] w (RightPost s.data.toList w) := by
  have KL := Lib.hid fun w => letters_any s w hs
  have KS := Lib.hid fun w => small_any s w hs
  by_cases h0 : s.toList = []
  · have hr : rightL s.data.toList = false := by rw [← toList_data, h0]; rfl
    have H : Hid (RightPost s.data.toList w = fun e w' => e = .returned (.bool false) ∧ Below w.heap.size w w') := by unfold Hid RightPost; rw [hr]
    rw [H.out]
    clear hr H KL KS
    go_enter Tryz.func14, Tryz.ntmps14
    go_wp2_with fail
    go_ret
    exact ⟨rfl, Below.refl _ _⟩
  · have hem : s.toList.isEmpty = false := by simpa using h0
    by_cases h1 : lettersN s.data.toList = s.size
    · have hr : rightL s.data.toList = (small s.data.toList == s.data.toList) := by unfold rightL; rw [← size_eq, h1, ← toList_data, hem]; simp
      generalize lettersN s.data.toList = n at *
      have hn : ((n : Int) == (s.size : Int)) = true := beq_iff_eq.2 (by omega)
      cases h2 : small s.data.toList == s.data.toList with
      | true =>
        have H : Hid (RightPost s.data.toList w = fun e w' => e = .returned (.bool true) ∧ Below w.heap.size w w') := by unfold Hid RightPost; rw [hr, h2]
        rw [H.out]
        clear hr H h1
        have ht : ((⟨(small s.data.toList).toArray⟩ : ByteArray).toList == s.toList) = true := by rw [toList_data, toList_data]; exact h2
        clear h2
        generalize (⟨(small s.data.toList).toArray⟩ : ByteArray) = t at *
        go_enter Tryz.func14, Tryz.ntmps14
        go_wp2_with (first
          | (go_at_call 20; refine (KL.out _).mono ?_; rintro e w2 ⟨rfl, hb2⟩; have Hb2 := Lib.hid hb2; clear hb2)
          | (go_at_call 21; refine (KS.out _).mono ?_; rintro e w3 ⟨rfl, hb3⟩; have Hb3 := Lib.hid hb3; clear hb3))
        go_ret
        exact ⟨rfl, Hb2.out.trans (Hb3.out.mono Hb2.out.size)⟩
      | false =>
        have H : Hid (RightPost s.data.toList w = fun e w' => e = .returned (.bool false) ∧ Below w.heap.size w w') := by unfold Hid RightPost; rw [hr, h2]
        rw [H.out]
        clear hr H h1
        have ht : ((⟨(small s.data.toList).toArray⟩ : ByteArray).toList == s.toList) = false := by rw [toList_data, toList_data]; exact h2
        clear h2
        generalize (⟨(small s.data.toList).toArray⟩ : ByteArray) = t at *
        go_enter Tryz.func14, Tryz.ntmps14
        go_wp2_with (first
          | (go_at_call 20; refine (KL.out _).mono ?_; rintro e w2 ⟨rfl, hb2⟩; have Hb2 := Lib.hid hb2; clear hb2)
          | (go_at_call 21; refine (KS.out _).mono ?_; rintro e w3 ⟨rfl, hb3⟩; have Hb3 := Lib.hid hb3; clear hb3))
        go_ret
        exact ⟨rfl, Hb2.out.trans (Hb3.out.mono Hb2.out.size)⟩
    · have hr : rightL s.data.toList = false := by unfold rightL; rw [← size_eq]; simp [h1]
      have H : Hid (RightPost s.data.toList w = fun e w' => e = .returned (.bool false) ∧ Below w.heap.size w w') := by unfold Hid RightPost; rw [hr]
      rw [H.out]
      clear hr H
      generalize lettersN s.data.toList = n at *
      have hn : ((n : Int) == (s.size : Int)) = false := beq_eq_false_iff_ne.2 (by omega)
      clear h1
      go_enter Tryz.func14, Tryz.ntmps14
      go_wp2_with (go_at_call 20; refine (KL.out _).mono ?_; rintro e w2 ⟨rfl, hb2⟩; have Hb2 := Lib.hid hb2; clear hb2)
      go_ret
      exact ⟨rfl, Hb2.out⟩

def namesL : List (List UInt8) := [[97, 99, 116, 105, 111, 110],
  [98, 97, 99, 107, 103, 114, 111, 117, 110, 100],
  [99, 105, 116, 101],
  [100, 97, 116, 97],
  [102, 111, 114, 109, 97, 99, 116, 105, 111, 110],
  [104, 114, 101, 102],
  [108, 111, 110, 103, 100, 101, 115, 99],
  [112, 111, 115, 116, 101, 114],
  [115, 114, 99]]
def namesB (l : List UInt8) : Bool := namesL.any fun n => l == n
def NamesPost (l : List UInt8) (w : World) (e : Ending) (w' : World) : Prop := e = .returned (.bool (namesB l)) ∧ w = w'

set_option maxRecDepth 100000 in
set_option maxHeartbeats 2000000 in
theorem names_any (s : ByteArray) (w : World) : Calls Tryz.prog 16 #[.string s] w (NamesPost s.data.toList w) := by
  cases h0 : (s.toList == [97, 99, 116, 105, 111, 110]) with
  | true =>
    have hr : namesB s.data.toList = true := by rw [← toList_data]; simp only [namesB, namesL, List.any_cons, List.any_nil, h0]; rfl
    have H : Hid (NamesPost s.data.toList w = fun e w' => e = .returned (.bool true) ∧ w = w') := by unfold Hid NamesPost; rw [hr]
    rw [H.out]
    clear hr H
    go_enter Tryz.func16, Tryz.ntmps16
    go_wp2_with fail
    go_ret
    exact ⟨rfl, rfl⟩
  | false =>
    cases h1 : (s.toList == [98, 97, 99, 107, 103, 114, 111, 117, 110, 100]) with
    | true =>
      have hr : namesB s.data.toList = true := by rw [← toList_data]; simp only [namesB, namesL, List.any_cons, List.any_nil, h0, h1]; rfl
      have H : Hid (NamesPost s.data.toList w = fun e w' => e = .returned (.bool true) ∧ w = w') := by unfold Hid NamesPost; rw [hr]
      rw [H.out]
      clear hr H
      go_enter Tryz.func16, Tryz.ntmps16
      go_wp2_with fail
      go_ret
      exact ⟨rfl, rfl⟩
    | false =>
      cases h2 : (s.toList == [99, 105, 116, 101]) with
      | true =>
        have hr : namesB s.data.toList = true := by rw [← toList_data]; simp only [namesB, namesL, List.any_cons, List.any_nil, h0, h1, h2]; rfl
        have H : Hid (NamesPost s.data.toList w = fun e w' => e = .returned (.bool true) ∧ w = w') := by unfold Hid NamesPost; rw [hr]
        rw [H.out]
        clear hr H
        go_enter Tryz.func16, Tryz.ntmps16
        go_wp2_with fail
        go_ret
        exact ⟨rfl, rfl⟩
      | false =>
        cases h3 : (s.toList == [100, 97, 116, 97]) with
        | true =>
          have hr : namesB s.data.toList = true := by rw [← toList_data]; simp only [namesB, namesL, List.any_cons, List.any_nil, h0, h1, h2, h3]; rfl
          have H : Hid (NamesPost s.data.toList w = fun e w' => e = .returned (.bool true) ∧ w = w') := by unfold Hid NamesPost; rw [hr]
          rw [H.out]
          clear hr H
          go_enter Tryz.func16, Tryz.ntmps16
          go_wp2_with fail
          go_ret
          exact ⟨rfl, rfl⟩
        | false =>
          cases h4 : (s.toList == [102, 111, 114, 109, 97, 99, 116, 105, 111, 110]) with
          | true =>
            have hr : namesB s.data.toList = true := by rw [← toList_data]; simp only [namesB, namesL, List.any_cons, List.any_nil, h0, h1, h2, h3, h4]; rfl
            have H : Hid (NamesPost s.data.toList w = fun e w' => e = .returned (.bool true) ∧ w = w') := by unfold Hid NamesPost; rw [hr]
            rw [H.out]
            clear hr H
            go_enter Tryz.func16, Tryz.ntmps16
            go_wp2_with fail
            go_ret
            exact ⟨rfl, rfl⟩
          | false =>
            cases h5 : (s.toList == [104, 114, 101, 102]) with
            | true =>
              have hr : namesB s.data.toList = true := by rw [← toList_data]; simp only [namesB, namesL, List.any_cons, List.any_nil, h0, h1, h2, h3, h4, h5]; rfl
              have H : Hid (NamesPost s.data.toList w = fun e w' => e = .returned (.bool true) ∧ w = w') := by unfold Hid NamesPost; rw [hr]
              rw [H.out]
              clear hr H
              go_enter Tryz.func16, Tryz.ntmps16
              go_wp2_with fail
              go_ret
              exact ⟨rfl, rfl⟩
            | false =>
              cases h6 : (s.toList == [108, 111, 110, 103, 100, 101, 115, 99]) with
              | true =>
                have hr : namesB s.data.toList = true := by rw [← toList_data]; simp only [namesB, namesL, List.any_cons, List.any_nil, h0, h1, h2, h3, h4, h5, h6]; rfl
                have H : Hid (NamesPost s.data.toList w = fun e w' => e = .returned (.bool true) ∧ w = w') := by unfold Hid NamesPost; rw [hr]
                rw [H.out]
                clear hr H
                go_enter Tryz.func16, Tryz.ntmps16
                go_wp2_with fail
                go_ret
                exact ⟨rfl, rfl⟩
              | false =>
                cases h7 : (s.toList == [112, 111, 115, 116, 101, 114]) with
                | true =>
                  have hr : namesB s.data.toList = true := by rw [← toList_data]; simp only [namesB, namesL, List.any_cons, List.any_nil, h0, h1, h2, h3, h4, h5, h6, h7]; rfl
                  have H : Hid (NamesPost s.data.toList w = fun e w' => e = .returned (.bool true) ∧ w = w') := by unfold Hid NamesPost; rw [hr]
                  rw [H.out]
                  clear hr H
                  go_enter Tryz.func16, Tryz.ntmps16
                  go_wp2_with fail
                  go_ret
                  exact ⟨rfl, rfl⟩
                | false =>
                  cases h8 : (s.toList == [115, 114, 99]) with
                  | true =>
                    have hr : namesB s.data.toList = true := by rw [← toList_data]; simp only [namesB, namesL, List.any_cons, List.any_nil, h0, h1, h2, h3, h4, h5, h6, h7, h8]; rfl
                    have H : Hid (NamesPost s.data.toList w = fun e w' => e = .returned (.bool true) ∧ w = w') := by unfold Hid NamesPost; rw [hr]
                    rw [H.out]
                    clear hr H
                    go_enter Tryz.func16, Tryz.ntmps16
                    go_wp2_with fail
                    go_ret
                    exact ⟨rfl, rfl⟩
                  | false =>
                    have hr : namesB s.data.toList = false := by rw [← toList_data]; simp only [namesB, namesL, List.any_cons, List.any_nil, h0, h1, h2, h3, h4, h5, h6, h7, h8]; rfl
                    have H : Hid (NamesPost s.data.toList w = fun e w' => e = .returned (.bool false) ∧ w = w') := by unfold Hid NamesPost; rw [hr]
                    rw [H.out]
                    clear hr H
                    go_enter Tryz.func16, Tryz.ntmps16
                    go_wp2_with fail
                    go_ret
                    exact ⟨rfl, rfl⟩

/-- A slice of strings, as it lies in a world. -/
def Strs (w : World) (v : Value) (zs : List ByteArray) : Prop :=
  (∃ b off c, v = .slice (some ⟨b, off, none⟩) zs.length c ∧ ∀ j, j < zs.length → w.cell? ⟨b, off + j, none⟩ = some (.string (zs.getD j ByteArray.empty))) ∨ (zs = [] ∧ ∃ a c, v = .slice a 0 c)
theorem Strs.below {w w' : World} {v : Value} {zs : List ByteArray} (h : Strs w v zs) (hb : Below w.heap.size w w') : Strs w' v zs := by
  rcases h with ⟨b, off, c, rfl, h⟩ | h
  · exact .inl ⟨b, off, c, rfl, fun j hj => cell_below hb (h j hj)⟩
  · exact .inr h

theorem contains_str (v : Value) (zs : List ByteArray) (x : ByteArray) (w : World) (hv : Strs w v zs) (hl : zs.length ≤ 1000000) :
    Calls Tryz.prog 22 #[v, .string x] w fun e w' => e = .returned (.bool (Lib.containsS zs x)) ∧ w' = w := by
  rcases hv with ⟨b, off, c, rfl, h⟩ | ⟨rfl, a, c, rfl⟩
  · have := Tryz.slices_Contains_string b off zs.length c zs x w (Nat.le_refl _) (by omega) h
    rw [List.take_length] at this
    exact this
  · exact Tryz.slices_Contains_string_empty a c x w

/-- Has an address no scheme, or one of some? -/
def allowedB (s : ByteArray) (zs : List ByteArray) : Bool := !hasS s || Lib.containsS zs (schS s)
def AllowedPost (s : ByteArray) (zs : List ByteArray) (w : World) (e : Ending) (w' : World) : Prop := e = .returned (.bool (allowedB s zs)) ∧ Below w.heap.size w w'

set_option maxRecDepth 100000 in
set_option maxHeartbeats 1000000 in
theorem allowed_any (s : ByteArray) (v : Value) (zs : List ByteArray) (w : World) (hs : s.size ≤ 1000000) (hT : Lib.Utf8Tabs 1 2 w) (hv : Strs w v zs) (hl : zs.length ≤ 1000000) :
    Calls Tryz.prog 10 #[.string s, v] w (AllowedPost s zs w) := by
  have KS := Lib.hid (scheme_any s w hs hT)
  clear hT
  have KC := Lib.hid fun w' (hb : Below w.heap.size w w') => contains_str v zs (schS s) w' (hv.below hb) hl
  clear hv hl
  cases h : hasS s with
  | false =>
    have H : Hid (AllowedPost s zs w = fun e w' => e = .returned (.bool true) ∧ Below w.heap.size w w') := by unfold Hid AllowedPost allowedB; rw [h]; rfl
    rw [H.out]
    rw [h] at KS
    clear H h KC
    generalize schS s = x at *
    go_enter Tryz.func10, Tryz.ntmps10
    go_wp2_with (go_at_call 9; refine KS.out.mono ?_; rintro e w1 ⟨rfl, hb1⟩; have Hb1 := Lib.hid hb1; clear hb1)
    go_ret
    exact ⟨rfl, Hb1.out⟩
  | true =>
    have H : Hid (AllowedPost s zs w = fun e w' => e = .returned (.bool (Lib.containsS zs (schS s))) ∧ Below w.heap.size w w') := by unfold Hid AllowedPost allowedB; rw [h]; rfl
    rw [H.out]
    rw [h] at KS
    clear H h
    generalize Lib.containsS zs (schS s) = r at *
    generalize schS s = x at *
    go_enter Tryz.func10, Tryz.ntmps10
    go_wp2_with (first
      | (go_at_call 9; refine KS.out.mono ?_; rintro e w1 ⟨rfl, hb1⟩; have Hb1 := Lib.hid hb1; clear hb1)
      | (go_at_call 22; refine (KC.out _ Hb1.out).mono ?_; rintro e w2 ⟨rfl, rfl⟩))
    go_ret
    exact ⟨rfl, Hb1.out⟩
end Go.Proofs.YtlekingcmikopaaGreatDoor
