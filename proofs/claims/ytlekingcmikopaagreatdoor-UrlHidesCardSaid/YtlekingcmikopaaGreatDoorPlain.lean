/-
  Plain functions on lists of bytes: what is left out of an address, and how many bytes that is. No program in sight.
-/
import Derived.Lib.Bytealg
namespace Go.Proofs.YtlekingcmikopaaGreatDoor

/-- A tab, a line feed, a carriage return. -/
def isGone (x : UInt8) : Bool := x == 9 || x == 10 || x == 13
/-- A text without them. -/
def kept (l : List UInt8) : List UInt8 := l.filter fun x => !isGone x
/-- How many of them a text holds. -/
def goneN (l : List UInt8) : Nat := l.countP isGone

theorem kept_len (l : List UInt8) : (kept l).length + goneN l = l.length := by
  induction l with
  | nil => rfl
  | cons x l ih =>
    unfold kept goneN at *
    cases h : isGone x
    · simp [h]; omega
    · simp [h]; omega
theorem goneN_le (l : List UInt8) : goneN l ≤ l.length := by have := kept_len l; omega
theorem kept_of_none (l : List UInt8) (h : goneN l = 0) : kept l = l := by
  unfold kept goneN at *
  rw [List.countP_eq_zero] at h
  exact List.filter_eq_self.2 fun x hx => by have := h x hx; simpa using this

theorem goneN_counts (l : List UInt8) : Lib.countByte l 13 + Lib.countByte l 10 + Lib.countByte l 9 = goneN l := by
  unfold Lib.countByte goneN
  induction l with
  | nil => rfl
  | cons x l ih =>
    simp only [List.count_cons, List.countP_cons]
    by_cases h13 : x = 13
    · subst h13; simp [isGone]; omega
    · by_cases h10 : x = 10
      · subst h10; simp [isGone]; omega
      · by_cases h9 : x = 9
        · subst h9; simp [isGone]; omega
        · simp [isGone, h13, h10, h9]; omega

theorem take_snoc (l : List UInt8) (k : Nat) (h : k < l.length) : l.take (k + 1) = l.take k ++ [l[k]] := List.take_succ_eq_append_getElem h
theorem goneN_snoc (l : List UInt8) (x : UInt8) : goneN (l ++ [x]) = goneN l + if isGone x then 1 else 0 := by
  unfold goneN
  rw [List.countP_append]
  cases h : isGone x <;> simp [h]
theorem kept_snoc (l : List UInt8) (x : UInt8) : kept (l ++ [x]) = kept l ++ if isGone x then [] else [x] := by
  unfold kept
  rw [List.filter_append]
  cases h : isGone x <;> simp [h]
theorem goneN_take_le (l : List UInt8) (k : Nat) : goneN (l.take k) ≤ k := Nat.le_trans (goneN_le _) (List.length_take_le _ _)
theorem kept_take_le (l : List UInt8) (k : Nat) : (kept (l.take k)).length ≤ (kept l).length := by
  conv => rhs; rw [← List.take_append_drop k l]
  unfold kept
  rw [List.filter_append, List.length_append]
  omega
theorem kept_take_lt (l : List UInt8) (k : Nat) (h : k < l.length) (hx : isGone l[k] = false) : (kept (l.take k)).length < (kept l).length := by
  have h1 := kept_take_le l (k + 1)
  rw [take_snoc l k h, kept_snoc, hx] at h1
  simp at h1
  omega
end Go.Proofs.YtlekingcmikopaaGreatDoor
