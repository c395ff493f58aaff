/-
  Plain law: Go's way of trimming the runes up to 32 from both ends of a text takes away the bytes up to 32 at both ends. No program in sight.
-/
import Derived.Shelf.GgClosure.StringsTrimFunc
import Derived.Lib.TrimUEq
import Derived.Test.YtlekingcmikopaaGreatDoorPlain
namespace Go.Proofs.YtlekingcmikopaaGreatDoor
open Go.Lib

/-- A byte from 0 to 32. -/
def sp (x : UInt8) : Bool := decide (x.toNat ≤ 32)
def ltrim (l : List UInt8) : List UInt8 := l.dropWhile sp
def rtrim (l : List UInt8) : List UInt8 := (l.reverse.dropWhile sp).reverse
/-- A text without the bytes 0 to 32 at both its ends. -/
def trimB (l : List UInt8) : List UInt8 := rtrim (ltrim l)
/-- What url.Bare's own predicate says of a rune. -/
def blankR (r : Nat) : Bool := decide (r ≤ 32)

theorem rtrim_nil : rtrim [] = [] := rfl
theorem rtrim_snoc (l : List UInt8) (x : UInt8) : rtrim (l ++ [x]) = if sp x then rtrim l else l ++ [x] := by
  unfold rtrim
  rw [List.reverse_append]
  simp only [List.reverse_cons, List.reverse_nil, List.nil_append, List.singleton_append, List.dropWhile_cons]
  cases sp x <;> simp

set_option maxRecDepth 100000 in
/-- A form that does not begin with a byte below 128 is no rune below 128. -/
theorem decodeN_big (n b0 b1 b2 b3 : Nat) (h : 128 ≤ b0) : 128 ≤ (decodeN n b0 b1 b2 b3).1 := by
  unfold decodeN
  repeat' split
  all_goals first | (exfalso; omega) | (simp only; omega) | (simp only [Utf8.runeError]; omega)

theorem getD_lt (l : List UInt8) (i : Nat) (h : i < l.length) : l.getD i 0 = l[i] := by simp [List.getD, h]

theorem left_law (s : ByteArray) : ∀ (f pos : Nat), s.size ≤ pos + f →
    (s.data.toList.drop pos).dropWhile sp = if idxFuncFrom blankR false s f pos = -1 then [] else s.data.toList.drop (idxFuncFrom blankR false s f pos).toNat
  | 0, pos, h => by
    have : s.data.toList.drop pos = [] := List.drop_eq_nil_of_le (by rw [← size_eq]; omega)
    simp [idxFuncFrom, this]
  | f + 1, pos, h => by
    by_cases hp : pos < s.size
    · have hpl : pos < s.data.toList.length := by rw [← size_eq]; exact hp
      have hd : s.data.toList.drop pos = s.data.toList[pos] :: s.data.toList.drop (pos + 1) := List.drop_eq_getElem_cons hpl
      have hN := decode_N s pos
      rw [getD_lt _ _ hpl] at hN
      simp only [idxFuncFrom, if_pos hp]
      by_cases ha : s.data.toList[pos].toNat < 128
      · rw [decodeN_ascii _ _ _ _ _ ha] at hN
        rw [hN]
        simp only
        cases hs : sp s.data.toList[pos] with
        | true =>
          have hb : blankR s.data.toList[pos].toNat = true := hs
          rw [hb, if_neg (show ¬ true = false by decide), hd, List.dropWhile_cons, hs]
          simp only [if_true]
          exact left_law s f (pos + 1) (by omega)
        | false =>
          have hb : blankR s.data.toList[pos].toNat = false := hs
          rw [hb, if_pos rfl, if_neg (by omega), Int.toNat_natCast, hd, List.dropWhile_cons, hs]
          simp
      · have hb : blankR (Utf8.decode s pos).1 = false := by
          have h1 := decodeN_big (s.data.toList.length - pos) s.data.toList[pos].toNat (s.data.toList.getD (pos + 1) 0).toNat (s.data.toList.getD (pos + 2) 0).toNat (s.data.toList.getD (pos + 3) 0).toNat (by omega)
          rw [hN]
          unfold blankR
          exact decide_eq_false (by omega)
        have hs : sp s.data.toList[pos] = false := by unfold sp; exact decide_eq_false (by omega)
        rw [hb, if_pos rfl, if_neg (by omega), Int.toNat_natCast, hd, List.dropWhile_cons, hs]
        simp
    · have : s.data.toList.drop pos = [] := List.drop_eq_nil_of_le (by rw [← size_eq]; omega)
      rw [this, idxFuncFrom_end _ _ _ _ _ hp, if_pos rfl]
      rfl

theorem trimLeft_law (s : ByteArray) : (trimLeftF blankR s).data.toList = ltrim s.data.toList := by
  have h := left_law s s.size 0 (by omega)
  rw [List.drop_zero] at h
  unfold ltrim trimLeftF idxFunc
  rw [h]
  split
  · rfl
  · rw [extract_data, List.take_of_length_le (by rw [List.length_drop, ← size_eq]; exact Nat.le_refl _)]

theorem last_big (l : List UInt8) (i : Nat) (hi : 0 < i) (hil : i ≤ l.length) (hb : 128 ≤ (l.getD (i - 1) 0).toNat) : 128 ≤ (decodeLastL (l.take i)).1 := by
  rcases last_cases l i hi hil with ⟨ha, hd⟩ | ⟨ha, hd⟩ | ⟨ha, st, hst, hd, hsum⟩
  · omega
  · rw [hd]; decide
  · rw [hd]
    rw [decodeL_N] at hsum ⊢
    rw [getD_dropU, Nat.add_zero, getD_takeU l i st hst] at hsum ⊢
    by_cases hc : (l.getD st 0).toNat < 128
    · rw [decodeN_ascii _ _ _ _ _ hc] at hsum
      have : st = i - 1 := by simp only at hsum; omega
      subst this
      omega
    · exact decodeN_big _ _ _ _ _ (by omega)

theorem right_law (s : ByteArray) : ∀ (f i : Nat), i ≤ f → i ≤ s.data.toList.length → OpenAt s.data.toList i →
    rtrim (s.data.toList.take i) = s.data.toList.take (if 0 ≤ lastIdxFuncFrom blankR false s f i then (lastIdxFuncFrom blankR false s f i).toNat + (decodeL (s.data.toList.drop (lastIdxFuncFrom blankR false s f i).toNat)).2 else 0)
  | 0, i, hf, _, _ => by
    obtain rfl : i = 0 := by omega
    simp [rtrim, lastIdxFuncFrom]
  | f + 1, i, hf, hil, ho => by
    by_cases hi : 0 < i
    · have hlt : i - 1 < s.data.toList.length := by omega
      have hsn : s.data.toList.take i = s.data.toList.take (i - 1) ++ [s.data.toList[i - 1]] := by
        have := take_snoc s.data.toList (i - 1) hlt
        rwa [show i - 1 + 1 = i by omega] at this
      have hgd := getD_lt _ _ hlt
      have hw := decodeLastL_width (s.data.toList.take i) (by rw [List.length_take]; omega)
      rw [List.length_take, Nat.min_eq_left hil] at hw
      simp only [lastIdxFuncFrom, if_pos hi]
      by_cases ha : s.data.toList[i - 1].toNat < 128
      · rcases last_cases s.data.toList i hi hil with ⟨_, hd⟩ | ⟨hb, _⟩ | ⟨hb, _⟩
        · cases hs : sp s.data.toList[i - 1] with
          | true =>
            have hb : blankR (s.data.toList.getD (i - 1) 0).toNat = true := by rw [hgd]; exact hs
            rw [hsn, rtrim_snoc, hs, ← hsn, hd]
            simp only [if_true]
            rw [hb, if_neg (show ¬ true = false by decide)]
            exact right_law s f (i - 1) (by omega) (by omega) (.inr (by rw [hgd]; omega))
          | false =>
            have hb : blankR (decodeLastL (s.data.toList.take i)).1 = false := by rw [hd]; simp only; rw [hgd]; exact hs
            rw [hb, if_pos rfl, if_pos (by omega), Int.toNat_natCast, fw_width _ i hi hil ho, Nat.sub_add_cancel hw.2, hsn, rtrim_snoc, hs]
            simp
        · rw [hgd] at hb; omega
        · rw [hgd] at hb; omega
      · have hbig := last_big _ i hi hil (by rw [hgd]; omega)
        have hb : blankR (decodeLastL (s.data.toList.take i)).1 = false := by unfold blankR; exact decide_eq_false (by omega)
        have hs : sp s.data.toList[i - 1] = false := by unfold sp; exact decide_eq_false (by omega)
        rw [hb, if_pos rfl, if_pos (by omega), Int.toNat_natCast, fw_width _ i hi hil ho, Nat.sub_add_cancel hw.2, hsn, rtrim_snoc, hs]
        simp
    · obtain rfl : i = 0 := by omega
      rw [lastIdxFuncFrom_zero]
      simp [rtrim]

theorem last_lt (s : ByteArray) : ∀ (f i : Nat), i ≤ s.size → lastIdxFuncFrom blankR false s f i = -1 ∨ (0 ≤ lastIdxFuncFrom blankR false s f i ∧ lastIdxFuncFrom blankR false s f i < i)
  | 0, _, _ => .inl rfl
  | f + 1, i, hi => by
    unfold lastIdxFuncFrom
    split
    · rename_i h0
      have hw := decodeLastL_width (s.data.toList.take i) (by rw [List.length_take, ← size_eq]; omega)
      rw [List.length_take, ← size_eq, Nat.min_eq_left hi] at hw
      split
      · exact .inr ⟨by omega, by omega⟩
      · rcases last_lt s f (i - (decodeLastL (s.data.toList.take i)).2) (by omega) with h | h
        · exact .inl h
        · exact .inr ⟨h.1, by omega⟩
    · exact .inl rfl

theorem trimRight_law (s : ByteArray) : (trimRightF blankR s).data.toList = rtrim s.data.toList := by
  have h := right_law s s.size s.size (Nat.le_refl _) (by rw [← size_eq]; exact Nat.le_refl _) (.inl (size_eq s))
  rw [List.take_of_length_le (by rw [← size_eq]; exact Nat.le_refl _)] at h
  rw [h]
  unfold trimRightF rightEndF lastIdxFunc
  rw [extract_data, List.drop_zero, Nat.sub_zero]
  congr 1
  split
  · rename_i h0
    congr 2
    rcases last_lt s s.size s.size (Nat.le_refl _) with hm | hlt
    · omega
    · have hx : s.extract (lastIdxFuncFrom blankR false s s.size s.size).toNat s.size = ⟨(s.data.toList.drop (lastIdxFuncFrom blankR false s s.size s.size).toNat).toArray⟩ := by
        rw [extract_eq, List.take_of_length_le (by rw [List.length_drop, ← size_eq]; exact Nat.le_refl _)]
      have hxs : (⟨(s.data.toList.drop (lastIdxFuncFrom blankR false s s.size s.size).toNat).toArray⟩ : ByteArray).size ≠ 0 := by
        rw [size_eq]
        simp only [List.length_drop]
        rw [← size_eq]
        omega
      rw [hx]
      unfold decodeGoB decodeL
      rw [if_neg hxs]
  · rfl

/-- **strings.TrimFunc at runes up to 32.** -/
theorem trim_law (s : ByteArray) : (trimF blankR s).data.toList = trimB s.data.toList := by
  unfold trimF trimB
  rw [trimRight_law, trimLeft_law]
end Go.Proofs.YtlekingcmikopaaGreatDoor
