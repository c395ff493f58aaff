/-
  Plain laws on bared addresses and their schemes. No program is walked here.
-/
import Derived.Test.YtlekingcmikopaaGreatDoorUrlB
namespace Go.Proofs.YtlekingcmikopaaGreatDoor
open Go.RowKit Go.Lib

theorem gone_sp (x : UInt8) (h : isGone x = true) : sp x = true := by
  rcases (by simpa [isGone] using h : (x = 9 ∨ x = 10) ∨ x = 13) with (h | h) | h <;> subst h <;> rfl

theorem rtrim_cons (x : UInt8) (r : List UInt8) : rtrim (x :: r) = if rtrim r = [] then (if sp x then [] else [x]) else x :: rtrim r := by
  unfold rtrim
  rw [List.reverse_cons, List.dropWhile_append]
  by_cases h : r.reverse.dropWhile sp = []
  · rw [h]
    simp only [List.isEmpty_nil, if_true, List.reverse_nil, List.dropWhile_cons, List.dropWhile_nil]
    cases sp x <;> rfl
  · have h1 : (r.reverse.dropWhile sp).isEmpty = false := by simpa using h
    have h2 : ¬ (r.reverse.dropWhile sp).reverse = [] := fun e => h (List.reverse_eq_nil_iff.1 e)
    rw [h1, if_neg h2, if_neg (by decide), List.reverse_append]
    rfl
theorem ltrim_cons (x : UInt8) (r : List UInt8) : ltrim (x :: r) = if sp x then ltrim r else x :: r := by
  unfold ltrim
  rw [List.dropWhile_cons]
theorem ltrim_idem (l : List UInt8) : ltrim (ltrim l) = ltrim l := by
  induction l with
  | nil => rfl
  | cons x r ih =>
    rw [ltrim_cons]
    cases h : sp x
    · simp only [Bool.false_eq_true, if_false]; rw [ltrim_cons, h]; rfl
    · exact ih
theorem rtrim_idem (l : List UInt8) : rtrim (rtrim l) = rtrim l := by
  have := ltrim_idem l.reverse
  unfold ltrim at this
  unfold rtrim
  rw [List.reverse_reverse, this]
theorem trim_comm (l : List UInt8) : ltrim (rtrim l) = rtrim (ltrim l) := by
  induction l with
  | nil => rfl
  | cons x r ih =>
    rw [ltrim_cons, rtrim_cons]
    cases h : sp x
    · simp only [Bool.false_eq_true, if_false]
      rw [rtrim_cons, h]
      by_cases hr : rtrim r = []
      · simp only [hr, if_true, Bool.false_eq_true, if_false, ltrim_cons, h]
      · simp only [hr, if_false, ltrim_cons, h, Bool.false_eq_true]
    · simp only [if_true]
      rw [← ih]
      by_cases hr : rtrim r = []
      · rw [if_pos hr, hr]
      · rw [if_neg hr, ltrim_cons, h]; rfl
theorem trimB_idem (l : List UInt8) : trimB (trimB l) = trimB l := by
  unfold trimB
  rw [trim_comm, rtrim_idem, ltrim_idem]

theorem kept_cons (x : UInt8) (r : List UInt8) : kept (x :: r) = if isGone x then kept r else x :: kept r := by
  unfold kept
  rw [List.filter_cons]
  cases isGone x <;> rfl
theorem kept_ltrim (l : List UInt8) : ltrim (kept l) = kept (ltrim l) := by
  induction l with
  | nil => rfl
  | cons x r ih =>
    rw [kept_cons, ltrim_cons]
    cases hg : isGone x
    · simp only [Bool.false_eq_true, if_false]
      rw [ltrim_cons]
      cases hs : sp x
      · simp only [Bool.false_eq_true, if_false]; rw [kept_cons, hg]; rfl
      · exact ih
    · rw [gone_sp x hg]; exact ih
theorem kept_reverse (l : List UInt8) : kept l.reverse = (kept l).reverse := by unfold kept; rw [List.filter_reverse]
theorem rtrim_eq (l : List UInt8) : rtrim l = (ltrim l.reverse).reverse := rfl
theorem kept_rtrim (l : List UInt8) : rtrim (kept l) = kept (rtrim l) := by
  rw [rtrim_eq, rtrim_eq, ← kept_reverse, kept_ltrim, kept_reverse]
theorem kept_idem (l : List UInt8) : kept (kept l) = kept l := by unfold kept; rw [List.filter_filter]; congr 1; funext x; simp
/-- Bared twice is once. -/
theorem bareL_idem (l : List UInt8) : bareL (bareL l) = bareL l := by
  have h : trimB (kept (trimB l)) = kept (trimB (trimB l)) := by
    unfold trimB
    rw [kept_ltrim, kept_rtrim]
  unfold bareL
  rw [h, kept_idem, trimB_idem]
theorem bareL_gone (l : List UInt8) (x : UInt8) (h : x ∈ bareL l) : isGone x = false := by
  unfold bareL kept at h
  have := (List.mem_filter.1 h).2
  simpa using this
theorem dropWhile_mem {p : UInt8 → Bool} {l : List UInt8} {x : UInt8} (h : x ∈ l.dropWhile p) : x ∈ l := (List.dropWhile_sublist p).mem h
theorem bareL_mem (l : List UInt8) (x : UInt8) (h : x ∈ bareL l) : x ∈ l := by
  unfold bareL kept at h
  have h1 := (List.mem_filter.1 h).1
  unfold trimB rtrim at h1
  have h2 := List.mem_reverse.1 (dropWhile_mem (List.mem_reverse.1 h1))
  exact dropWhile_mem h2

/-! ### letters -/
theorem low_low (c : Int) : low (low c) = low c := by
  unfold low
  by_cases h : 65 ≤ c ∧ c ≤ 90
  · rw [if_pos h, if_neg (by omega)]
  · rw [if_neg h, if_neg h]
theorem digit_low (c : Int) : inB (low c) 48 57 = inB c 48 57 := by
  unfold low inB
  by_cases h : 65 ≤ c ∧ c ≤ 90
  · rw [if_pos h, Bool.eq_iff_iff]; simp; omega
  · rw [if_neg h]
theorem pm_low (c : Int) : isPM (low c) = isPM c := by
  unfold low isPM
  by_cases h : 65 ≤ c ∧ c ≤ 90
  · rw [if_pos h, Bool.eq_iff_iff]; simp; omega
  · rw [if_neg h]
theorem may_low (x : UInt8) (k : Nat) : may (lowB x) k = may x k := by
  unfold may
  rw [← lowB_low, low_low, digit_low, pm_low]
theorem lowB_idem (x : UInt8) : lowB (lowB x) = lowB x := by
  have h := low_low (x.toNat : Int)
  rw [lowB_low, lowB_low] at h
  exact UInt8.toNat_inj.1 (by omega)
theorem small_idem (l : List UInt8) : small (small l) = small l := by
  unfold small
  rw [List.map_map]
  congr 1
  funext x
  exact lowB_idem x
theorem letters_small : ∀ (l : List UInt8) (k : Nat), lettersFrom (small l) k = lettersFrom l k
  | [], _ => rfl
  | x :: l, k => by
    have ih := letters_small l (k + 1)
    unfold small at ih ⊢
    rw [List.map_cons]
    unfold lettersFrom
    rw [may_low, ih]
theorem letters_cons (x : UInt8) (l : List UInt8) (k : Nat) : lettersFrom (x :: l) k = if may x k then lettersFrom l (k + 1) else k := rfl
theorem letters_take : ∀ (l : List UInt8) (k : Nat), lettersFrom (l.take (lettersFrom l k - k)) k = lettersFrom l k
  | [], _ => by simp [lettersFrom]
  | x :: l, k => by
    have ih := letters_take l (k + 1)
    have hle := lettersFrom_le l (k + 1)
    rw [letters_cons]
    cases h : may x k with
    | true =>
      rw [if_pos rfl]
      obtain ⟨d, hd⟩ : ∃ d, lettersFrom l (k + 1) - k = d + 1 := ⟨lettersFrom l (k + 1) - k - 1, by omega⟩
      rw [hd, List.take_succ_cons, letters_cons, h, if_pos rfl, show d = lettersFrom l (k + 1) - (k + 1) by omega]
      exact ih
    | false => rw [if_neg (by decide), Nat.sub_self]; rfl
theorem schL_right (l : List UInt8) (h : hasL l = true) : rightL (schL l) = true := by
  have hle := lettersN_le l
  have hpos : 0 < lettersN l := by unfold hasL at h; simp at h; exact h.1.1
  have h1 : lettersN (l.take (lettersN l)) = lettersN l := by have := letters_take l 0; rwa [Nat.sub_zero] at this
  have h2 : lettersN (schL l) = lettersN l := by
    unfold schL; rw [if_pos h]
    show lettersFrom (small _) 0 = _
    rw [letters_small]
    exact h1
  have h3 : (schL l).length = lettersN l := by unfold schL; rw [if_pos h]; unfold small; rw [List.length_map, List.length_take]; omega
  have h4 : small (schL l) = schL l := by unfold schL; rw [if_pos h, small_idem]
  have h5 : (schL l).isEmpty = false := by
    cases he : schL l with
    | nil => rw [he] at h3; simp at h3; omega
    | cons _ _ => rfl
  unfold rightL
  rw [h5, h2, h3, h4]
  simp

/-! ### what begins with a byte that no scheme has -/
theorem bareL_head (c : UInt8) (l : List UInt8) (hs : sp c = false) : ∃ r, bareL (c :: l) = c :: r := by
  have hg : isGone c = false := by
    cases h : isGone c with
    | false => rfl
    | true => rw [gone_sp c h] at hs; cases hs
  unfold bareL trimB
  rw [ltrim_cons, hs]
  simp only [Bool.false_eq_true, if_false]
  rw [rtrim_cons, hs]
  by_cases hr : rtrim l = []
  · rw [if_pos hr]; simp only [Bool.false_eq_true, if_false]; rw [kept_cons, hg]; exact ⟨_, rfl⟩
  · rw [if_neg hr, kept_cons, hg]; exact ⟨_, rfl⟩
theorem hasL_none (c : UInt8) (l : List UInt8) (hs : sp c = false) (hm : may c 0 = false) : hasL (bareL (c :: l)) = false := by
  obtain ⟨r, hr⟩ := bareL_head c l hs
  rw [hr]
  have : lettersN (c :: r) = 0 := by unfold lettersN lettersFrom; rw [hm]; rfl
  unfold hasL
  rw [this]
  rfl
theorem hasL_colon (l : List UInt8) (h : hasL (bareL l) = true) : (58 : UInt8) ∈ l := by
  unfold hasL at h
  simp at h
  exact bareL_mem l 58 (List.mem_of_getElem? h.2)
end Go.Proofs.YtlekingcmikopaaGreatDoor
