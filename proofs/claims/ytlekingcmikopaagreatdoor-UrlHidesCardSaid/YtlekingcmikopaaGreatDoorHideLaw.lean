/-
  Plain law: an address in which blanks stand ahead, and tabs, line feeds and carriage returns within, has the scheme that stands in it. No program in sight.
-/
import Derived.Test.YtlekingcmikopaaGreatDoorLaws
import Derived.Test.YtlekingcmikopaaGreatDoorRefD
namespace Go.Proofs.YtlekingcmikopaaGreatDoor
open Go.Lib

theorem may_big (x : UInt8) (k : Nat) (h : may x k = true) : 43 ≤ x.toNat ∧ x.toNat ≤ 122 := by
  unfold may inB low isPM at h
  simp at h
  split at h <;> omega
theorem may_sp (x : UInt8) (k : Nat) (h : may x k = true) : sp x = false := by
  have := may_big x k h
  unfold sp
  exact decide_eq_false (by omega)
theorem may_gone (x : UInt8) (k : Nat) (h : may x k = true) : isGone x = false := by
  have h1 := may_sp x k h
  cases h2 : isGone x with
  | false => rfl
  | true => rw [gone_sp x h2] at h1; cases h1

theorem may_all : ∀ (l : List UInt8) (k : Nat), lettersFrom l k = k + l.length → ∀ x ∈ l, ∃ j, may x j = true
  | [], _, _, x, hx => by cases hx
  | y :: l, k, h, x, hx => by
    rw [letters_cons] at h
    cases hm : may y k with
    | false => rw [hm] at h; simp at h
    | true =>
      rw [hm] at h
      rcases List.mem_cons.1 hx with rfl | hx
      · exact ⟨k, hm⟩
      · exact may_all l (k + 1) (by simp at h; omega) x hx

theorem letters_colon : ∀ (l r : List UInt8) (k : Nat), lettersFrom l k = k + l.length → lettersFrom (l ++ 58 :: r) k = k + l.length
  | [], r, k, _ => by rw [List.nil_append, letters_cons, may_58]; rfl
  | y :: l, r, k, h => by
    rw [letters_cons] at h
    rw [List.cons_append, letters_cons]
    cases hm : may y k with
    | false => rw [hm] at h; simp at h
    | true =>
      rw [hm] at h
      simp only [if_true] at h ⊢
      rw [letters_colon l r (k + 1) (by simp at h; omega)]
      simp
      omega

theorem kept_app (a b : List UInt8) : kept (a ++ b) = kept a ++ kept b := List.filter_append ..
theorem kept_may (l : List UInt8) (k : Nat) (h : lettersFrom l k = k + l.length) : kept l = l :=
  List.filter_eq_self.2 fun x hx => by
    obtain ⟨j, hj⟩ := may_all l k h x hx
    rw [may_gone x j hj]; rfl
theorem rtrim_colon (r : List UInt8) : ∃ r', rtrim (58 :: r) = 58 :: r' := by
  rw [rtrim_cons]
  split
  · rw [show sp 58 = false by decide]; exact ⟨[], rfl⟩
  · exact ⟨_, rfl⟩
theorem rtrim_app : ∀ (g t : List UInt8) (x : UInt8) (r : List UInt8), rtrim t = x :: r → rtrim (g ++ t) = g ++ x :: r
  | [], t, x, r, h => h
  | y :: g, t, x, r, h => by
    have := rtrim_app g t x r h
    rw [List.cons_append, rtrim_cons, this, if_neg (by simp)]
    rfl
theorem ltrim_blanks : ∀ (p l : List UInt8), (∀ x ∈ p, sp x = true) → ltrim (p ++ l) = ltrim l
  | [], l, _ => rfl
  | x :: p, l, h => by
    rw [List.cons_append, ltrim_cons, h x (by simp), if_pos rfl]
    exact ltrim_blanks p l fun y hy => h y (by simp [hy])

theorem bared (p g r l : List UInt8) (hp : ∀ x ∈ p, sp x = true) (hg : lettersN g = g.length) (hne : g ≠ []) (hl : kept l = p ++ (g ++ 58 :: r)) : ∃ r', bareL l = g ++ 58 :: r' := by
  unfold bareL trimB
  rw [← kept_rtrim, ← kept_ltrim, hl, ltrim_blanks _ _ hp]
  cases g with
  | nil => exact absurd rfl hne
  | cons x g =>
    obtain ⟨r', hr⟩ := rtrim_colon r
    have hx : sp x = false := by
      unfold lettersN at hg
      rw [letters_cons] at hg
      cases hm : may x 0 with
      | true => exact may_sp x 0 hm
      | false => rw [hm] at hg; simp at hg
    rw [List.cons_append, ltrim_cons, hx]
    exact ⟨r', rtrim_app (x :: g) (58 :: r) 58 r' hr⟩

theorem hides (p g r l : List UInt8) (hp : ∀ x ∈ p, sp x = true) (hg : lettersN g = g.length) (hne : g ≠ []) (hl : kept l = p ++ (g ++ 58 :: r)) : hasL (bareL l) = true ∧ schL (bareL l) = small g := by
  obtain ⟨r', hb⟩ := bared p g r l hp hg hne hl
  have hn : lettersN (g ++ 58 :: r') = g.length := by
    have := letters_colon g r' 0 (by rw [Nat.zero_add]; exact hg)
    rwa [Nat.zero_add] at this
  have hpos : 0 < g.length := List.length_pos_iff.2 hne
  have hh : hasL (g ++ 58 :: r') = true := by
    unfold hasL
    rw [hn]
    simp [hpos]
  rw [hb]
  refine ⟨hh, ?_⟩
  unfold schL
  rw [hh, hn, if_pos rfl]
  simp

theorem right_parts (l : List UInt8) (h : rightL l = true) : l ≠ [] ∧ lettersN l = l.length ∧ small l = l := by
  unfold rightL at h
  simp at h
  exact ⟨h.1, h.2⟩
theorem great_letters (g s : List UInt8) (hr : rightL s = true) (h : small g = s) : lettersN g = g.length ∧ g ≠ [] := by
  obtain ⟨hne, hn, _⟩ := right_parts s hr
  have hlen : s.length = g.length := by rw [← h]; unfold small; exact List.length_map _
  have : lettersN (small g) = lettersN g := letters_small g 0
  refine ⟨by rw [← this, h, hn, hlen], fun e => hne ?_⟩
  rw [← h, e]
  rfl

/-- The address with what is hidden in it. -/
theorem hidden (g s bl b : List UInt8) (k : Nat) (hr : rightL s = true) (h : small g = s) (hbl : kept bl = []) : hasL (bareL ([1, 32, 9] ++ g.take k ++ bl ++ g.drop k ++ [58] ++ b)) = true ∧ schL (bareL ([1, 32, 9] ++ g.take k ++ bl ++ g.drop k ++ [58] ++ b)) = s := by
  obtain ⟨hg, hne⟩ := great_letters g s hr h
  have hk := kept_may g 0 (by rw [Nat.zero_add]; exact hg)
  have := hides [1, 32] g (kept b) ([1, 32, 9] ++ g.take k ++ bl ++ g.drop k ++ [58] ++ b) (by decide) hg hne (by
    rw [kept_app, kept_app, kept_app, kept_app, kept_app, hbl, List.append_nil, show kept [1, 32, 9] = [1, 32] by decide, show kept [58] = [58] by decide]
    rw [List.append_assoc [1, 32], ← kept_app, List.take_append_drop, hk]
    simp)
  rwa [h] at this
theorem plainly (s b : List UInt8) (hr : rightL s = true) : hasL (bareL (s ++ [58] ++ b)) = true ∧ schL (bareL (s ++ [58] ++ b)) = s := by
  obtain ⟨hne, hn, hs⟩ := right_parts s hr
  have hk := kept_may s 0 (by rw [Nat.zero_add]; exact hn)
  have := hides [] s (kept b) (s ++ [58] ++ b) (by simp) hn hne (by
    rw [kept_app, kept_app, hk, show kept [58] = [58] by decide]
    simp)
  rwa [hs] at this
end Go.Proofs.YtlekingcmikopaaGreatDoor
