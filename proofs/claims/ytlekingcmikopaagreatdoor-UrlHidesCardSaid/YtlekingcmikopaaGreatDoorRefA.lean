/-
  The walks of the document's own small functions: decanterref03.Lower, Letter, Digit, Small; decanterref19.may, Right.
-/
import Derived.Test.YtlekingcmikopaaGreatDoorUrlB
namespace Go.Proofs.YtlekingcmikopaaGreatDoor
open Go.RowKit Go.Lib

/-- A byte as a value. -/
def bv (x : UInt8) : Value := .int .u8 (x.toNat : Int)

section
variable {ops : Array Oper} {rest : List Oper} {o : Oper} {a : Act} {w : World} {Q : Exit → Act → World → Prop}
/-- One byte appended to a slice of the call's own. -/
theorem wpList_append_byte (hg : o.guard = none) (s x : Operand) (ho : o.op = .call { callee := .builtin .append, args := #[s, x], argTypes := #[39, 39] })
    (base g cap : Nat) (l : List UInt8) (hs : a.eval s = .slice (some ⟨g, 0, none⟩) l.length cap) (hown : w.ownsRow base 5 1 (.slice (some ⟨g, 0, none⟩) l.length cap) l.length (l.map bv))
    (b : Nat) (y : UInt8) (hx : a.eval x = .slice (some ⟨b, 0, none⟩) 1 1) (hc : w.cell? ⟨b, 0, none⟩ = some (bv y)) (hsmall : l.length ≤ 1000000) (hbase : base ≤ w.heap.size)
    (h : ∀ g' cap' w', w'.ownsRow base 5 1 (.slice (some ⟨g', 0, none⟩) (l ++ [y]).length cap') (l ++ [y]).length ((l ++ [y]).map bv) → w.grownBy w' (some g) → wpList Tryz.prog ops Q rest (a.put o.dst (.slice (some ⟨g', 0, none⟩) (l ++ [y]).length cap')) w') :
    wpList Tryz.prog ops Q (o :: rest) a w := by
  obtain ⟨i5, hi5, hz5, hs5, hby5⟩ := info_parts info5
  refine wpList_append_own w hg s x 39 ho base 5 i5 (.int .u8 0) 1 1 Tryz.underlying39 hi5 hz5 hs5 hby5 rfl (by omega) _ l.length (l.map bv) hs hown ⟨b, 0, none⟩ 1 1 [bv y] hx rfl ?_ (by simp [Value.oneCell', bv]) (by unfold maxLen; omega) (by omega) hbase ?_
  · intro j u hu
    cases j with
    | zero => simp only [List.getElem?_cons_zero, Option.some.injEq] at hu; subst hu; exact hc
    | succ j => simp at hu
  · intro v' w' hown' hgr hne
    obtain ⟨g', cap', hv⟩ := owns_val hown' (fun e => by have := (hne.1 e).1; simp at this)
    subst hv
    have := h g' cap' w' (by simpa using hown') hgr
    simpa using this

theorem wpList_back_own (hg : o.guard = none) (x : Operand) (ho : o.op = .convert 39 9 x) (base b c : Nat) (l : List UInt8) (hx : a.eval x = .slice (some ⟨b, 0, none⟩) l.length c) (hr : w.ownsRow base 5 1 (.slice (some ⟨b, 0, none⟩) l.length c) l.length (l.map bv))
    (h : wpList Tryz.prog ops Q rest (a.put o.dst (.string ⟨l.toArray⟩)) w) : wpList Tryz.prog ops Q (o :: rest) a w := by
  refine Great.wpList_runTo hg o.dst rfl _ w ?_ h
  have := run_convert_bytes_back (P := Tryz.prog) w 39 9 5 ⟨b, 0, none⟩ c l Tryz.underlying39 Tryz.underlying5 Tryz.underlying9 (fun j hj => by
    have hadd : (⟨b, 0, none⟩ : Addr).add j = ⟨b, j, none⟩ := by unfold Addr.add; split <;> simp_all
    rw [hadd]
    exact owns_cell hr j _ (by simp [bv, hj]))
  simp [execOp, ho, hx, this, Result.andThen]
end

theorem rlower_any (c : Int) (w : World) (h0 : 0 ≤ c) (h1 : c ≤ 255) : Calls Tryz.prog 19 #[.int .i64 c] w fun e w' => e = .returned (.int .i64 (low c)) ∧ w = w' := by
  by_cases ha : (65 : Int) ≤ c
  · by_cases hb : c ≤ (90 : Int)
    · have hl : low c = c + 32 := by unfold low; rw [if_pos ⟨ha, hb⟩]
      rw [hl]
      clear hl
      go_enter Tryz.func19, Tryz.ntmps19
      go_wp2_with fail
      go_ret
      exact ⟨rfl, rfl⟩
    · have hl : low c = c := by unfold low; rw [if_neg (by omega)]
      rw [hl]
      clear hl
      go_enter Tryz.func19, Tryz.ntmps19
      go_wp2_with fail
      go_ret
      exact ⟨rfl, rfl⟩
  · have hl : low c = c := by unfold low; rw [if_neg (by omega)]
    rw [hl]
    clear hl
    go_enter Tryz.func19, Tryz.ntmps19
    go_wp2_with fail
    go_ret
    exact ⟨rfl, rfl⟩
theorem rlowB_any (x : UInt8) (w : World) : Calls Tryz.prog 19 #[.int .i64 (x.toNat : Int)] w fun e w' => e = .returned (.int .i64 ((lowB x).toNat : Int)) ∧ w = w' := by
  have := UInt8.toNat_lt x
  rw [← lowB_low]
  exact rlower_any _ w (by omega) (by omega)

theorem rletter_any (c : Int) (w : World) : Calls Tryz.prog 28 #[.int .i64 c] w fun e w' => e = .returned (.bool (inB (low c) 97 122)) ∧ w = w' := by
  by_cases ha : (65 : Int) ≤ c
  · by_cases hb : c ≤ (90 : Int)
    · have hl : inB (low c) 97 122 = true := by unfold low inB; rw [if_pos ⟨ha, hb⟩]; simp; omega
      rw [hl]
      clear hl
      go_enter Tryz.func28, Tryz.ntmps28
      go_wp2_with fail
      go_ret
      exact ⟨rfl, rfl⟩
    · by_cases hd : (97 : Int) ≤ c
      · by_cases he : c ≤ (122 : Int)
        · have hl : inB (low c) 97 122 = true := by unfold low inB; rw [if_neg (by omega)]; simp; omega
          rw [hl]
          clear hl
          go_enter Tryz.func28, Tryz.ntmps28
          go_wp2_with fail
          go_ret
          exact ⟨rfl, rfl⟩
        · have hl : inB (low c) 97 122 = false := by unfold low inB; rw [if_neg (by omega)]; simp; omega
          rw [hl]
          clear hl
          go_enter Tryz.func28, Tryz.ntmps28
          go_wp2_with fail
          go_ret
          exact ⟨rfl, rfl⟩
      · have hl : inB (low c) 97 122 = false := by unfold low inB; rw [if_neg (by omega)]; simp; omega
        rw [hl]
        clear hl
        go_enter Tryz.func28, Tryz.ntmps28
        go_wp2_with fail
        go_ret
        exact ⟨rfl, rfl⟩
  · have hl : inB (low c) 97 122 = false := by unfold low inB; rw [if_neg (by omega)]; simp; omega
    rw [hl]
    clear hl
    go_enter Tryz.func28, Tryz.ntmps28
    go_wp2_with fail
    go_ret
    exact ⟨rfl, rfl⟩

theorem rdigit_any (c : Int) (w : World) : Calls Tryz.prog 29 #[.int .i64 c] w fun e w' => e = .returned (.bool (inB c 48 57)) ∧ w = w' := by
  by_cases ha : (48 : Int) ≤ c
  · by_cases hb : c ≤ (57 : Int)
    · have hl : inB c 48 57 = true := by unfold inB; simp; omega
      rw [hl]
      clear hl
      go_enter Tryz.func29, Tryz.ntmps29
      go_wp2_with fail
      go_ret
      exact ⟨rfl, rfl⟩
    · have hl : inB c 48 57 = false := by unfold inB; simp; omega
      rw [hl]
      clear hl
      go_enter Tryz.func29, Tryz.ntmps29
      go_wp2_with fail
      go_ret
      exact ⟨rfl, rfl⟩
  · have hl : inB c 48 57 = false := by unfold inB; simp; omega
    rw [hl]
    clear hl
    go_enter Tryz.func29, Tryz.ntmps29
    go_wp2_with fail
    go_ret
    exact ⟨rfl, rfl⟩

set_option maxRecDepth 100000 in
set_option maxHeartbeats 1000000 in
theorem rmay_any (x : UInt8) (k : Nat) (w : World) : Calls Tryz.prog 18 #[.int .u8 (x.toNat : Int), .int .i64 (k : Int)] w fun e w' => e = .returned (.bool (may x k)) ∧ w = w' := by
  have hx : (x.toNat : Int) < 256 := by have := UInt8.toNat_lt x; omega
  have KL := Lib.hid fun w => rletter_any (x.toNat : Int) w
  have KD := Lib.hid fun w => rdigit_any (x.toNat : Int) w
  cases hL : inB (low (x.toNat : Int)) 97 122 with
  | true =>
    rw [hL] at KL
    have H : may x k = true := by unfold may isPM; rw [hL]; rfl
    rw [H]
    clear H
    generalize x.toNat = n at *
    go_enter Tryz.func18, Tryz.ntmps18
    go_wp2_with (first
      | (go_at_call 28; refine (KL.out _).mono ?_; rintro e w' ⟨rfl, rfl⟩)
      | (go_at_call 29; refine (KD.out _).mono ?_; rintro e w' ⟨rfl, rfl⟩))
    go_ret
    exact ⟨rfl, rfl⟩
  | false =>
    rw [hL] at KL
    by_cases hk : 0 < k
    · cases hD : inB (x.toNat : Int) 48 57 with
      | true =>
        rw [hD] at KD
        have H : may x k = true := by unfold may isPM; rw [hL, hD]; simp [hk]
        rw [H]
        clear H
        generalize x.toNat = n at *
        go_enter Tryz.func18, Tryz.ntmps18
        go_wp2_with (first
          | (go_at_call 28; refine (KL.out _).mono ?_; rintro e w' ⟨rfl, rfl⟩)
          | (go_at_call 29; refine (KD.out _).mono ?_; rintro e w' ⟨rfl, rfl⟩))
        go_ret
        exact ⟨rfl, rfl⟩
      | false =>
        rw [hD] at KD
        cases h1 : ((x.toNat : Int) == 43) with
        | true =>
          have H : may x k = true := by unfold may isPM; rw [hL, hD]; simp [hk]; simp at h1; omega
          rw [H]
          clear H
          generalize x.toNat = n at *
          go_enter Tryz.func18, Tryz.ntmps18
          go_wp2_with (first
            | (go_at_call 28; refine (KL.out _).mono ?_; rintro e w' ⟨rfl, rfl⟩)
            | (go_at_call 29; refine (KD.out _).mono ?_; rintro e w' ⟨rfl, rfl⟩))
          go_ret
          exact ⟨rfl, rfl⟩
        | false =>
          cases h2 : ((x.toNat : Int) == 45) with
          | true =>
            have H : may x k = true := by unfold may isPM; rw [hL, hD]; simp [hk]; simp at h2; omega
            rw [H]
            clear H
            generalize x.toNat = n at *
            go_enter Tryz.func18, Tryz.ntmps18
            go_wp2_with (first
              | (go_at_call 28; refine (KL.out _).mono ?_; rintro e w' ⟨rfl, rfl⟩)
              | (go_at_call 29; refine (KD.out _).mono ?_; rintro e w' ⟨rfl, rfl⟩))
            go_ret
            exact ⟨rfl, rfl⟩
          | false =>
            cases h3 : ((x.toNat : Int) == 46) with
            | true =>
              have H : may x k = true := by unfold may isPM; rw [hL, hD]; simp [hk]; simp at h3; omega
              rw [H]
              clear H
              generalize x.toNat = n at *
              go_enter Tryz.func18, Tryz.ntmps18
              go_wp2_with (first
                | (go_at_call 28; refine (KL.out _).mono ?_; rintro e w' ⟨rfl, rfl⟩)
                | (go_at_call 29; refine (KD.out _).mono ?_; rintro e w' ⟨rfl, rfl⟩))
              go_ret
              exact ⟨rfl, rfl⟩
            | false =>
              have H : may x k = false := by unfold may isPM; rw [hL, hD]; simp [hk]; simp at h1 h2 h3; omega
              rw [H]
              clear H
              generalize x.toNat = n at *
              go_enter Tryz.func18, Tryz.ntmps18
              go_wp2_with (first
                | (go_at_call 28; refine (KL.out _).mono ?_; rintro e w' ⟨rfl, rfl⟩)
                | (go_at_call 29; refine (KD.out _).mono ?_; rintro e w' ⟨rfl, rfl⟩))
              go_ret
              exact ⟨rfl, rfl⟩
    · have hk0 : k = 0 := by omega
      subst hk0
      have H : may x 0 = false := by unfold may isPM; rw [hL]; simp
      rw [H]
      clear H
      clear hk
      generalize x.toNat = n at *
      go_enter Tryz.func18, Tryz.ntmps18
      go_wp2_with (first
        | (go_at_call 28; refine (KL.out _).mono ?_; rintro e w' ⟨rfl, rfl⟩)
        | (go_at_call 29; refine (KD.out _).mono ?_; rintro e w' ⟨rfl, rfl⟩))
      go_ret
      exact ⟨rfl, rfl⟩
end Go.Proofs.YtlekingcmikopaaGreatDoor
