/-
  The walk of the law decanterlaw19.UrlHides.
-/
import Derived.Test.YtlekingcmikopaaGreatDoorHideLaw
import Derived.Test.YtlekingcmikopaaGreatDoorMoreLaw
namespace Go.Proofs.YtlekingcmikopaaGreatDoor
open Go.RowKit Go.Lib

theorem encode1 (x : UInt8) (h : x.toNat < 128) : Utf8.encode (x.toNat : Int) = ⟨#[x]⟩ := by
  unfold Utf8.encode
  have hv : Utf8.valid (x.toNat : Int) = true := by rw [validRune_eq]; unfold validRune; exact decide_eq_true (by omega)
  simp only [hv, if_true]
  rw [if_pos (by omega)]
  simp

section
variable {ops : Array Oper} {rest : List Oper} {o : Oper} {a : Act} {w : World} {Q : Exit → Act → World → Prop}
/-- A small rune turned into a string. -/
theorem wpList_rune1 (hg : o.guard = none) (x : Operand) (ho : o.op = .convert 21 9 x) (y : UInt8) (n : Int) (hn : n = (y.toNat : Int)) (hy : y.toNat < 128) (hx : a.eval x = .int .i32 n)
    (h : wpList Tryz.prog ops Q rest (a.put o.dst (.string ⟨#[y]⟩)) w) : wpList Tryz.prog ops Q (o :: rest) a w := by
  subst hn
  refine Great.wpList_runTo hg o.dst rfl _ w ?_ h
  have := run_convert_int_string (P := Tryz.prog) w 21 9 .i32 (y.toNat : Int) (by rw [Tryz.underlying21]; rfl) Tryz.underlying9
  rw [encode1 y hy] at this
  simp [execOp, ho, hx, this, Result.andThen]
theorem wpList_cat (hg : o.guard = none) (x y : Operand) (ho : o.op = .binOp .add 9 x y 9) (s t : ByteArray) (hx : a.eval x = .string s) (hy : a.eval y = .string t) (hsz : s.size + t.size ≤ 9223372036854775807)
    (h : wpList Tryz.prog ops Q rest (a.put o.dst (.string (s ++ t))) w) : wpList Tryz.prog ops Q (o :: rest) a w := by
  refine Great.wpList_runTo hg o.dst rfl _ w ?_ h
  have := run_string_add_sum (P := Tryz.prog) (w := w) s t hsz
  simp [execOp, ho, hx, hy, eqGuard, binOp, this, Result.andThen]
theorem wpList_shr_any (hw : Region.wanted o (yielded ops a.tmps) = true) (x y : Operand) (ho : o.op = .binOp .shr 3 x y 3) (n m : Int) (hx : a.eval x = .int .i64 n) (hy : a.eval y = .int .i64 m) (hm : 0 ≤ m)
    (h : ∀ v : Int, wpList Tryz.prog ops Q rest (a.put o.dst (.int .i64 v)) w) : wpList Tryz.prog ops Q (o :: rest) a w := by
  refine wpList_want hw fun K hK => ?_
  have he : (execOp a.eval o).run Tryz.prog w = .ok (.value (.int .i64 (n.fdiv (2 ^ (min m.toNat IntKind.i64.bits))))) w := by
    simp [execOp, ho, hx, hy, eqGuard, binOp, Op.shift, Int.not_lt.2 hm]
  unfold Oper.wp
  rw [he, Oper.upon_value]
  exact hK _ _ (h _)
theorem wpList_and_any (hw : Region.wanted o (yielded ops a.tmps) = true) (x y : Operand) (ho : o.op = .binOp .and 3 x y 3) (n m : Int) (hx : a.eval x = .int .i64 n) (hy : a.eval y = .int .i64 m)
    (h : ∀ v : Int, wpList Tryz.prog ops Q rest (a.put o.dst (.int .i64 v)) w) : wpList Tryz.prog ops Q (o :: rest) a w := by
  refine wpList_want hw fun K hK => ?_
  have he : ∃ v : Int, (execOp a.eval o).run Tryz.prog w = .ok (.value (.int .i64 v)) w := ⟨IntKind.i64.wrap (BitVec.ofInt IntKind.i64.bits n &&& BitVec.ofInt IntKind.i64.bits m).toNat, by
    simp [execOp, ho, hx, hy, eqGuard, binOp, Op.intBits]⟩
  obtain ⟨v, he⟩ := he
  unfold Oper.wp
  rw [he, Oper.upon_value]
  exact hK _ _ (h _)
/-- An equality of two whole numbers: one of two answers. -/
theorem wpList_eql_any (hw : Region.wanted o (yielded ops a.tmps) = true) (x y : Operand) (ho : o.op = .binOp .eql 3 x y 3) (n m : Int) (hx : a.eval x = .int .i64 n) (hy : a.eval y = .int .i64 m)
    (h : ∀ v : Bool, wpList Tryz.prog ops Q rest (a.put o.dst (.bool v)) w) : wpList Tryz.prog ops Q (o :: rest) a w := by
  refine wpList_want hw fun K hK => ?_
  have he : (execOp a.eval o).run Tryz.prog w = .ok (.value (.bool (n == m))) w := by
    simp [execOp, ho, hx, hy, eqGuard, binOp, Op.intCmp]
  unfold Oper.wp
  rw [he, Oper.upon_value]
  exact hK _ _ (h _)
end

theorem below_drew {B : Nat} {a w : World} (h : Below B a w) : Below B a w.drew := h.trans ⟨rfl, rfl, rfl, Nat.le_refl _, fun _ _ => rfl⟩
theorem hide_text (s b g bl : ByteArray) (m : Nat) (hs : s.size ≤ 40) (hb : b.size ≤ 100) (hgs : g.size = s.size) (hmg : m ≤ g.size) (hr : rightL s.data.toList = true) (hsm : small g.data.toList = s.data.toList) (hbl : kept bl.data.toList = []) (hbs : bl.size ≤ 2) :
    (hasS (⟨#[1, 32, 9]⟩ ++ g.extract 0 m ++ bl ++ g.extract m s.size ++ ⟨#[58]⟩ ++ b) = true ∧ schS (⟨#[1, 32, 9]⟩ ++ g.extract 0 m ++ bl ++ g.extract m s.size ++ ⟨#[58]⟩ ++ b) = s) ∧ (⟨#[1, 32, 9]⟩ ++ g.extract 0 m ++ bl ++ g.extract m s.size ++ ⟨#[58]⟩ ++ b : ByteArray).size ≤ 1000000 := by
  have hd : (⟨#[1, 32, 9]⟩ ++ g.extract 0 m ++ bl ++ g.extract m s.size ++ ⟨#[58]⟩ ++ b : ByteArray).data.toList = [1, 32, 9] ++ g.data.toList.take m ++ bl.data.toList ++ g.data.toList.drop m ++ [58] ++ b.data.toList := by
    simp only [ByteArray.data_append, Array.toList_append, extract_data, List.drop_zero, Nat.sub_zero]
    rw [List.take_of_length_le (l := g.data.toList.drop m) (by rw [List.length_drop, ← size_eq, hgs]; exact Nat.le_refl _)]
  obtain ⟨h1, h2⟩ := hidden g.data.toList s.data.toList bl.data.toList b.data.toList m hr hsm hbl
  refine ⟨⟨by unfold hasS; rw [hd]; exact h1, by unfold schS; rw [hd, h2]⟩, ?_⟩
  simp only [ByteArray.size_append, ByteArray.size_extract]
  show 3 + _ + _ + _ + 1 + _ ≤ _
  omega
theorem plain_text (s b : ByteArray) (hr : rightL s.data.toList = true) : hasS (s ++ ⟨#[58]⟩ ++ b) = true ∧ schS (s ++ ⟨#[58]⟩ ++ b) = s := by
  have hd : (s ++ ⟨#[58]⟩ ++ b : ByteArray).data.toList = s.data.toList ++ [58] ++ b.data.toList := by
    simp only [ByteArray.data_append, Array.toList_append]
  obtain ⟨h1, h2⟩ := plainly s.data.toList b.data.toList hr
  exact ⟨by unfold hasS; rw [hd]; exact h1, by unfold schS; rw [hd, h2]⟩

set_option maxRecDepth 100000 in
set_option maxHeartbeats 2000000 in
theorem hideLaw_small (s b : ByteArray) (p q : Int) (w : World) (hp0 : 0 ≤ p) (hp1 : p ≤ 255) (hq0 : 0 ≤ q) (hq1 : q ≤ 255) (hs : s.size ≤ 40) (hb : b.size ≤ 100) (hr : rightL s.data.toList = true) (hT : Lib.Utf8Tabs 1 2 w) :
    Calls Tryz.prog 3 #[.string s, .string b, .int .u8 p, .int .u8 q] w (SpeaksPost w) := by
  have HT : Hid (∀ W, Below w.heap.size w W → Lib.Utf8Tabs 1 2 W) := fun W h => Utf8Tabs_below hT h
  have KSp : Hid (∀ W, Below w.heap.size w W → Calls Tryz.prog 7 #[] W (SpeaksPost W)) := fun W h => speaks_any W (HT.out W h)
  have KrR : Hid (∀ W, Calls Tryz.prog 8 #[.string s] W fun e w' => e = .returned (.bool true) ∧ Below W.heap.size W w') := fun W => by
    have := rright_any s W (by unfold maxLen; omega)
    unfold RightPost at this
    rwa [hr] at this
  have hpos : 0 < s.size := by
    have h := (right_parts _ hr).1
    rcases Nat.eq_zero_or_pos s.size with h0 | h0
    · exact absurd (nil_of_size s h0) h
    · exact h0
  have hm0 := Int.emod_nonneg p (b := (s.size : Int)) (by omega)
  have hm1 := Int.emod_lt_of_pos p (b := (s.size : Int)) (by omega)
  obtain ⟨j, hj⟩ := Int.eq_ofNat_of_zero_le hm0
  have hjl : j < s.size := by omega
  clear hm0 hm1
  have Hr := Lib.hid hr
  clear hr hT
  have hd1 : decide ((40 : Int) < (s.size : Int)) = false := decide_eq_false (by omega)
  have hd2 : decide ((100 : Int) < (b.size : Int)) = false := decide_eq_false (by omega)
  go_enter Tryz.func3, Tryz.ntmps3
  go_wp2_with fail
  refine (KSp.out _ (Below.refl _ _)).mono ?_
  rintro e w1 ⟨rfl, hb1⟩
  have Hb1 := Lib.hid hb1
  clear hb1
  go_wp2_with fail
  refine (KrR.out _).mono ?_
  rintro e w2 ⟨rfl, hb2⟩
  have Hb2 := Lib.hid (chain Hb1.out hb2)
  clear hb2 Hb1
  go_wp2_with fail
  go_loop [44, 10] (fun i v => ∃ (k : Nat) (g : ByteArray), k ≤ s.size ∧ i = .int .i64 k ∧ v = .string g ∧ Hid (small g.data.toList = s.data.toList.take k) ∧ Hid (g.size = k)) (fun i _ => s.size - (intOf i).toNat)
  case atStart => exact ⟨0, ⟨#[]⟩, Nat.zero_le _, rfl, rfl, Lib.hid rfl, Lib.hid rfl⟩
  case round =>
  obtain ⟨k, g, hk, rfl, rfl, Hg, Hgs⟩ := hrel
  by_cases hlt : k < s.size
  · have hx1 : (s[k].toNat : Int) < 256 := by have := UInt8.toNat_lt s[k]; omega
    have hkl : k < s.data.toList.length := by rw [← size_eq]; exact hlt
    have Hsum : Hid (∀ y : UInt8, g.size + (⟨#[y]⟩ : ByteArray).size ≤ 9223372036854775807) := fun y => by
      rw [Hgs.out]; show k + 1 ≤ _; omega
    have hx2 : (s[k].toNat : Int) < 128 := by
      obtain ⟨_, hn, _⟩ := right_parts _ Hr.out
      obtain ⟨i, hi⟩ := may_all _ 0 (by rw [Nat.zero_add]; exact hn) s.data.toList[k] (List.getElem_mem hkl)
      have := (may_big _ i hi).2
      have : s[k].toNat ≤ 122 := this
      omega
    have hlow : lowB s[k] = s[k] := by
      obtain ⟨_, _, hsm⟩ := right_parts _ Hr.out
      have h2 := congrArg (fun t => t[k]?) hsm
      simp only [small, List.getElem?_map, List.getElem?_eq_getElem hkl, Option.map_some, Option.some.injEq] at h2
      exact h2
    have Hst : Hid (∀ y : UInt8, lowB y = s[k] → small (g ++ ⟨#[y]⟩).data.toList = s.data.toList.take (k + 1) ∧ (g ++ ⟨#[y]⟩).size = k + 1) := fun y hy => by
      refine ⟨?_, by rw [ByteArray.size_append, Hgs.out]; rfl⟩
      rw [ByteArray.data_append, Array.toList_append, take_snoc _ _ hkl, ← Hg.out]
      unfold small
      rw [List.map_append]
      show _ ++ [lowB y] = _
      rw [hy]
      rfl
    have Hlow := Lib.hid hlow
    clear hlow
    have n32 : (32 : UInt8).toNat = 32 := rfl
    by_cases ha : (97 : Int) ≤ (s[k].toNat : Int)
    · by_cases hz : (s[k].toNat : Int) ≤ 122
      · have hsub : (s[k] - 32).toNat = s[k].toNat - 32 := by rw [UInt8.toNat_sub_of_le _ _ (by rw [UInt8.le_iff_toNat_le, n32]; omega), n32]
        have Hup : Hid (lowB (s[k] - 32) = s[k]) := by
          unfold lowB Hid
          rw [if_pos (by omega)]
          exact UInt8.toNat_inj.1 (by rw [UInt8.toNat_add, hsub, n32]; omega)
        have Hsub := Lib.hid hsub
        clear hsub
        go_upto_if 64 with (first
          | (with_reducible refine wpList_shr_any rfl _ _ rfl _ _ rfl rfl (by omega) ?_; intro v1)
          | (with_reducible refine wpList_and_any rfl _ _ rfl _ _ rfl rfl ?_; intro v2)
          | (with_reducible refine wpList_eql_any rfl _ _ rfl _ _ rfl rfl ?_; intro v3))
        cases v3 with
        | true =>
          go_wp2_with (first
            | with_reducible refine wpList_rune1 rfl _ rfl (s[k] - 32) _ (by rw [Hsub.out]; omega) (by rw [Hsub.out]; omega) rfl ?_
            | with_reducible refine wpList_cat rfl _ _ rfl g ⟨#[_]⟩ rfl rfl (Hsum.out _) ?_)
          go_round
          case rel => exact ⟨.string (g ++ ⟨#[s[k] - 32]⟩), _, _, .int .i64 ((k + 1 : Nat) : Int), ⟨k + 1, by omega, rfl, g ++ ⟨#[s[k] - 32]⟩, rfl, Lib.hid (Hst.out _ Hup.out).1, Lib.hid (Hst.out _ Hup.out).2⟩, rfl, rfl, rfl, rfl⟩
          case measure => simp [intOf]; omega
        | false =>
          go_wp2_with (first
            | with_reducible refine wpList_rune1 rfl _ rfl (s[k]) _ rfl (by omega) rfl ?_
            | with_reducible refine wpList_cat rfl _ _ rfl g ⟨#[_]⟩ rfl rfl (Hsum.out _) ?_)
          go_round
          case rel => exact ⟨.string (g ++ ⟨#[s[k]]⟩), _, _, .int .i64 ((k + 1 : Nat) : Int), ⟨k + 1, by omega, rfl, g ++ ⟨#[s[k]]⟩, rfl, Lib.hid (Hst.out _ Hlow.out).1, Lib.hid (Hst.out _ Hlow.out).2⟩, rfl, rfl, rfl, rfl⟩
          case measure => simp [intOf]; omega
      · skip
        go_wp2_with (first
          | with_reducible refine wpList_rune1 rfl _ rfl (s[k]) _ rfl (by omega) rfl ?_
          | with_reducible refine wpList_cat rfl _ _ rfl g ⟨#[_]⟩ rfl rfl (Hsum.out _) ?_)
        go_round
        case rel => exact ⟨.string (g ++ ⟨#[s[k]]⟩), _, _, .int .i64 ((k + 1 : Nat) : Int), ⟨k + 1, by omega, rfl, g ++ ⟨#[s[k]]⟩, rfl, Lib.hid (Hst.out _ Hlow.out).1, Lib.hid (Hst.out _ Hlow.out).2⟩, rfl, rfl, rfl, rfl⟩
        case measure => simp [intOf]; omega
    · skip
      go_wp2_with (first
        | with_reducible refine wpList_rune1 rfl _ rfl (s[k]) _ rfl (by omega) rfl ?_
        | with_reducible refine wpList_cat rfl _ _ rfl g ⟨#[_]⟩ rfl rfl (Hsum.out _) ?_)
      go_round
      case rel => exact ⟨.string (g ++ ⟨#[s[k]]⟩), _, _, .int .i64 ((k + 1 : Nat) : Int), ⟨k + 1, by omega, rfl, g ++ ⟨#[s[k]]⟩, rfl, Lib.hid (Hst.out _ Hlow.out).1, Lib.hid (Hst.out _ Hlow.out).2⟩, rfl, rfl, rfl, rfl⟩
      case measure => simp [intOf]; omega
  · have hke : k = s.size := by omega
    subst hke
    have Hsm : Hid (small g.data.toList = s.data.toList) := by
      have h := Hg.out
      rwa [size_eq, List.take_length] at h
    have hgs := Hgs.out
    have hmg : j + 1 ≤ g.size := by omega
    clear Hg Hgs hj hp0 hp1
    go_wp2_with fail
    rw [show (1 + (j : Int)) = ((j + 1 : Nat) : Int) by omega]
    generalize j + 1 = m at *
    clear hjl
    have HB : Hid (∀ bl : ByteArray, kept bl.data.toList = [] → bl.size ≤ 2 → (hasS (⟨#[1, 32, 9]⟩ ++ g.extract 0 m ++ bl ++ g.extract m s.size ++ ⟨#[58]⟩ ++ b) = true ∧ schS (⟨#[1, 32, 9]⟩ ++ g.extract 0 m ++ bl ++ g.extract m s.size ++ ⟨#[58]⟩ ++ b) = s) ∧ (⟨#[1, 32, 9]⟩ ++ g.extract 0 m ++ bl ++ g.extract m s.size ++ ⟨#[58]⟩ ++ b : ByteArray).size ≤ 1000000) := fun bl hbl hbs => hide_text s b g bl m hs hb hgs hmg Hr.out Hsm.out hbl hbs
    have HE : Hid (hasS (s ++ ⟨#[58]⟩ ++ b) = true ∧ schS (s ++ ⟨#[58]⟩ ++ b) = s) := plain_text s b Hr.out
    have KS2 : Hid (∀ W, Below w.heap.size w W → Calls Tryz.prog 9 #[.string (s ++ ⟨#[58]⟩ ++ b)] W fun e w' => e = .returned (.tuple #[.string s, .bool true]) ∧ Below W.heap.size W w') := fun W h => by
      have h1 := scheme_any (s ++ ⟨#[58]⟩ ++ b) W (by rw [ByteArray.size_append, ByteArray.size_append]; show s.size + 1 + b.size ≤ _; omega) (HT.out W h)
      rwa [HE.out.1, HE.out.2] at h1
    have he : (s.toList == s.toList) = true := beq_self_eq_true _
    clear HE Hsm
    by_cases h0 : q % 4 = 0
    · skip
      obtain ⟨T, hT, HH⟩ : ∃ T : ByteArray, (⟨#[1, 32, 9]⟩ ++ g.extract 0 m ++ ⟨#[9]⟩ ++ g.extract m s.size ++ ⟨#[58]⟩ ++ b : ByteArray) = T ∧ (hasS T = true ∧ schS T = s) ∧ T.size ≤ 1000000 := ⟨_, rfl, HB.out ⟨#[9]⟩ rfl (by decide)⟩
      have HTT := Lib.hid hT
      clear HB hT
      have KS1 : Hid (∀ W, Below w.heap.size w W → Calls Tryz.prog 9 #[.string (T)] W fun e w' => e = .returned (.tuple #[.string s, .bool true]) ∧ Below W.heap.size W w') := fun W h => by
        have h1 := scheme_any (T) W HH.2 (HT.out W h)
        rwa [HH.1.1, HH.1.2] at h1
      have KA3 : Hid (∀ W, Below w.heap.size w W → Calls Tryz.prog 10 #[.string (T), .slice (some ⟨W.heap.size, 0, none⟩) 1 1] (W.alloc (.cells #[.string s] 9)) fun e w' => e = .returned (.bool true) ∧ Below W.heap.size W w') := fun W h => by
        have h1 := allowed_any (T) _ [s] (W.alloc (.cells #[.string s] 9)) HH.2 (HT.out _ (h.alloc h.size _)) (strs_one W _) (by simp)
        unfold AllowedPost at h1
        have h2 := allowed_own (T) HH.1.1
        rw [HH.1.2] at h2
        rw [h2] at h1
        refine h1.mono fun e w' ⟨he, hb⟩ => ⟨he, ((Below.refl _ _).alloc (Nat.le_refl _) _).trans (hb.mono (by simp))⟩
      have KA4 : Hid (∀ W, Below w.heap.size w W → Calls Tryz.prog 10 #[.string (T), .slice none 0 0] W fun e w' => e = .returned (.bool false) ∧ Below W.heap.size W w') := fun W h => by
        have h1 := allowed_any (T) (.slice none 0 0) [] W HH.2 (HT.out W h) (.inr ⟨rfl, none, 0, rfl⟩) (by simp)
        unfold AllowedPost at h1
        rw [allowed_nil, HH.1.1] at h1
        exact h1
      clear HH
      obtain ⟨w3, hw3⟩ : ∃ w3, (w2.alloc (.cells #[.string ⟨#[9]⟩, .string ⟨#[10]⟩, .string ⟨#[13]⟩, .string ⟨#[13, 10]⟩] 9)).drew = w3 := ⟨_, rfl⟩
      have Hb3 : Hid (Below w.heap.size w w3) := by
        rw [← hw3]
        exact below_drew (Hb2.out.alloc Hb2.out.size _)
      have Hw3 := Lib.hid hw3
      clear hw3
      go_region
      rw [Hw3.out, HTT.out]
      clear Hw3 HTT
      go_wp2_with fail
      refine (KS1.out _ Hb3.out).mono ?_
      rintro e w4 ⟨rfl, hb4⟩
      have Hb4 := Lib.hid (chain Hb3.out hb4)
      clear hb4 Hb3
      go_wp2_with fail
      refine (KS2.out _ Hb4.out).mono ?_
      rintro e w5 ⟨rfl, hb5⟩
      have Hb5 := Lib.hid (chain Hb4.out hb5)
      clear hb5 Hb4
      go_wp2_with fail
      refine (KA3.out _ Hb5.out).mono ?_
      rintro e w6 ⟨rfl, hb6⟩
      have Hb6 := Lib.hid (chain Hb5.out hb6)
      clear hb6 Hb5
      go_wp2_with fail
      refine (KA4.out _ Hb6.out).mono ?_
      rintro e w7 ⟨rfl, hb7⟩
      have Hb7 := Lib.hid (chain Hb6.out hb7)
      clear hb7 Hb6
      go_wp2_with fail
      go_ret
      exact ⟨rfl, Hb7.out⟩
    · skip
      by_cases h1 : q % 4 = 1
      · skip
        obtain ⟨T, hT, HH⟩ : ∃ T : ByteArray, (⟨#[1, 32, 9]⟩ ++ g.extract 0 m ++ ⟨#[10]⟩ ++ g.extract m s.size ++ ⟨#[58]⟩ ++ b : ByteArray) = T ∧ (hasS T = true ∧ schS T = s) ∧ T.size ≤ 1000000 := ⟨_, rfl, HB.out ⟨#[10]⟩ rfl (by decide)⟩
        have HTT := Lib.hid hT
        clear HB hT
        have KS1 : Hid (∀ W, Below w.heap.size w W → Calls Tryz.prog 9 #[.string (T)] W fun e w' => e = .returned (.tuple #[.string s, .bool true]) ∧ Below W.heap.size W w') := fun W h => by
          have h1 := scheme_any (T) W HH.2 (HT.out W h)
          rwa [HH.1.1, HH.1.2] at h1
        have KA3 : Hid (∀ W, Below w.heap.size w W → Calls Tryz.prog 10 #[.string (T), .slice (some ⟨W.heap.size, 0, none⟩) 1 1] (W.alloc (.cells #[.string s] 9)) fun e w' => e = .returned (.bool true) ∧ Below W.heap.size W w') := fun W h => by
          have h1 := allowed_any (T) _ [s] (W.alloc (.cells #[.string s] 9)) HH.2 (HT.out _ (h.alloc h.size _)) (strs_one W _) (by simp)
          unfold AllowedPost at h1
          have h2 := allowed_own (T) HH.1.1
          rw [HH.1.2] at h2
          rw [h2] at h1
          refine h1.mono fun e w' ⟨he, hb⟩ => ⟨he, ((Below.refl _ _).alloc (Nat.le_refl _) _).trans (hb.mono (by simp))⟩
        have KA4 : Hid (∀ W, Below w.heap.size w W → Calls Tryz.prog 10 #[.string (T), .slice none 0 0] W fun e w' => e = .returned (.bool false) ∧ Below W.heap.size W w') := fun W h => by
          have h1 := allowed_any (T) (.slice none 0 0) [] W HH.2 (HT.out W h) (.inr ⟨rfl, none, 0, rfl⟩) (by simp)
          unfold AllowedPost at h1
          rw [allowed_nil, HH.1.1] at h1
          exact h1
        clear HH
        obtain ⟨w3, hw3⟩ : ∃ w3, (w2.alloc (.cells #[.string ⟨#[9]⟩, .string ⟨#[10]⟩, .string ⟨#[13]⟩, .string ⟨#[13, 10]⟩] 9)).drew = w3 := ⟨_, rfl⟩
        have Hb3 : Hid (Below w.heap.size w w3) := by
          rw [← hw3]
          exact below_drew (Hb2.out.alloc Hb2.out.size _)
        have Hw3 := Lib.hid hw3
        clear hw3
        go_region
        rw [Hw3.out, HTT.out]
        clear Hw3 HTT
        go_wp2_with fail
        refine (KS1.out _ Hb3.out).mono ?_
        rintro e w4 ⟨rfl, hb4⟩
        have Hb4 := Lib.hid (chain Hb3.out hb4)
        clear hb4 Hb3
        go_wp2_with fail
        refine (KS2.out _ Hb4.out).mono ?_
        rintro e w5 ⟨rfl, hb5⟩
        have Hb5 := Lib.hid (chain Hb4.out hb5)
        clear hb5 Hb4
        go_wp2_with fail
        refine (KA3.out _ Hb5.out).mono ?_
        rintro e w6 ⟨rfl, hb6⟩
        have Hb6 := Lib.hid (chain Hb5.out hb6)
        clear hb6 Hb5
        go_wp2_with fail
        refine (KA4.out _ Hb6.out).mono ?_
        rintro e w7 ⟨rfl, hb7⟩
        have Hb7 := Lib.hid (chain Hb6.out hb7)
        clear hb7 Hb6
        go_wp2_with fail
        go_ret
        exact ⟨rfl, Hb7.out⟩
      · skip
        by_cases h2 : q % 4 = 2
        · skip
          obtain ⟨T, hT, HH⟩ : ∃ T : ByteArray, (⟨#[1, 32, 9]⟩ ++ g.extract 0 m ++ ⟨#[13]⟩ ++ g.extract m s.size ++ ⟨#[58]⟩ ++ b : ByteArray) = T ∧ (hasS T = true ∧ schS T = s) ∧ T.size ≤ 1000000 := ⟨_, rfl, HB.out ⟨#[13]⟩ rfl (by decide)⟩
          have HTT := Lib.hid hT
          clear HB hT
          have KS1 : Hid (∀ W, Below w.heap.size w W → Calls Tryz.prog 9 #[.string (T)] W fun e w' => e = .returned (.tuple #[.string s, .bool true]) ∧ Below W.heap.size W w') := fun W h => by
            have h1 := scheme_any (T) W HH.2 (HT.out W h)
            rwa [HH.1.1, HH.1.2] at h1
          have KA3 : Hid (∀ W, Below w.heap.size w W → Calls Tryz.prog 10 #[.string (T), .slice (some ⟨W.heap.size, 0, none⟩) 1 1] (W.alloc (.cells #[.string s] 9)) fun e w' => e = .returned (.bool true) ∧ Below W.heap.size W w') := fun W h => by
            have h1 := allowed_any (T) _ [s] (W.alloc (.cells #[.string s] 9)) HH.2 (HT.out _ (h.alloc h.size _)) (strs_one W _) (by simp)
            unfold AllowedPost at h1
            have h2 := allowed_own (T) HH.1.1
            rw [HH.1.2] at h2
            rw [h2] at h1
            refine h1.mono fun e w' ⟨he, hb⟩ => ⟨he, ((Below.refl _ _).alloc (Nat.le_refl _) _).trans (hb.mono (by simp))⟩
          have KA4 : Hid (∀ W, Below w.heap.size w W → Calls Tryz.prog 10 #[.string (T), .slice none 0 0] W fun e w' => e = .returned (.bool false) ∧ Below W.heap.size W w') := fun W h => by
            have h1 := allowed_any (T) (.slice none 0 0) [] W HH.2 (HT.out W h) (.inr ⟨rfl, none, 0, rfl⟩) (by simp)
            unfold AllowedPost at h1
            rw [allowed_nil, HH.1.1] at h1
            exact h1
          clear HH
          obtain ⟨w3, hw3⟩ : ∃ w3, (w2.alloc (.cells #[.string ⟨#[9]⟩, .string ⟨#[10]⟩, .string ⟨#[13]⟩, .string ⟨#[13, 10]⟩] 9)).drew = w3 := ⟨_, rfl⟩
          have Hb3 : Hid (Below w.heap.size w w3) := by
            rw [← hw3]
            exact below_drew (Hb2.out.alloc Hb2.out.size _)
          have Hw3 := Lib.hid hw3
          clear hw3
          go_region
          rw [Hw3.out, HTT.out]
          clear Hw3 HTT
          go_wp2_with fail
          refine (KS1.out _ Hb3.out).mono ?_
          rintro e w4 ⟨rfl, hb4⟩
          have Hb4 := Lib.hid (chain Hb3.out hb4)
          clear hb4 Hb3
          go_wp2_with fail
          refine (KS2.out _ Hb4.out).mono ?_
          rintro e w5 ⟨rfl, hb5⟩
          have Hb5 := Lib.hid (chain Hb4.out hb5)
          clear hb5 Hb4
          go_wp2_with fail
          refine (KA3.out _ Hb5.out).mono ?_
          rintro e w6 ⟨rfl, hb6⟩
          have Hb6 := Lib.hid (chain Hb5.out hb6)
          clear hb6 Hb5
          go_wp2_with fail
          refine (KA4.out _ Hb6.out).mono ?_
          rintro e w7 ⟨rfl, hb7⟩
          have Hb7 := Lib.hid (chain Hb6.out hb7)
          clear hb7 Hb6
          go_wp2_with fail
          go_ret
          exact ⟨rfl, Hb7.out⟩
        · skip
          have h3 : q % 4 = 3 := by omega
          obtain ⟨T, hT, HH⟩ : ∃ T : ByteArray, (⟨#[1, 32, 9]⟩ ++ g.extract 0 m ++ ⟨#[13, 10]⟩ ++ g.extract m s.size ++ ⟨#[58]⟩ ++ b : ByteArray) = T ∧ (hasS T = true ∧ schS T = s) ∧ T.size ≤ 1000000 := ⟨_, rfl, HB.out ⟨#[13, 10]⟩ rfl (by decide)⟩
          have HTT := Lib.hid hT
          clear HB hT
          have KS1 : Hid (∀ W, Below w.heap.size w W → Calls Tryz.prog 9 #[.string (T)] W fun e w' => e = .returned (.tuple #[.string s, .bool true]) ∧ Below W.heap.size W w') := fun W h => by
            have h1 := scheme_any (T) W HH.2 (HT.out W h)
            rwa [HH.1.1, HH.1.2] at h1
          have KA3 : Hid (∀ W, Below w.heap.size w W → Calls Tryz.prog 10 #[.string (T), .slice (some ⟨W.heap.size, 0, none⟩) 1 1] (W.alloc (.cells #[.string s] 9)) fun e w' => e = .returned (.bool true) ∧ Below W.heap.size W w') := fun W h => by
            have h1 := allowed_any (T) _ [s] (W.alloc (.cells #[.string s] 9)) HH.2 (HT.out _ (h.alloc h.size _)) (strs_one W _) (by simp)
            unfold AllowedPost at h1
            have h2 := allowed_own (T) HH.1.1
            rw [HH.1.2] at h2
            rw [h2] at h1
            refine h1.mono fun e w' ⟨he, hb⟩ => ⟨he, ((Below.refl _ _).alloc (Nat.le_refl _) _).trans (hb.mono (by simp))⟩
          have KA4 : Hid (∀ W, Below w.heap.size w W → Calls Tryz.prog 10 #[.string (T), .slice none 0 0] W fun e w' => e = .returned (.bool false) ∧ Below W.heap.size W w') := fun W h => by
            have h1 := allowed_any (T) (.slice none 0 0) [] W HH.2 (HT.out W h) (.inr ⟨rfl, none, 0, rfl⟩) (by simp)
            unfold AllowedPost at h1
            rw [allowed_nil, HH.1.1] at h1
            exact h1
          clear HH
          obtain ⟨w3, hw3⟩ : ∃ w3, (w2.alloc (.cells #[.string ⟨#[9]⟩, .string ⟨#[10]⟩, .string ⟨#[13]⟩, .string ⟨#[13, 10]⟩] 9)).drew = w3 := ⟨_, rfl⟩
          have Hb3 : Hid (Below w.heap.size w w3) := by
            rw [← hw3]
            exact below_drew (Hb2.out.alloc Hb2.out.size _)
          have Hw3 := Lib.hid hw3
          clear hw3
          go_region
          rw [Hw3.out, HTT.out]
          clear Hw3 HTT
          go_wp2_with fail
          refine (KS1.out _ Hb3.out).mono ?_
          rintro e w4 ⟨rfl, hb4⟩
          have Hb4 := Lib.hid (chain Hb3.out hb4)
          clear hb4 Hb3
          go_wp2_with fail
          refine (KS2.out _ Hb4.out).mono ?_
          rintro e w5 ⟨rfl, hb5⟩
          have Hb5 := Lib.hid (chain Hb4.out hb5)
          clear hb5 Hb4
          go_wp2_with fail
          refine (KA3.out _ Hb5.out).mono ?_
          rintro e w6 ⟨rfl, hb6⟩
          have Hb6 := Lib.hid (chain Hb5.out hb6)
          clear hb6 Hb5
          go_wp2_with fail
          refine (KA4.out _ Hb6.out).mono ?_
          rintro e w7 ⟨rfl, hb7⟩
          have Hb7 := Lib.hid (chain Hb6.out hb7)
          clear hb7 Hb6
          go_wp2_with fail
          go_ret
          exact ⟨rfl, Hb7.out⟩

set_option maxRecDepth 100000 in
set_option maxHeartbeats 1000000 in
theorem hideLaw_any (s b : ByteArray) (p q : Int) (w : World) (hp0 : 0 ≤ p) (hp1 : p ≤ 255) (hq0 : 0 ≤ q) (hq1 : q ≤ 255) (hs : s.size ≤ maxLen) (hb : b.size ≤ maxLen) (hT : Lib.Utf8Tabs 1 2 w) :
    Calls Tryz.prog 3 #[.string s, .string b, .int .u8 p, .int .u8 q] w (SpeaksPost w) := by
  unfold maxLen at hs hb
  have KSp : Hid (∀ W, Below w.heap.size w W → Calls Tryz.prog 7 #[] W (SpeaksPost W)) := fun W h => speaks_any W (Utf8Tabs_below hT h)
  cases hr : rightL s.data.toList with
  | true =>
    by_cases h1 : s.size ≤ 40
    · by_cases h2 : b.size ≤ 100
      · exact hideLaw_small s b p q w hp0 hp1 hq0 hq1 h1 h2 hr hT
      · skip
        have KrR : Hid (∀ W, Calls Tryz.prog 8 #[.string s] W fun e w' => e = .returned (.bool true) ∧ Below W.heap.size W w') := fun W => by
          have := rright_any s W (by unfold maxLen; omega)
          unfold RightPost at this
          rwa [hr] at this
        clear hT hr
        have hd1 : decide ((40 : Int) < (s.size : Int)) = false := decide_eq_false (by omega)
        have hd2 : decide ((100 : Int) < (b.size : Int)) = true := decide_eq_true (by omega)
        go_enter Tryz.func3, Tryz.ntmps3
        go_wp2_with fail
        refine (KSp.out _ (Below.refl _ _)).mono ?_
        rintro e w1 ⟨rfl, hb1⟩
        have Hb1 := Lib.hid hb1
        clear hb1
        go_wp2_with fail
        refine (KrR.out _).mono ?_
        rintro e w2 ⟨rfl, hb2⟩
        have Hb2 := Lib.hid (chain Hb1.out hb2)
        clear hb2 Hb1
        go_wp2_with fail
        refine (KSp.out _ Hb2.out).mono ?_
        rintro e w3 ⟨rfl, hb3⟩
        have Hb3 := Lib.hid (chain Hb2.out hb3)
        clear hb3 Hb2
        go_wp2_with fail
        go_ret
        exact ⟨rfl, Hb3.out⟩
    · skip
      have KrR : Hid (∀ W, Calls Tryz.prog 8 #[.string s] W fun e w' => e = .returned (.bool true) ∧ Below W.heap.size W w') := fun W => by
        have := rright_any s W (by unfold maxLen; omega)
        unfold RightPost at this
        rwa [hr] at this
      clear hT hr
      have hd1 : decide ((40 : Int) < (s.size : Int)) = true := decide_eq_true (by omega)
      go_enter Tryz.func3, Tryz.ntmps3
      go_wp2_with fail
      refine (KSp.out _ (Below.refl _ _)).mono ?_
      rintro e w1 ⟨rfl, hb1⟩
      have Hb1 := Lib.hid hb1
      clear hb1
      go_wp2_with fail
      refine (KrR.out _).mono ?_
      rintro e w2 ⟨rfl, hb2⟩
      have Hb2 := Lib.hid (chain Hb1.out hb2)
      clear hb2 Hb1
      go_wp2_with fail
      refine (KSp.out _ Hb2.out).mono ?_
      rintro e w3 ⟨rfl, hb3⟩
      have Hb3 := Lib.hid (chain Hb2.out hb3)
      clear hb3 Hb2
      go_wp2_with fail
      go_ret
      exact ⟨rfl, Hb3.out⟩
  | false =>
    have KrR : Hid (∀ W, Calls Tryz.prog 8 #[.string s] W fun e w' => e = .returned (.bool false) ∧ Below W.heap.size W w') := fun W => by
      have := rright_any s W (by unfold maxLen; omega)
      unfold RightPost at this
      rwa [hr] at this
    clear hT hr
    go_enter Tryz.func3, Tryz.ntmps3
    go_wp2_with fail
    refine (KSp.out _ (Below.refl _ _)).mono ?_
    rintro e w1 ⟨rfl, hb1⟩
    have Hb1 := Lib.hid hb1
    clear hb1
    go_wp2_with fail
    refine (KrR.out _).mono ?_
    rintro e w2 ⟨rfl, hb2⟩
    have Hb2 := Lib.hid (chain Hb1.out hb2)
    clear hb2 Hb1
    go_wp2_with fail
    refine (KSp.out _ Hb2.out).mono ?_
    rintro e w3 ⟨rfl, hb3⟩
    have Hb3 := Lib.hid (chain Hb2.out hb3)
    clear hb3 Hb2
    go_wp2_with fail
    go_ret
    exact ⟨rfl, Hb3.out⟩
end Go.Proofs.YtlekingcmikopaaGreatDoor
