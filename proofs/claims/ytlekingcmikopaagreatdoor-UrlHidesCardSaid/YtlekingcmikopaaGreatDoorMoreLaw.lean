/-
  The walk of the law decanterlaw19.UrlMore: it is true whatever the address, the schemes and the further scheme.
-/
import Derived.Test.YtlekingcmikopaaGreatDoorBareLaw
namespace Go.Proofs.YtlekingcmikopaaGreatDoor
open Go.RowKit Go.Lib

section
variable {ops : Array Oper} {rest : List Oper} {o : Oper} {a : Act} {w : World} {Q : Exit → Act → World → Prop}
theorem wpList_want (hw : Region.wanted o (yielded ops a.tmps) = true) (h : ∀ K : Act → World → Prop, (∀ a w, wpList Tryz.prog ops Q rest a w → K a w) → o.wp Tryz.prog a w K Q) : wpList Tryz.prog ops Q (o :: rest) a w :=
  wpList_step fun K hK => by rw [hw, if_pos rfl]; exact h K hK

/-- An append of strings to a slice of the call's own, at a guarded operation too. -/
theorem wpList_append_strs (hw : Region.wanted o (yielded ops a.tmps) = true) (s x : Operand) (ho : o.op = .call { callee := .builtin .append, args := #[s, x], argTypes := #[24, 24] })
    (base : Nat) (g n cap : Nat) (xs : List Value) (hs : a.eval s = .slice (some ⟨g, 0, none⟩) n cap) (hown : w.ownsRow base 9 1 (.slice (some ⟨g, 0, none⟩) n cap) n xs)
    (ao : Option Addr) (c : Nat) (zs : List ByteArray) (hx : a.eval x = .slice ao zs.length c) (hz : Strs w (.slice ao zs.length c) zs) (hnone : ao = none → c = 0 ∧ zs = [])
    (hsmall : n + zs.length ≤ 1000) (hbase : base ≤ w.heap.size)
    (h : ∀ g' cap' w', w'.ownsRow base 9 1 (.slice (some ⟨g', 0, none⟩) (n + zs.length) cap') (n + zs.length) (xs ++ zs.map Value.string) → w.grownBy w' (some g) → wpList Tryz.prog ops Q rest (a.put o.dst (.slice (some ⟨g', 0, none⟩) (n + zs.length) cap')) w') :
    wpList Tryz.prog ops Q (o :: rest) a w := by
  obtain ⟨i9, hi9, hz9, hs9, hby9⟩ := info_parts info9
  refine wpList_want hw fun K hK => ?_
  cases ao with
  | none =>
    obtain ⟨rfl, rfl⟩ := hnone rfl
    have hr := run_append_owned_none (P := Tryz.prog) w base 24 o.type 9 i9 1 Tryz.underlying24 hi9 _ n xs hown
    unfold Oper.wp
    have he : (execOp a.eval o).run Tryz.prog w = .ok (.value (.slice (some ⟨g, 0, none⟩) n cap)) w := by
      simp [execOp, ho, resolve, invoke, builtin, hs, hx, hr, Result.andThen]
    rw [he, Oper.upon_value]
    refine hK _ _ (h g cap w ?_ (World.grownBy.refl _ _))
    simpa using hown
  | some ad =>
    have hc : ∀ j u, (zs.map Value.string)[j]? = some u → w.cell? (ad.add j) = some u := fun j u hj => by
      rcases hz with ⟨b, off, c', he, hcell⟩ | ⟨rfl, _⟩
      · simp only [Value.slice.injEq, Option.some.injEq] at he
        obtain ⟨rfl, _, rfl⟩ := he
        have hj' : j < zs.length := by
          have := (List.getElem?_eq_some_iff.1 hj).1
          simpa using this
        have hadd : (⟨b, off, none⟩ : Addr).add j = ⟨b, off + j, none⟩ := by unfold Addr.add; split <;> simp_all
        rw [hadd, hcell j hj']
        rw [List.getElem?_map, List.getElem?_eq_getElem hj'] at hj
        simp only [Option.map_some, Option.some.injEq] at hj
        rw [← hj]
        simp [List.getD, hj']
      · simp at hj
    refine wp_append_own w s x 24 ho base 9 i9 (.string ⟨#[]⟩) 1 16 Tryz.underlying24 hi9 hz9 hs9 hby9 rfl (by omega) _ n xs hs hown ad zs.length c (zs.map Value.string) hx (by simp) hc (by simp [Value.oneCell']) (by unfold maxLen; omega) (by omega) hbase fun v' w' hown' hg hne => ?_
    obtain ⟨g', cap', hv⟩ := owns_val hown' (fun e => by have := (hne.1 e).1; simp at this)
    subst hv
    exact hK _ _ (h g' cap' w' hown' hg)
end

/-- An owned row of strings is a slice of strings. -/
theorem strs_of_owns {w : World} {base g n cap : Nat} {zs : List ByteArray} (hn : n = zs.length) (h : w.ownsRow base 9 1 (.slice (some ⟨g, 0, none⟩) n cap) n (zs.map Value.string)) : Strs w (.slice (some ⟨g, 0, none⟩) n cap) zs := by
  subst hn
  refine .inl ⟨g, 0, cap, rfl, fun j hj => ?_⟩
  rw [Nat.zero_add]
  exact owns_cell h j _ (by simp [List.getD, hj])
theorem strs_one (w : World) (x : ByteArray) : Strs (w.alloc (.cells #[.string x] 9)) (.slice (some ⟨w.heap.size, 0, none⟩) 1 1) [x] :=
  .inl ⟨w.heap.size, 0, 1, rfl, fun j hj => by
    obtain rfl : j = 0 := by simp at hj; omega
    rw [Nat.zero_add, World.cell?_alloc_at _ _ _ _ rfl]
    rfl⟩

theorem allowed_more (s : ByteArray) (zs : List ByteArray) (m : ByteArray) (h : allowedB s zs = true) : allowedB s (zs ++ [m]) = true := by
  unfold allowedB at *
  cases hh : hasS s with
  | false => rfl
  | true =>
    rw [hh] at h
    have h1 : Lib.containsS zs (schS s) = true := by simpa using h
    have : Lib.containsS (zs ++ [m]) (schS s) = true := (Lib.containsS_iff _ _).2 (List.mem_append_left _ ((Lib.containsS_iff _ _).1 h1))
    rw [this]; rfl
theorem allowed_own (s : ByteArray) (h : hasS s = true) : allowedB s [schS s] = true := by
  unfold allowedB
  rw [h, (Lib.containsS_iff _ _).2 (by simp)]; rfl
theorem allowed_nil (s : ByteArray) : allowedB s [] = !hasS s := by
  unfold allowedB
  have : Lib.containsS [] (schS s) = false := by
    cases h : Lib.containsS [] (schS s) with
    | false => rfl
    | true => have := (Lib.containsS_iff _ _).1 h; simp at this
  rw [this]; simp
theorem colon_step (s : ByteArray) (k : Nat) (h : k < s.size) (cb : Bool) (hc : cb = (s.data.toList.take k).contains 58) : (cb || ((s[k].toNat : Int) == 58)) = (s.data.toList.take (k + 1)).contains 58 := by
  have hk : k < s.data.toList.length := by rw [← size_eq]; exact h
  rw [List.take_add_one, List.getElem?_eq_getElem hk, List.contains_append, ← hc]
  congr 1
  have : s[k] = s.data.toList[k] := by rw [Array.getElem_toList]; rfl
  rw [← this]
  generalize s[k] = x
  have n : (58 : UInt8).toNat = 58 := rfl
  by_cases hx : x = 58
  · subst hx; rfl
  · have h1 : ((x.toNat : Int) == 58) = false := beq_eq_false_iff_ne.2 fun h => hx (UInt8.toNat_inj.1 (by omega))
    rw [h1]
    simp [Ne.symm hx]
set_option maxRecDepth 100000 in
set_option maxHeartbeats 2000000 in
theorem moreLaw_tt (s more : ByteArray) (a : Option Addr) (c : Nat) (zs : List ByteArray) (w : World) (hs : s.size ≤ 300) (hl : zs.length ≤ 20) (hm : more.size ≤ 100) (hT : Lib.Utf8Tabs 1 2 w) (hv : Strs w (.slice a zs.length c) zs) (hnone : a = none → c = 0 ∧ zs = [])
    (ho : hasS s = true) (hA : allowedB s zs = true) : Calls Tryz.prog 4 #[.string s, .slice a zs.length c, .string more] w (SpeaksPost w) := by
  have HT : Hid (∀ W, Below w.heap.size w W → Lib.Utf8Tabs 1 2 W) := fun W h => Utf8Tabs_below hT h
  have KSp : Hid (∀ W, Below w.heap.size w W → Calls Tryz.prog 7 #[] W (SpeaksPost W)) := fun W h => speaks_any W (HT.out W h)
  have KS : Hid (∀ W, Below w.heap.size w W → Calls Tryz.prog 9 #[.string s] W fun e w' => e = .returned (.tuple #[.string (schS s), .bool (hasS s)]) ∧ Below W.heap.size W w') := fun W h => scheme_any s W (by omega) (HT.out W h)
  have KA : Hid (∀ W v zs', zs'.length ≤ 21 → Below w.heap.size w W → Strs W v zs' → Calls Tryz.prog 10 #[.string s, v] W (AllowedPost s zs' W)) := fun W v zs' hl' h hz => allowed_any s v zs' W (by omega) (HT.out W h) hz (by omega)
  have KA1 : Hid (∀ W, Below w.heap.size w W → Calls Tryz.prog 10 #[.string s, .slice a zs.length c] W fun e w' => e = .returned (.bool true) ∧ Below W.heap.size W w') := fun W h => by
    have := KA.out W _ zs (by omega) h (hv.below h)
    unfold AllowedPost at this
    rwa [hA] at this
  have KA2 : Hid (∀ W g cap, Below w.heap.size w W → Strs W (.slice (some ⟨g, 0, none⟩) (zs.length + 1) cap) (zs ++ [more]) → Calls Tryz.prog 10 #[.string s, .slice (some ⟨g, 0, none⟩) (zs.length + 1) cap] W fun e w' => e = .returned (.bool true) ∧ Below W.heap.size W w') := fun W g cap h hz => by
    have := KA.out W _ (zs ++ [more]) (by simp; omega) h hz
    unfold AllowedPost at this
    rwa [allowed_more s zs more hA] at this
  have HV := Lib.hid hv
  have KA3 : Hid (∀ W, Below w.heap.size w W → Calls Tryz.prog 10 #[.string s, .slice (some ⟨W.heap.size, 0, none⟩) 1 1] (W.alloc (.cells #[.string (schS s)] 9)) fun e w' => e = .returned (.bool true) ∧ Below W.heap.size W w') := fun W h => by
    have := KA.out (W.alloc (.cells #[.string (schS s)] 9)) _ [schS s] (by simp) (h.alloc h.size _) (strs_one W _)
    unfold AllowedPost at this
    rw [allowed_own s ho] at this
    refine this.mono fun e w' ⟨he, hb⟩ => ⟨he, ((Below.refl _ _).alloc (Nat.le_refl _) _).trans (hb.mono (by simp))⟩
  have hcol : Hid ((58 : UInt8) ∈ s.data.toList) := hasL_colon _ ho
  have KA4 : Hid (∀ W, Below w.heap.size w W → Calls Tryz.prog 10 #[.string s, .slice none 0 0] W fun e w' => e = .returned (.bool false) ∧ Below W.heap.size W w') := fun W h => by
    have := KA.out W (.slice none 0 0) [] (by simp) h (.inr ⟨rfl, none, 0, rfl⟩)
    unfold AllowedPost at this
    rw [allowed_nil, ho] at this
    exact this
  rw [ho] at KS
  clear hT hv KA HT hA ho
  generalize schS s = t at *
  have hd1 : decide ((300 : Int) < (s.size : Int)) = false := decide_eq_false (by omega)
  have hd2 : decide ((20 : Int) < (zs.length : Int)) = false := decide_eq_false (by omega)
  have hd3 : decide ((100 : Int) < (more.size : Int)) = false := decide_eq_false (by omega)
  go_enter Tryz.func4, Tryz.ntmps4
  go_wp2_with fail
  refine (KSp.out _ (Below.refl _ _)).mono ?_
  rintro e w1 ⟨rfl, hb1⟩
  have Hb1 := Lib.hid hb1
  clear hb1
  go_wp2_with fail
  refine (KA1.out _ Hb1.out).mono ?_
  rintro e w2 ⟨rfl, hb2⟩
  have Hb2 := Lib.hid (chain Hb1.out hb2)
  clear hb2 Hb1
  have HN := Lib.hid hnone
  clear hnone
  have hsz2 := Hb2.out.size
  go_wp2_with (first
    | (at_builtin; refine wpList_append_strs (w := w3.alloc (.cells #[.string more] 9)) rfl _ _ rfl w.heap.size g1 zs.length cap1 (zs.map Value.string) rfl (Hown3.out.alloc _) (some ⟨w3.heap.size, 0, none⟩) 1 [more] rfl (strs_one w3 more) (fun h => by cases h) (by simp; omega) (by have h2 := Hb2.out.size; have h3 := Hg3.out.size; simp only [World.alloc, Array.size_push] at h2 h3 ⊢; omega) ?_; intro g4 cap4 w4 hown4 hg4; have Hown4 := Lib.hid hown4; have Hg4 := Lib.hid hg4; clear hown4 hg4)
    | (at_builtin; refine wpList_append_strs (w := w2.alloc (.cells #[] 9)) rfl _ _ rfl w.heap.size w2.heap.size 0 0 [] rfl ((World.ownsRow_made w2 #[] 0 Hb2.out.size (by unfold maxLen; omega) rfl)) a c zs rfl ((HV.out.below Hb2.out).below ((Below.refl _ _).alloc (Nat.le_refl _) _)) HN.out (by omega) (by simp; omega) ?_; intro g1 cap1 w3 hown3 hg3; rw [Nat.zero_add] at hown3 ⊢; have Hown3 := Lib.hid hown3; have Hg3 := Lib.hid hg3; clear hown3 hg3))
  have Hb3 := Lib.hid ((Hb2.out.alloc Hb2.out.size (.cells #[] 9)).grown Hg3.out (by simp only [World.alloc, Array.size_push]; omega) (fun k hk => by cases hk; exact hsz2))
  have Hb4 := Lib.hid ((Hb3.out.alloc Hb3.out.size (.cells #[.string more] 9)).grown Hg4.out (by have := Hb3.out.size; simp only [World.alloc, Array.size_push] at this ⊢; omega) (fun k hk => by cases hk; exact owns_ge Hown3.out))
  have Hs4 := Lib.hid (strs_of_owns (zs := zs ++ [more]) (n := zs.length + 1) (by simp) (by have h := Hown4.out; rw [show [more].map Value.string = [Value.string more] from rfl] at h; simpa using h))
  clear Hb2 Hg3 Hg4 Hown3 Hown4 Hb3
  refine (KA2.out _ _ _ Hb4.out Hs4.out).mono ?_
  rintro e w5 ⟨rfl, hb5⟩
  have Hb5 := Lib.hid (chain Hb4.out hb5)
  clear hb5 Hb4
  clear Hs4
  go_wp2_with fail
  refine (KS.out _ Hb5.out).mono ?_
  rintro e w6 ⟨rfl, hb6⟩
  have Hb6 := Lib.hid (chain Hb5.out hb6)
  clear hb6 Hb5
  go_wp2_with fail
  go_loop [50, 9] (fun i q => ∃ (k : Nat) (cb : Bool), k ≤ s.size ∧ i = .int .i64 k ∧ q = .bool cb ∧ Hid (cb = (s.data.toList.take k).contains 58)) (fun i q => s.size - (intOf i).toNat)
  case atStart => exact ⟨0, false, Nat.zero_le _, rfl, rfl, Lib.hid rfl⟩
  case round =>
  obtain ⟨k, cb, hk, rfl, rfl, hcb⟩ := hrel
  by_cases hlt : k < s.size
  · have Hst := Lib.hid (colon_step s k hlt cb hcb.out)
    clear hcb
    cases cb with
    | true =>
      go_wp2_with fail
      go_round
      case rel => exact ⟨k + 1, true, by omega, by go_num, rfl, Lib.hid (by have h := Hst.out; rwa [Bool.true_or] at h)⟩
      case measure => simp [intOf]; omega
    | false =>
      cases hq : ((s[k].toNat : Int) == 58) with
      | true =>
        go_wp2_with fail
        go_round
        case rel => exact ⟨k + 1, true, by omega, by go_num, rfl, Lib.hid (by have h := Hst.out; rwa [hq] at h)⟩
        case measure => simp [intOf]; omega
      | false =>
        go_wp2_with fail
        go_round
        case rel => exact ⟨k + 1, false, by omega, by go_num, rfl, Lib.hid (by have h := Hst.out; rwa [hq] at h)⟩
        case measure => simp [intOf]; omega
  · have hc1 : cb = true := by
      obtain rfl : k = s.size := by omega
      rw [hcb.out, size_eq, List.take_length]
      simpa using hcol.out
    subst hc1
    clear hcb
    go_wp2_with fail
    refine (KA3.out _ Hb6.out).mono ?_
    rintro e w7 ⟨rfl, hb7⟩
    have Hb7 := Lib.hid (chain Hb6.out hb7)
    clear hb7 Hb6
    go_wp2_with fail
    refine (KA4.out _ Hb7.out).mono ?_
    rintro e w8 ⟨rfl, hb8⟩
    have Hb8 := Lib.hid (chain Hb7.out hb8)
    clear hb8 Hb7
    go_wp2_with fail
    go_ret
    exact ⟨rfl, Hb8.out⟩

set_option maxRecDepth 100000 in
set_option maxHeartbeats 2000000 in
theorem moreLaw_tf (s more : ByteArray) (a : Option Addr) (c : Nat) (zs : List ByteArray) (w : World) (hs : s.size ≤ 300) (hl : zs.length ≤ 20) (hm : more.size ≤ 100) (hT : Lib.Utf8Tabs 1 2 w) (hv : Strs w (.slice a zs.length c) zs) (_ : a = none → c = 0 ∧ zs = [])
    (ho : hasS s = true) (hA : allowedB s zs = false) : Calls Tryz.prog 4 #[.string s, .slice a zs.length c, .string more] w (SpeaksPost w) := by
  have HT : Hid (∀ W, Below w.heap.size w W → Lib.Utf8Tabs 1 2 W) := fun W h => Utf8Tabs_below hT h
  have KSp : Hid (∀ W, Below w.heap.size w W → Calls Tryz.prog 7 #[] W (SpeaksPost W)) := fun W h => speaks_any W (HT.out W h)
  have KS : Hid (∀ W, Below w.heap.size w W → Calls Tryz.prog 9 #[.string s] W fun e w' => e = .returned (.tuple #[.string (schS s), .bool (hasS s)]) ∧ Below W.heap.size W w') := fun W h => scheme_any s W (by omega) (HT.out W h)
  have KA : Hid (∀ W v zs', zs'.length ≤ 21 → Below w.heap.size w W → Strs W v zs' → Calls Tryz.prog 10 #[.string s, v] W (AllowedPost s zs' W)) := fun W v zs' hl' h hz => allowed_any s v zs' W (by omega) (HT.out W h) hz (by omega)
  have KA1 : Hid (∀ W, Below w.heap.size w W → Calls Tryz.prog 10 #[.string s, .slice a zs.length c] W fun e w' => e = .returned (.bool false) ∧ Below W.heap.size W w') := fun W h => by
    have := KA.out W _ zs (by omega) h (hv.below h)
    unfold AllowedPost at this
    rwa [hA] at this
  have KA3 : Hid (∀ W, Below w.heap.size w W → Calls Tryz.prog 10 #[.string s, .slice (some ⟨W.heap.size, 0, none⟩) 1 1] (W.alloc (.cells #[.string (schS s)] 9)) fun e w' => e = .returned (.bool true) ∧ Below W.heap.size W w') := fun W h => by
    have := KA.out (W.alloc (.cells #[.string (schS s)] 9)) _ [schS s] (by simp) (h.alloc h.size _) (strs_one W _)
    unfold AllowedPost at this
    rw [allowed_own s ho] at this
    refine this.mono fun e w' ⟨he, hb⟩ => ⟨he, ((Below.refl _ _).alloc (Nat.le_refl _) _).trans (hb.mono (by simp))⟩
  have hcol : Hid ((58 : UInt8) ∈ s.data.toList) := hasL_colon _ ho
  have KA4 : Hid (∀ W, Below w.heap.size w W → Calls Tryz.prog 10 #[.string s, .slice none 0 0] W fun e w' => e = .returned (.bool false) ∧ Below W.heap.size W w') := fun W h => by
    have := KA.out W (.slice none 0 0) [] (by simp) h (.inr ⟨rfl, none, 0, rfl⟩)
    unfold AllowedPost at this
    rw [allowed_nil, ho] at this
    exact this
  rw [ho] at KS
  clear hT hv KA HT hA ho
  generalize schS s = t at *
  have hd1 : decide ((300 : Int) < (s.size : Int)) = false := decide_eq_false (by omega)
  have hd2 : decide ((20 : Int) < (zs.length : Int)) = false := decide_eq_false (by omega)
  have hd3 : decide ((100 : Int) < (more.size : Int)) = false := decide_eq_false (by omega)
  go_enter Tryz.func4, Tryz.ntmps4
  go_wp2_with fail
  refine (KSp.out _ (Below.refl _ _)).mono ?_
  rintro e w1 ⟨rfl, hb1⟩
  have Hb1 := Lib.hid hb1
  clear hb1
  go_wp2_with fail
  refine (KA1.out _ Hb1.out).mono ?_
  rintro e w2 ⟨rfl, hb2⟩
  have Hb2 := Lib.hid (chain Hb1.out hb2)
  clear hb2 Hb1
  have Hb5 := Hb2
  go_wp2_with fail
  refine (KS.out _ Hb5.out).mono ?_
  rintro e w6 ⟨rfl, hb6⟩
  have Hb6 := Lib.hid (chain Hb5.out hb6)
  clear hb6 Hb5
  go_wp2_with fail
  go_loop [50, 9] (fun i q => ∃ (k : Nat) (cb : Bool), k ≤ s.size ∧ i = .int .i64 k ∧ q = .bool cb ∧ Hid (cb = (s.data.toList.take k).contains 58)) (fun i q => s.size - (intOf i).toNat)
  case atStart => exact ⟨0, false, Nat.zero_le _, rfl, rfl, Lib.hid rfl⟩
  case round =>
  obtain ⟨k, cb, hk, rfl, rfl, hcb⟩ := hrel
  by_cases hlt : k < s.size
  · have Hst := Lib.hid (colon_step s k hlt cb hcb.out)
    clear hcb
    cases cb with
    | true =>
      go_wp2_with fail
      go_round
      case rel => exact ⟨k + 1, true, by omega, by go_num, rfl, Lib.hid (by have h := Hst.out; rwa [Bool.true_or] at h)⟩
      case measure => simp [intOf]; omega
    | false =>
      cases hq : ((s[k].toNat : Int) == 58) with
      | true =>
        go_wp2_with fail
        go_round
        case rel => exact ⟨k + 1, true, by omega, by go_num, rfl, Lib.hid (by have h := Hst.out; rwa [hq] at h)⟩
        case measure => simp [intOf]; omega
      | false =>
        go_wp2_with fail
        go_round
        case rel => exact ⟨k + 1, false, by omega, by go_num, rfl, Lib.hid (by have h := Hst.out; rwa [hq] at h)⟩
        case measure => simp [intOf]; omega
  · have hc1 : cb = true := by
      obtain rfl : k = s.size := by omega
      rw [hcb.out, size_eq, List.take_length]
      simpa using hcol.out
    subst hc1
    clear hcb
    go_wp2_with fail
    refine (KA3.out _ Hb6.out).mono ?_
    rintro e w7 ⟨rfl, hb7⟩
    have Hb7 := Lib.hid (chain Hb6.out hb7)
    clear hb7 Hb6
    go_wp2_with fail
    refine (KA4.out _ Hb7.out).mono ?_
    rintro e w8 ⟨rfl, hb8⟩
    have Hb8 := Lib.hid (chain Hb7.out hb8)
    clear hb8 Hb7
    go_wp2_with fail
    go_ret
    exact ⟨rfl, Hb8.out⟩

set_option maxRecDepth 100000 in
set_option maxHeartbeats 2000000 in
theorem moreLaw_ff (s more : ByteArray) (a : Option Addr) (c : Nat) (zs : List ByteArray) (w : World) (hs : s.size ≤ 300) (hl : zs.length ≤ 20) (hm : more.size ≤ 100) (hT : Lib.Utf8Tabs 1 2 w) (hv : Strs w (.slice a zs.length c) zs) (hnone : a = none → c = 0 ∧ zs = [])
    (ho : hasS s = false) (hA : allowedB s zs = true) : Calls Tryz.prog 4 #[.string s, .slice a zs.length c, .string more] w (SpeaksPost w) := by
  have HT : Hid (∀ W, Below w.heap.size w W → Lib.Utf8Tabs 1 2 W) := fun W h => Utf8Tabs_below hT h
  have KSp : Hid (∀ W, Below w.heap.size w W → Calls Tryz.prog 7 #[] W (SpeaksPost W)) := fun W h => speaks_any W (HT.out W h)
  have KS : Hid (∀ W, Below w.heap.size w W → Calls Tryz.prog 9 #[.string s] W fun e w' => e = .returned (.tuple #[.string (schS s), .bool (hasS s)]) ∧ Below W.heap.size W w') := fun W h => scheme_any s W (by omega) (HT.out W h)
  have KA : Hid (∀ W v zs', zs'.length ≤ 21 → Below w.heap.size w W → Strs W v zs' → Calls Tryz.prog 10 #[.string s, v] W (AllowedPost s zs' W)) := fun W v zs' hl' h hz => allowed_any s v zs' W (by omega) (HT.out W h) hz (by omega)
  have KA1 : Hid (∀ W, Below w.heap.size w W → Calls Tryz.prog 10 #[.string s, .slice a zs.length c] W fun e w' => e = .returned (.bool true) ∧ Below W.heap.size W w') := fun W h => by
    have := KA.out W _ zs (by omega) h (hv.below h)
    unfold AllowedPost at this
    rwa [hA] at this
  have KA2 : Hid (∀ W g cap, Below w.heap.size w W → Strs W (.slice (some ⟨g, 0, none⟩) (zs.length + 1) cap) (zs ++ [more]) → Calls Tryz.prog 10 #[.string s, .slice (some ⟨g, 0, none⟩) (zs.length + 1) cap] W fun e w' => e = .returned (.bool true) ∧ Below W.heap.size W w') := fun W g cap h hz => by
    have := KA.out W _ (zs ++ [more]) (by simp; omega) h hz
    unfold AllowedPost at this
    rwa [allowed_more s zs more hA] at this
  have HV := Lib.hid hv
  have KA4 : Hid (∀ W, Below w.heap.size w W → Calls Tryz.prog 10 #[.string s, .slice none 0 0] W fun e w' => e = .returned (.bool true) ∧ Below W.heap.size W w') := fun W h => by
    have := KA.out W (.slice none 0 0) [] (by simp) h (.inr ⟨rfl, none, 0, rfl⟩)
    unfold AllowedPost at this
    rw [allowed_nil, ho] at this
    exact this
  rw [ho] at KS
  clear hT hv KA HT hA ho
  generalize schS s = t at *
  have hd1 : decide ((300 : Int) < (s.size : Int)) = false := decide_eq_false (by omega)
  have hd2 : decide ((20 : Int) < (zs.length : Int)) = false := decide_eq_false (by omega)
  have hd3 : decide ((100 : Int) < (more.size : Int)) = false := decide_eq_false (by omega)
  go_enter Tryz.func4, Tryz.ntmps4
  go_wp2_with fail
  refine (KSp.out _ (Below.refl _ _)).mono ?_
  rintro e w1 ⟨rfl, hb1⟩
  have Hb1 := Lib.hid hb1
  clear hb1
  go_wp2_with fail
  refine (KA1.out _ Hb1.out).mono ?_
  rintro e w2 ⟨rfl, hb2⟩
  have Hb2 := Lib.hid (chain Hb1.out hb2)
  clear hb2 Hb1
  have HN := Lib.hid hnone
  clear hnone
  have hsz2 := Hb2.out.size
  go_wp2_with (first
    | (at_builtin; refine wpList_append_strs (w := w3.alloc (.cells #[.string more] 9)) rfl _ _ rfl w.heap.size g1 zs.length cap1 (zs.map Value.string) rfl (Hown3.out.alloc _) (some ⟨w3.heap.size, 0, none⟩) 1 [more] rfl (strs_one w3 more) (fun h => by cases h) (by simp; omega) (by have h2 := Hb2.out.size; have h3 := Hg3.out.size; simp only [World.alloc, Array.size_push] at h2 h3 ⊢; omega) ?_; intro g4 cap4 w4 hown4 hg4; have Hown4 := Lib.hid hown4; have Hg4 := Lib.hid hg4; clear hown4 hg4)
    | (at_builtin; refine wpList_append_strs (w := w2.alloc (.cells #[] 9)) rfl _ _ rfl w.heap.size w2.heap.size 0 0 [] rfl ((World.ownsRow_made w2 #[] 0 Hb2.out.size (by unfold maxLen; omega) rfl)) a c zs rfl ((HV.out.below Hb2.out).below ((Below.refl _ _).alloc (Nat.le_refl _) _)) HN.out (by omega) (by simp; omega) ?_; intro g1 cap1 w3 hown3 hg3; rw [Nat.zero_add] at hown3 ⊢; have Hown3 := Lib.hid hown3; have Hg3 := Lib.hid hg3; clear hown3 hg3))
  have Hb3 := Lib.hid ((Hb2.out.alloc Hb2.out.size (.cells #[] 9)).grown Hg3.out (by simp only [World.alloc, Array.size_push]; omega) (fun k hk => by cases hk; exact hsz2))
  have Hb4 := Lib.hid ((Hb3.out.alloc Hb3.out.size (.cells #[.string more] 9)).grown Hg4.out (by have := Hb3.out.size; simp only [World.alloc, Array.size_push] at this ⊢; omega) (fun k hk => by cases hk; exact owns_ge Hown3.out))
  have Hs4 := Lib.hid (strs_of_owns (zs := zs ++ [more]) (n := zs.length + 1) (by simp) (by have h := Hown4.out; rw [show [more].map Value.string = [Value.string more] from rfl] at h; simpa using h))
  clear Hb2 Hg3 Hg4 Hown3 Hown4 Hb3
  refine (KA2.out _ _ _ Hb4.out Hs4.out).mono ?_
  rintro e w5 ⟨rfl, hb5⟩
  have Hb5 := Lib.hid (chain Hb4.out hb5)
  clear hb5 Hb4
  clear Hs4
  go_wp2_with fail
  refine (KS.out _ Hb5.out).mono ?_
  rintro e w6 ⟨rfl, hb6⟩
  have Hb6 := Lib.hid (chain Hb5.out hb6)
  clear hb6 Hb5
  go_wp2_with fail
  go_loop [50, 9] (fun i q => ∃ (k : Nat) (cb : Bool), k ≤ s.size ∧ i = .int .i64 k ∧ q = .bool cb ∧ Hid (cb = (s.data.toList.take k).contains 58)) (fun i q => s.size - (intOf i).toNat)
  case atStart => exact ⟨0, false, Nat.zero_le _, rfl, rfl, Lib.hid rfl⟩
  case round =>
  obtain ⟨k, cb, hk, rfl, rfl, hcb⟩ := hrel
  by_cases hlt : k < s.size
  · have Hst := Lib.hid (colon_step s k hlt cb hcb.out)
    clear hcb
    cases cb with
    | true =>
      go_wp2_with fail
      go_round
      case rel => exact ⟨k + 1, true, by omega, by go_num, rfl, Lib.hid (by have h := Hst.out; rwa [Bool.true_or] at h)⟩
      case measure => simp [intOf]; omega
    | false =>
      cases hq : ((s[k].toNat : Int) == 58) with
      | true =>
        go_wp2_with fail
        go_round
        case rel => exact ⟨k + 1, true, by omega, by go_num, rfl, Lib.hid (by have h := Hst.out; rwa [hq] at h)⟩
        case measure => simp [intOf]; omega
      | false =>
        go_wp2_with fail
        go_round
        case rel => exact ⟨k + 1, false, by omega, by go_num, rfl, Lib.hid (by have h := Hst.out; rwa [hq] at h)⟩
        case measure => simp [intOf]; omega
  · have Hb7 := Hb6
    go_wp2_with fail
    refine (KA4.out _ Hb7.out).mono ?_
    rintro e w8 ⟨rfl, hb8⟩
    have Hb8 := Lib.hid (chain Hb7.out hb8)
    clear hb8 Hb7
    go_wp2_with fail
    go_ret
    exact ⟨rfl, Hb8.out⟩

set_option maxRecDepth 100000 in
set_option maxHeartbeats 1000000 in
theorem moreLaw_any (s more : ByteArray) (a : Option Addr) (c : Nat) (zs : List ByteArray) (w : World) (hs : s.size ≤ maxLen) (hl : zs.length ≤ maxLen) (hm : more.size ≤ maxLen) (hT : Lib.Utf8Tabs 1 2 w) (hv : Strs w (.slice a zs.length c) zs) (hnone : a = none → c = 0 ∧ zs = []) :
    Calls Tryz.prog 4 #[.string s, .slice a zs.length c, .string more] w (SpeaksPost w) := by
  unfold maxLen at hs hl hm
  by_cases h1 : s.size ≤ 300
  · by_cases h2 : zs.length ≤ 20
    · by_cases h3 : more.size ≤ 100
      · cases ho : hasS s with
        | true =>
          cases hA : allowedB s zs with
          | true => exact moreLaw_tt s more a c zs w h1 h2 h3 hT hv hnone ho hA
          | false => exact moreLaw_tf s more a c zs w h1 h2 h3 hT hv hnone ho hA
        | false => exact moreLaw_ff s more a c zs w h1 h2 h3 hT hv hnone ho (by unfold allowedB; rw [ho]; rfl)
      · skip
        have KSp : Hid (∀ W, Below w.heap.size w W → Calls Tryz.prog 7 #[] W (SpeaksPost W)) := fun W h => speaks_any W (Utf8Tabs_below hT h)
        clear hT hv hnone
        generalize zs.length = m at *
        have hd1 : decide ((300 : Int) < (s.size : Int)) = false := decide_eq_false (by omega)
        have hd2 : decide ((20 : Int) < (m : Int)) = false := decide_eq_false (by omega)
        have hd3 : decide ((100 : Int) < (more.size : Int)) = true := decide_eq_true (by omega)
        go_enter Tryz.func4, Tryz.ntmps4
        go_wp2_with fail
        refine (KSp.out _ (Below.refl _ _)).mono ?_
        rintro e w1 ⟨rfl, hb1⟩
        have Hb1 := Lib.hid hb1
        clear hb1
        go_wp2_with fail
        refine (KSp.out _ Hb1.out).mono ?_
        rintro e w2 ⟨rfl, hb2⟩
        have Hb2 := Lib.hid (chain Hb1.out hb2)
        clear hb2 Hb1
        go_wp2_with fail
        go_ret
        exact ⟨rfl, Hb2.out⟩
    · skip
      have KSp : Hid (∀ W, Below w.heap.size w W → Calls Tryz.prog 7 #[] W (SpeaksPost W)) := fun W h => speaks_any W (Utf8Tabs_below hT h)
      clear hT hv hnone
      generalize zs.length = m at *
      have hd1 : decide ((300 : Int) < (s.size : Int)) = false := decide_eq_false (by omega)
      have hd2 : decide ((20 : Int) < (m : Int)) = true := decide_eq_true (by omega)
      go_enter Tryz.func4, Tryz.ntmps4
      go_wp2_with fail
      refine (KSp.out _ (Below.refl _ _)).mono ?_
      rintro e w1 ⟨rfl, hb1⟩
      have Hb1 := Lib.hid hb1
      clear hb1
      go_wp2_with fail
      refine (KSp.out _ Hb1.out).mono ?_
      rintro e w2 ⟨rfl, hb2⟩
      have Hb2 := Lib.hid (chain Hb1.out hb2)
      clear hb2 Hb1
      go_wp2_with fail
      go_ret
      exact ⟨rfl, Hb2.out⟩
  · skip
    have KSp : Hid (∀ W, Below w.heap.size w W → Calls Tryz.prog 7 #[] W (SpeaksPost W)) := fun W h => speaks_any W (Utf8Tabs_below hT h)
    clear hT hv hnone
    generalize zs.length = m at *
    have hd1 : decide ((300 : Int) < (s.size : Int)) = true := decide_eq_true (by omega)
    go_enter Tryz.func4, Tryz.ntmps4
    go_wp2_with fail
    refine (KSp.out _ (Below.refl _ _)).mono ?_
    rintro e w1 ⟨rfl, hb1⟩
    have Hb1 := Lib.hid hb1
    clear hb1
    go_wp2_with fail
    refine (KSp.out _ Hb1.out).mono ?_
    rintro e w2 ⟨rfl, hb2⟩
    have Hb2 := Lib.hid (chain Hb1.out hb2)
    clear hb2 Hb1
    go_wp2_with fail
    go_ret
    exact ⟨rfl, Hb2.out⟩
end Go.Proofs.YtlekingcmikopaaGreatDoor
