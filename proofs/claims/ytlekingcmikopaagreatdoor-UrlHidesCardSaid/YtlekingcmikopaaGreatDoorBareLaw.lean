/-
  The walk of the law decanterlaw19.UrlBare: it is true whatever the address and the schemes.
-/
import Derived.Test.YtlekingcmikopaaGreatDoorSpeaks
namespace Go.Proofs.YtlekingcmikopaaGreatDoor
open Go.RowKit Go.Lib

theorem chain {w a b : World} (h : Below w.heap.size w a) (k : Below a.heap.size a b) : Below w.heap.size w b := h.trans (k.mono h.size)

set_option maxRecDepth 100000 in
set_option maxHeartbeats 2000000 in
theorem bareLaw_small (s : ByteArray) (a : Option Addr) (c : Nat) (zs : List ByteArray) (w : World) (hs : s.size ≤ 300) (hl : zs.length ≤ 20) (hT : Lib.Utf8Tabs 1 2 w) (hv : Strs w (.slice a zs.length c) zs) :
    Calls Tryz.prog 6 #[.string s, .slice a zs.length c] w (SpeaksPost w) := by
  have hbs := bareS_le s
  have hb3 : bareS (bareS s) = bareS s := by
    have h := bareL_idem s.data.toList
    show (⟨(bareL (bareL s.data.toList)).toArray⟩ : ByteArray) = _
    rw [h]; rfl
  have hhas : hasS (bareS s) = hasS s := by unfold hasS; rw [bareS_data, bareL_idem]
  have hsch : schS (bareS s) = schS s := by unfold schS; rw [bareS_data, bareL_idem]
  have hgone : ∀ k (h : k < (bareS s).size), ((((bareS s)[k].toNat : Nat) : Int) == 9) = false ∧ ((((bareS s)[k].toNat : Nat) : Int) == 10) = false ∧ ((((bareS s)[k].toNat : Nat) : Int) == 13) = false := fun k h => by
    have hm : (bareS s)[k] ∈ bareL s.data.toList := by
      have : (bareS s)[k] ∈ (bareS s).data.toList := Array.getElem_mem_toList (xs := (bareS s).data) h
      exact this
    have := bareL_gone _ _ hm
    generalize (bareS s)[k] = x at this ⊢
    simp [isGone] at this
    have n9 : (9 : UInt8).toNat = 9 := rfl
    have n10 : (10 : UInt8).toNat = 10 := rfl
    have n13 : (13 : UInt8).toNat = 13 := rfl
    refine ⟨beq_eq_false_iff_ne.2 fun h => this.1.1 ?_, beq_eq_false_iff_ne.2 fun h => this.1.2 ?_, beq_eq_false_iff_ne.2 fun h => this.2 ?_⟩
    · exact UInt8.toNat_inj.1 (by omega)
    · exact UInt8.toNat_inj.1 (by omega)
    · exact UInt8.toNat_inj.1 (by omega)
  have HT : Hid (∀ W, Below w.heap.size w W → Lib.Utf8Tabs 1 2 W) := fun W h => Utf8Tabs_below hT h
  have KSp : Hid (∀ W, Below w.heap.size w W → Calls Tryz.prog 7 #[] W (SpeaksPost W)) := fun W h => speaks_any W (HT.out W h)
  have KB : Hid (∀ W, Below w.heap.size w W → Calls Tryz.prog 12 #[.string s] W fun e w' => e = .returned (.string (bareS s)) ∧ Below W.heap.size W w') := fun W h => bare_any s W (by omega) (HT.out W h)
  have KS : Hid (∀ W, Below w.heap.size w W → Calls Tryz.prog 9 #[.string s] W fun e w' => e = .returned (.tuple #[.string (schS s), .bool (hasS s)]) ∧ Below W.heap.size W w') := fun W h => scheme_any s W (by omega) (HT.out W h)
  have KSb : Hid (∀ W, Below w.heap.size w W → Calls Tryz.prog 9 #[.string (bareS s)] W fun e w' => e = .returned (.tuple #[.string (schS s), .bool (hasS s)]) ∧ Below W.heap.size W w') := fun W h => by
    have := scheme_any (bareS s) W (by omega) (HT.out W h)
    rwa [hhas, hsch] at this
  have KA : Hid (∀ (x : UInt8) W, sp x = false → may x 0 = false → Below w.heap.size w W → Calls Tryz.prog 10 #[.string (⟨#[x]⟩ ++ s), .slice a zs.length c] W (SpeaksPost W)) := fun x W h1 h2 h => by
    have := allowed_any (⟨#[x]⟩ ++ s) (.slice a zs.length c) zs W (by rw [ByteArray.size_append]; show 1 + s.size ≤ _; omega) (HT.out W h) (hv.below h) (by omega)
    unfold AllowedPost allowedB at this
    have hn : hasS (⟨#[x]⟩ ++ s) = false := by
      unfold hasS
      rw [show ((⟨#[x]⟩ : ByteArray) ++ s).data.toList = x :: s.data.toList by rw [ByteArray.data_append, Array.toList_append]; rfl]
      exact hasL_none x _ h1 h2
    rw [hn] at this
    exact this
  have KR : Hid (hasS s = true → ∀ W, Calls Tryz.prog 14 #[.string (schS s)] W (SpeaksPost W)) := fun hh W => by
    have hle : (schS s).size ≤ 300 := by
      have h1 := bareL_le s.data.toList
      rw [← size_eq] at h1
      rw [size_eq]
      show (schL (bareL s.data.toList)).length ≤ 300
      unfold schL
      split
      · unfold small; rw [List.length_map, List.length_take]; omega
      · simp
    have := right_any (schS s) W (by omega)
    unfold RightPost at this
    rw [show (schS s).data.toList = schL (bareL s.data.toList) from rfl, schL_right _ hh] at this
    exact this
  clear hT hv hb3 hhas hsch
  generalize bareS s = b at *
  generalize schS s = t at *
  generalize zs.length = m at *
  have Hg := Lib.hid hgone
  clear hgone HT
  have hd1 : decide ((300 : Int) < (s.size : Int)) = false := decide_eq_false (by omega)
  have hd3 : decide ((s.size : Int) < (b.size : Int)) = false := decide_eq_false (by omega)
  have hd2 : decide ((20 : Int) < (m : Int)) = false := decide_eq_false (by omega)
  cases ho : hasS s with
  | true =>
    have KR1 := Lib.hid (KR.out ho)
    rw [ho] at KS KSb
    clear KR ho
    go_enter Tryz.func6, Tryz.ntmps6
    go_wp2_with fail
    refine (KSp.out _ (Below.refl _ _)).mono ?_
    rintro e w1 ⟨rfl, hb1⟩
    have Hb1 := Lib.hid hb1
    clear hb1
    go_wp2_with fail
    refine (KB.out _ Hb1.out).mono ?_
    rintro e w2 ⟨rfl, hb2⟩
    have Hb2 := Lib.hid (chain Hb1.out hb2)
    clear hb2 Hb1
    go_wp2_with fail
    refine (KS.out _ Hb2.out).mono ?_
    rintro e w3 ⟨rfl, hb3⟩
    have Hb3 := Lib.hid (chain Hb2.out hb3)
    clear hb3 Hb2
    go_wp2_with fail
    refine (KSb.out _ Hb3.out).mono ?_
    rintro e w4 ⟨rfl, hb4⟩
    have Hb4 := Lib.hid (chain Hb3.out hb4)
    clear hb4 Hb3
    go_wp2_with fail
    go_loop [38] (fun i => ∃ k : Nat, k ≤ b.size ∧ i = .int .i64 k) (fun i => b.size - (intOf i).toNat)
    case atStart => exact ⟨0, Nat.zero_le _, rfl⟩
    case round =>
    obtain ⟨k, hk, rfl⟩ := hrel
    by_cases hlt : k < b.size
    · obtain ⟨g9, g10, g13⟩ := Hg.out k hlt
      go_wp2_with fail
      go_round
      case rel => exact ⟨k + 1, by omega, by go_num⟩
      case measure => simp [intOf]; omega
    · go_wp2_with fail
      refine (KR1.out _).mono ?_
      rintro e w5 ⟨rfl, hb5⟩
      have Hb5 := Lib.hid (chain Hb4.out hb5)
      clear hb5 Hb4
      go_wp2_with fail
      refine (KA.out 47 _ rfl rfl Hb5.out).mono ?_
      rintro e w6 ⟨rfl, hb6⟩
      have Hb6 := Lib.hid (chain Hb5.out hb6)
      clear hb6 Hb5
      go_wp2_with fail
      refine (KA.out 35 _ rfl rfl Hb6.out).mono ?_
      rintro e w7 ⟨rfl, hb7⟩
      have Hb7 := Lib.hid (chain Hb6.out hb7)
      clear hb7 Hb6
      go_wp2_with fail
      refine (KA.out 63 _ rfl rfl Hb7.out).mono ?_
      rintro e w8 ⟨rfl, hb8⟩
      have Hb8 := Lib.hid (chain Hb7.out hb8)
      clear hb8 Hb7
      go_wp2_with fail
      go_ret
      exact ⟨rfl, Hb8.out⟩
  | false =>
    rw [ho] at KS KSb
    clear KR ho
    go_enter Tryz.func6, Tryz.ntmps6
    go_wp2_with fail
    refine (KSp.out _ (Below.refl _ _)).mono ?_
    rintro e w1 ⟨rfl, hb1⟩
    have Hb1 := Lib.hid hb1
    clear hb1
    go_wp2_with fail
    refine (KB.out _ Hb1.out).mono ?_
    rintro e w2 ⟨rfl, hb2⟩
    have Hb2 := Lib.hid (chain Hb1.out hb2)
    clear hb2 Hb1
    go_wp2_with fail
    refine (KS.out _ Hb2.out).mono ?_
    rintro e w3 ⟨rfl, hb3⟩
    have Hb3 := Lib.hid (chain Hb2.out hb3)
    clear hb3 Hb2
    go_wp2_with fail
    refine (KSb.out _ Hb3.out).mono ?_
    rintro e w4 ⟨rfl, hb4⟩
    have Hb4 := Lib.hid (chain Hb3.out hb4)
    clear hb4 Hb3
    go_wp2_with fail
    go_loop [38] (fun i => ∃ k : Nat, k ≤ b.size ∧ i = .int .i64 k) (fun i => b.size - (intOf i).toNat)
    case atStart => exact ⟨0, Nat.zero_le _, rfl⟩
    case round =>
    obtain ⟨k, hk, rfl⟩ := hrel
    by_cases hlt : k < b.size
    · obtain ⟨g9, g10, g13⟩ := Hg.out k hlt
      go_wp2_with fail
      go_round
      case rel => exact ⟨k + 1, by omega, by go_num⟩
      case measure => simp [intOf]; omega
    · go_wp2_with fail
      refine (KA.out 47 _ rfl rfl Hb4.out).mono ?_
      rintro e w6 ⟨rfl, hb6⟩
      have Hb6 := Lib.hid (chain Hb4.out hb6)
      clear hb6 Hb4
      go_wp2_with fail
      refine (KA.out 35 _ rfl rfl Hb6.out).mono ?_
      rintro e w7 ⟨rfl, hb7⟩
      have Hb7 := Lib.hid (chain Hb6.out hb7)
      clear hb7 Hb6
      go_wp2_with fail
      refine (KA.out 63 _ rfl rfl Hb7.out).mono ?_
      rintro e w8 ⟨rfl, hb8⟩
      have Hb8 := Lib.hid (chain Hb7.out hb8)
      clear hb8 Hb7
      go_wp2_with fail
      go_ret
      exact ⟨rfl, Hb8.out⟩

set_option maxRecDepth 100000 in
set_option maxHeartbeats 1000000 in
theorem bareLaw_any (s : ByteArray) (a : Option Addr) (c : Nat) (zs : List ByteArray) (w : World) (hs : s.size ≤ maxLen) (hl : zs.length ≤ maxLen) (hT : Lib.Utf8Tabs 1 2 w) (hv : Strs w (.slice a zs.length c) zs) :
    Calls Tryz.prog 6 #[.string s, .slice a zs.length c] w (SpeaksPost w) := by
  unfold maxLen at hs hl
  by_cases h1 : s.size ≤ 300
  · by_cases h2 : zs.length ≤ 20
    · exact bareLaw_small s a c zs w h1 h2 hT hv
    · have KSp : Hid (∀ W, Below w.heap.size w W → Calls Tryz.prog 7 #[] W (SpeaksPost W)) := fun W h => speaks_any W (Utf8Tabs_below hT h)
      clear hT hv
      generalize zs.length = m at *
      have hd1 : decide ((300 : Int) < (s.size : Int)) = false := decide_eq_false (by omega)
      have hd2 : decide ((20 : Int) < (m : Int)) = true := decide_eq_true (by omega)
      go_enter Tryz.func6, Tryz.ntmps6
      go_wp2_with fail
      refine (KSp.out _ (Below.refl _ _)).mono ?_
      rintro e w1 ⟨rfl, hb1⟩
      have Hb1 := Lib.hid hb1
      clear hb1
      go_wp2_with fail
      refine (KSp.out _ Hb1.out).mono ?_
      rintro e w2 ⟨rfl, hb2⟩
      have Hb2 := Lib.hid (chain Hb1.out hb2)
      clear hb2 Hb1
      go_wp2_with fail
      go_ret
      exact ⟨rfl, Hb2.out⟩
  · have KSp : Hid (∀ W, Below w.heap.size w W → Calls Tryz.prog 7 #[] W (SpeaksPost W)) := fun W h => speaks_any W (Utf8Tabs_below hT h)
    clear hT hv
    generalize zs.length = m at *
    have hd1 : decide ((300 : Int) < (s.size : Int)) = true := decide_eq_true (by omega)
    go_enter Tryz.func6, Tryz.ntmps6
    go_wp2_with fail
    refine (KSp.out _ (Below.refl _ _)).mono ?_
    rintro e w1 ⟨rfl, hb1⟩
    have Hb1 := Lib.hid hb1
    clear hb1
    go_wp2_with fail
    refine (KSp.out _ Hb1.out).mono ?_
    rintro e w2 ⟨rfl, hb2⟩
    have Hb2 := Lib.hid (chain Hb1.out hb2)
    clear hb2 Hb1
    go_wp2_with fail
    go_ret
    exact ⟨rfl, Hb2.out⟩
end Go.Proofs.YtlekingcmikopaaGreatDoor
