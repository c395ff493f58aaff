/-
  The walk of (*strings.byteStringReplacer).Replace over the struct that url.gone's replacer has built: the text without its tabs, line feeds and carriage returns.
-/
import Derived.Test.YtlekingcmikopaaGreatDoorBuild
import Derived.Test.YtlekingcmikopaaGreatDoorPlain
import Derived.Test.YtlekingcmikopaaGreatDoorShelf
import Derived.BigQuiet
import Derived.Deep.Cut
import Derived.Laws.CopyOwn
import Derived.WalkLawsBesides
namespace Go.Proofs.YtlekingcmikopaaGreatDoor
open Go.RowKit

/-- The struct behind the replacer, as it lies in a world. -/
structure IsBsr (w : World) (T C : Nat) : Prop where
  t0 : w.cell? ⟨T, 0, none⟩ = some (.string ⟨#[13]⟩)
  t1 : w.cell? ⟨T, 1, none⟩ = some (.string ⟨#[10]⟩)
  t2 : w.cell? ⟨T, 2, none⟩ = some (.string ⟨#[9]⟩)
  last : w.cell? ⟨C, 256, none⟩ = some (.slice (some ⟨T, 0, none⟩) 3 3)
  gone : ∀ x : UInt8, isGone x = true → ∃ b c, w.cell? ⟨C, x.toNat, none⟩ = some (.slice (some ⟨b, 0, none⟩) 0 c)
  stay : ∀ x : UInt8, isGone x = false → w.cell? ⟨C, x.toNat, none⟩ = some (.slice none 0 0)

theorem cell_below {w w' : World} (hb : Below w.heap.size w w') {p : Addr} {v : Value} (h : w.cell? p = some v) : w'.cell? p = some v :=
  (hb.cell (World.block_lt_of_cell? w p h)).trans h

theorem IsBsr.below {w w' : World} {T C : Nat} (h : IsBsr w T C) (hb : Below w.heap.size w w') : IsBsr w' T C :=
  ⟨cell_below hb h.t0, cell_below hb h.t1, cell_below hb h.t2, cell_below hb h.last, fun x hx => let ⟨b, c, e⟩ := h.gone x hx; ⟨b, c, cell_below hb e⟩, fun x hx => cell_below hb (h.stay x hx)⟩

theorem byteRow_of_made {w : World} {base g c n : Nat} (h : w.ownsRow base 5 1 (.slice (some ⟨g, 0, none⟩) n c) n (madeCells (Value.int .u8 0).cells (n * 1)).toList) : ByteRow w g (List.replicate n 0) := by
  rcases h.2 with ⟨h, _⟩ | ⟨g', cap, cur, h, hb, hg, hnc, hcm, hcs, ht⟩
  · simp at h
  · simp only [Value.slice.injEq, Option.some.injEq, Addr.mk.injEq, and_true, true_and] at h
    obtain ⟨rfl, rfl⟩ := h
    have hm : (madeCells (Value.int .u8 0).cells (n * 1)).toList = List.replicate n (.int .u8 0) := by rw [Nat.mul_one]; exact toList_madeCells_one _ _
    rw [hm, Nat.mul_one] at ht
    refine ⟨cur, 0, 0, hg, by simp; omega, .inl (Nat.le_refl _), fun j hj => ?_⟩
    have hj' : j < n := by simpa using hj
    have h1 : (cur.toList.take n)[j]? = some (.int .u8 0) := by rw [ht]; simp [hj']
    rw [List.getElem?_take, if_pos hj'] at h1
    simpa using h1
theorem info5 : (Tryz.prog.info? 5).map (fun i => (i.zero, i.size, i.bytes)) = some (some (.int .u8 0), 1, 1) := by kernel_rfl
theorem size5 : (Tryz.prog.info? 5).map (·.size) = some 1 := by kernel_rfl
theorem drewN_below {B : Nat} {a w : World} (h : Below B a w) (n : Nat) : Below B a (w.drewN n) := h.trans ⟨rfl, rfl, rfl, Nat.le_refl _, fun _ _ => rfl⟩
theorem int_eq {k : IntKind} {a b : Int} (h : a = b) : Value.int k a = Value.int k b := by rw [h]
theorem ByteRow.drewN {w : World} {b : Nat} {l : List UInt8} (h : ByteRow w b l) (n : Nat) : ByteRow (w.drewN n) b l := h
theorem set_fill (A : List UInt8) (m : Nat) (x : UInt8) (h : 0 < m) : (A ++ List.replicate m 0).set A.length x = (A ++ [x]) ++ List.replicate (m - 1) 0 := by
  obtain ⟨m, rfl⟩ : ∃ k, m = k + 1 := ⟨m - 1, by omega⟩
  rw [List.set_append_right _ _ (Nat.le_refl _), Nat.sub_self, List.replicate_succ, List.set_cons_zero, List.append_assoc]
  rfl

set_option maxRecDepth 100000 in
set_option maxHeartbeats 1000000 in
theorem repl_any (s : ByteArray) (T C : Nat) (w : World) (hs : s.size ≤ 1000000) (hI : IsBsr w T C) :
    Calls Tryz.prog 118 #[.pointer (some ⟨C, 0, none⟩), .string s] w fun e w' => e = .returned (.string ⟨(kept s.data.toList).toArray⟩) ∧ Below w.heap.size w w' := by
  have hl := hI.last
  have HI := Lib.hid hI; clear hI
  have hgl : goneN s.data.toList ≤ s.size := by have := goneN_le s.data.toList; simpa using this
  have hcs := goneN_counts s.data.toList
  have K13 := Lib.hid fun w => Tryz.strings_Count_one s 13 w
  have K10 := Lib.hid fun w => Tryz.strings_Count_one s 10 w
  have K9 := Lib.hid fun w => Tryz.strings_Count_one s 9 w
  generalize Lib.countByte s.data.toList 13 = c13 at hcs K13
  generalize Lib.countByte s.data.toList 10 = c10 at hcs K10
  generalize Lib.countByte s.data.toList 9 = c9 at hcs K9
  have hle : c13 + c10 + c9 ≤ s.size := by omega
  have hle1 : c13 + c10 + c9 ≤ goneN s.data.toList := by omega
  have hle2 : goneN s.data.toList ≤ c13 + c10 + c9 := by omega
  clear hcs
  go_enter Tryz.func118, Tryz.ntmps118
  go_upto_if 26 with (fail)
  go_cut [5, 6] from 16 (fun n a wc => n = .int .i64 (s.size - goneN s.data.toList) ∧ (∃ b : Bool, a = .bool b ∧ Hid (b = decide (goneN s.data.toList ≠ 0))) ∧ Below w.heap.size w wc)
  case first =>
    by_cases h24 : 24 ≤ s.size
    · rw [show decide ((24 : Int) ≤ (s.size : Int)) = true by simp; omega]
      go_wp2_with fail
      go_loopw [32, 5, 6] (fun i n a wr => Below w.heap.size w wr ∧ ((i = .int .i64 0 ∧ n = .int .i64 s.size ∧ a = .bool false) ∨ (i = .int .i64 1 ∧ n = .int .i64 (s.size - c13) ∧ ∃ b : Bool, a = .bool b ∧ Hid (b = decide (c13 ≠ 0))) ∨ (i = .int .i64 2 ∧ n = .int .i64 (s.size - c13 - c10) ∧ ∃ b : Bool, a = .bool b ∧ Hid (b = decide (c13 + c10 ≠ 0))) ∨ (i = .int .i64 3 ∧ n = .int .i64 (s.size - goneN s.data.toList) ∧ ∃ b : Bool, a = .bool b ∧ Hid (b = decide (goneN s.data.toList ≠ 0))))) (fun i _ _ _ => 3 - (intOf i).toNat)
      case atStart => exact ⟨Below.refl _ _, .inl ⟨rfl, rfl, rfl⟩⟩
      case round =>
      obtain ⟨hbw, hrel⟩ := hrel
      have ht0 := cell_below hbw HI.out.t0
      have ht1 := cell_below hbw HI.out.t1
      have ht2 := cell_below hbw HI.out.t2
      rcases hrel with ⟨rfl, rfl, rfl⟩ | ⟨rfl, rfl, b0, rfl, hb0⟩ | ⟨rfl, rfl, b0, rfl, hb0⟩ | ⟨rfl, rfl, b0, rfl, hb0⟩
      · obtain ⟨bb, bc, hg0⟩ := (HI.out.below hbw).gone 13 (by decide)
        have hgc : wr.cell? ⟨C, 13, none⟩ = some (.slice (some ⟨bb, 0, none⟩) 0 bc) := hg0
        have hx : (⟨#[13]⟩ : ByteArray)[0] = 13 := rfl
        clear hg0
        have Hbw := Lib.hid hbw
        clear hbw
        by_cases hz : 0 < c13
        · go_wp2_with (go_at_call 120; refine (K13.out _).mono ?_; rintro e w' ⟨rfl, rfl⟩)
          go_quiet (fail)
          go_wp2_with fail
          go_roundw
          case rel => exact ⟨drewN_below Hbw.out _, .inr (.inl ⟨rfl, int_eq (by omega), true, rfl, by unfold Hid; symm; simp; omega⟩)⟩
          case measure => simp [intOf]
        · go_wp2_with (go_at_call 120; refine (K13.out _).mono ?_; rintro e w' ⟨rfl, rfl⟩)
          go_roundw
          case rel => exact ⟨Hbw.out, .inr (.inl ⟨rfl, int_eq (by omega), _, rfl, by unfold Hid; symm; simp; omega⟩)⟩
          case measure => simp [intOf]
      · obtain ⟨bb, bc, hg0⟩ := (HI.out.below hbw).gone 10 (by decide)
        have hgc : wr.cell? ⟨C, 10, none⟩ = some (.slice (some ⟨bb, 0, none⟩) 0 bc) := hg0
        have hx : (⟨#[10]⟩ : ByteArray)[0] = 10 := rfl
        clear hg0
        have Hbw := Lib.hid hbw
        clear hbw
        by_cases hz : 0 < c10
        · go_wp2_with (go_at_call 120; refine (K10.out _).mono ?_; rintro e w' ⟨rfl, rfl⟩)
          go_quiet (fail)
          go_wp2_with fail
          go_roundw
          case rel => exact ⟨drewN_below Hbw.out _, .inr (.inr (.inl ⟨rfl, int_eq (by omega), true, rfl, by unfold Hid; symm; simp; omega⟩))⟩
          case measure => simp [intOf]
        · go_wp2_with (go_at_call 120; refine (K10.out _).mono ?_; rintro e w' ⟨rfl, rfl⟩)
          go_roundw
          case rel => exact ⟨Hbw.out, .inr (.inr (.inl ⟨rfl, int_eq (by omega), _, rfl, by unfold Hid; rw [hb0.out]; exact decide_eq_decide.2 (by omega)⟩))⟩
          case measure => simp [intOf]
      · obtain ⟨bb, bc, hg0⟩ := (HI.out.below hbw).gone 9 (by decide)
        have hgc : wr.cell? ⟨C, 9, none⟩ = some (.slice (some ⟨bb, 0, none⟩) 0 bc) := hg0
        have hx : (⟨#[9]⟩ : ByteArray)[0] = 9 := rfl
        clear hg0
        have Hbw := Lib.hid hbw
        clear hbw
        by_cases hz : 0 < c9
        · go_wp2_with (go_at_call 120; refine (K9.out _).mono ?_; rintro e w' ⟨rfl, rfl⟩)
          go_quiet (fail)
          go_wp2_with fail
          go_roundw
          case rel => exact ⟨drewN_below Hbw.out _, .inr (.inr (.inr ⟨rfl, int_eq (by omega), true, rfl, by unfold Hid; symm; simp; omega⟩))⟩
          case measure => simp [intOf]
        · go_wp2_with (go_at_call 120; refine (K9.out _).mono ?_; rintro e w' ⟨rfl, rfl⟩)
          go_roundw
          case rel => exact ⟨Hbw.out, .inr (.inr (.inr ⟨rfl, int_eq (by omega), _, rfl, by unfold Hid; rw [hb0.out]; exact decide_eq_decide.2 (by omega)⟩))⟩
          case measure => simp [intOf]
      · have Hbw := Lib.hid hbw
        clear hbw
        go_wp2_with fail
        go_meet
        case rel => exact ⟨rfl, ⟨b0, rfl, hb0⟩, Hbw.out⟩
    · rw [show decide ((24 : Int) ≤ (s.size : Int)) = false by simp; omega]
      go_wp2_with fail
      go_loop [10, 5, 6] (fun i n a => ∃ k : Nat, k ≤ s.size ∧ i = .int .i64 k ∧ n = .int .i64 (s.size - goneN (s.data.toList.take k)) ∧ ∃ b : Bool, a = .bool b ∧ Hid (b = decide (goneN (s.data.toList.take k) ≠ 0))) (fun i _ _ => s.size - (intOf i).toNat)
      case atStart => exact ⟨0, Nat.zero_le _, rfl, int_eq (by simp [goneN]), false, rfl, by unfold Hid; simp [goneN]⟩
      case round =>
      obtain ⟨k, hk, rfl, rfl, b0, rfl, hb0⟩ := hrel
      have htk := goneN_take_le s.data.toList k
      by_cases hlt : k < s.size
      · have hkl : k < s.data.toList.length := by simpa using hlt
        obtain ⟨x, hx⟩ : ∃ x, x = s.data.toList[k] := ⟨_, rfl⟩
        have hxs : s[k]? = some x := by rw [hx]; simp [hlt]; rfl
        have Hxs := Lib.hid hxs; clear hxs
        have hsn : goneN (s.data.toList.take (k + 1)) = goneN (s.data.toList.take k) + if isGone x then 1 else 0 := by rw [take_snoc _ _ hkl, goneN_snoc, hx]
        clear hx
        have hx256 : (x.toNat : Int) < 256 := by have := UInt8.toNat_lt x; omega
        cases hgx : isGone x with
        | true =>
          obtain ⟨bb, bc, hg0⟩ := HI.out.gone x hgx
          have Hsn : Hid (goneN (s.data.toList.take (k + 1)) = goneN (s.data.toList.take k) + 1) := by rw [hsn, hgx]; rfl
          clear hsn hgx
          go_wp2_with (with_reducible refine wpList_index9 rfl _ _ rfl s rfl k rfl x Hxs.out _ rfl ?_)
          go_round
          case rel => exact ⟨k + 1, by omega, by go_num, int_eq (by rw [Hsn.out]; omega), true, rfl, by unfold Hid; rw [Hsn.out]; simp⟩
          case measure => simp [intOf]; omega
        | false =>
          have hg0 := HI.out.stay x hgx
          have Hsn : Hid (goneN (s.data.toList.take (k + 1)) = goneN (s.data.toList.take k)) := by rw [hsn, hgx]; rfl
          clear hsn hgx
          go_wp2_with (with_reducible refine wpList_index9 rfl _ _ rfl s rfl k rfl x Hxs.out _ rfl ?_)
          go_round
          case rel => exact ⟨k + 1, by omega, by go_num, int_eq (by rw [Hsn.out]), b0, rfl, by rw [Hsn.out]; exact hb0⟩
          case measure => simp [intOf]; omega
      · have he : s.data.toList.take k = s.data.toList := List.take_of_length_le (by simp; omega)
        rw [he] at hb0
        have He := Lib.hid he; clear he
        go_wp2_with fail
        go_meet
        case rel => exact ⟨int_eq (by rw [He.out]), ⟨b0, rfl, hb0⟩, Below.refl _ _⟩
  case rest =>
    obtain ⟨rfl, ⟨b0, rfl, hb0⟩, hbw⟩ := hcut
    by_cases hz : goneN s.data.toList = 0
    · obtain rfl : b0 = false := by rw [hb0.out]; simp [hz]
      have Hz := Lib.hid hz
      clear hz hb0
      go_wp2_with fail
      go_ret
      exact ⟨by rw [kept_of_none _ Hz.out]; rfl, hbw⟩
    · obtain rfl : b0 = true := by rw [hb0.out]; simp [hz]
      have hkl := kept_len s.data.toList
      have hsz : s.data.toList.length = s.size := by simp
      obtain ⟨L, hL⟩ : ∃ L, L = (kept s.data.toList).length := ⟨_, rfl⟩
      have hLs : L + goneN s.data.toList = s.size := by omega
      obtain ⟨i5, hi5, hz5, hs5, hby5⟩ := info_parts info5
      have Hbw := Lib.hid hbw
      have HL := Lib.hid hL
      clear hb0 hbw hL hkl hsz hle hle1 hle2
      go_wp2_with (at_make; refine wpList_make_full _ rfl _ _ 39 rfl w.heap.size 5 i5 (.int .u8 0) 1 Tryz.underlying39 hi5 hz5 hs5 .i64 .i64 _ _ L rfl rfl (by omega) (by omega) (by rw [hby5]; omega) (by unfold maxLen; omega) Hbw.out.size ?_; intro w1 hown1 hg1; have Hown1 := Lib.hid hown1; have Hg1 := Lib.hid hg1; clear hown1 hg1)
      have hbb : w.heap.size ≤ wc.heap.size := Hbw.out.size
      have hb1 : Below w.heap.size w w1 := Hbw.out.grown Hg1.out hbb (fun k hk => by cases hk)
      have hr1 : ByteRow w1 wc.heap.size (kept (s.data.toList.take 0) ++ List.replicate (L - (kept (s.data.toList.take 0)).length) 0) := byteRow_of_made Hown1.out
      clear Hown1 Hg1
      generalize wc.heap.size = bb at *
      go_loopw [14, 13] (fun i j wr => ∃ k : Nat, k ≤ s.size ∧ i = .int .i64 k ∧ j = .int .i64 ((kept (s.data.toList.take k)).length : Nat) ∧ Below w.heap.size w wr ∧ ByteRow wr bb (kept (s.data.toList.take k) ++ List.replicate (L - (kept (s.data.toList.take k)).length) 0)) (fun i _ _ => s.size - (intOf i).toNat)
      case atStart => exact ⟨0, Nat.zero_le _, rfl, rfl, hb1, hr1⟩
      case round =>
      clear hb1 hr1
      obtain ⟨k, hk, rfl, rfl, hbr, hr⟩ := hrel
      have hkL : (kept (s.data.toList.take k)).length ≤ L := by rw [HL.out]; exact kept_take_le _ _
      by_cases hlt : k < s.size
      · have hkl : k < s.data.toList.length := by simpa using hlt
        obtain ⟨x, hx⟩ : ∃ x, x = s.data.toList[k] := ⟨_, rfl⟩
        have hxs : s[k]? = some x := by rw [hx]; simp [hlt]; rfl
        have Hxs := Lib.hid hxs; clear hxs
        have hsn : kept (s.data.toList.take (k + 1)) = kept (s.data.toList.take k) ++ if isGone x then [] else [x] := by rw [take_snoc _ _ hkl, kept_snoc, hx]
        have hlt2 : isGone x = false → (kept (s.data.toList.take k)).length < L := fun h => by rw [HL.out]; exact kept_take_lt _ _ hkl (by rw [← hx]; exact h)
        clear hx
        have hx256 : (x.toNat : Int) < 256 := by have := UInt8.toNat_lt x; omega
        have HIr := Lib.hid (HI.out.below hbr)
        have Hbr := Lib.hid hbr
        have Hr := Lib.hid hr
        clear hbr hr
        cases hgx : isGone x with
        | true =>
          obtain ⟨b2, c2, hg0⟩ := HIr.out.gone x hgx
          have Hsn : Hid (kept (s.data.toList.take (k + 1)) = kept (s.data.toList.take k)) := by rw [hsn, hgx]; simp [Hid]
          clear hsn hgx hlt2
          obtain ⟨j, hj⟩ : ∃ j, j = (kept (s.data.toList.take k)).length := ⟨_, rfl⟩
          rw [← hj] at hkL Hr ⊢
          have Hj := Lib.hid hj; clear hj
          go_wp2_with (with_reducible refine wpList_index9 rfl _ _ rfl s rfl k rfl x Hxs.out _ rfl ?_)
          have hcp := fun (w : World) (ty : TypeId) (d a : Option Addr) (dl dc c : Nat) => run_copy_none (P := Tryz.prog) w 39 39 ty 5 d a dl dc 0 c Tryz.underlying39 size5 (Nat.zero_min _)
          go_quiet (fail)
          go_wp2_with fail
          go_roundw
          case rel => exact ⟨k + 1, by omega, by go_num, by rw [Hsn.out, ← Hj.out], drewN_below Hbr.out _, by rw [Hsn.out, ← Hj.out]; exact Hr.out.drewN _⟩
          case measure => simp [intOf]; omega
        | false =>
          have hjL := hlt2 hgx
          have hg0 := HIr.out.stay x hgx
          have Hsn : Hid (kept (s.data.toList.take (k + 1)) = kept (s.data.toList.take k) ++ [x]) := by rw [hsn, hgx]; simp [Hid]
          clear hsn hgx hlt2
          have hcj := Hr.out.cell (kept (s.data.toList.take k)).length (by simp; omega)
          have hfj := Hr.out.frozen (kept (s.data.toList.take k)).length (by simp; omega)
          have Hr2 := Lib.hid (Hr.out.set (kept (s.data.toList.take k)).length x)
          rw [set_fill _ _ _ (by omega)] at Hr2
          generalize (kept (s.data.toList.take k) ++ List.replicate (L - (kept (s.data.toList.take k)).length) 0)[(kept (s.data.toList.take k)).length]'_ = y at hcj
          obtain ⟨j, hj⟩ : ∃ j, j = (kept (s.data.toList.take k)).length := ⟨_, rfl⟩
          rw [← hj] at hcj hfj hjL hkL Hr2 ⊢
          have Hj := Lib.hid hj; clear hj
          go_wp2_with (with_reducible refine wpList_index9 rfl _ _ rfl s rfl k rfl x Hxs.out _ rfl ?_)
          go_roundw
          case rel => exact ⟨k + 1, by omega, by go_num, by rw [Hsn.out]; simp [← Hj.out], Hbr.out.setCell (p := ⟨bb, j, none⟩) hbb _, by rw [Hsn.out]; simpa [← Hj.out, Nat.sub_sub] using Hr2.out⟩
          case measure => simp [intOf]; omega
      · have hke : k = s.size := by omega
        have he : kept (s.data.toList.take k) ++ List.replicate (L - (kept (s.data.toList.take k)).length) 0 = kept s.data.toList := by
          rw [List.take_of_length_le (by simp; omega), HL.out]; simp
        rw [he] at hr
        have Hr := Lib.hid hr
        have Hbr := Lib.hid hbr
        clear hr hbr he
        obtain rfl := hke
        go_wp2_with (with_reducible refine wpList_back rfl _ rfl _ _ _ rfl (kept s.data.toList) HL.out.symm Hr.out ?_)
        go_ret
        exact ⟨rfl, Hbr.out⟩
end Go.Proofs.YtlekingcmikopaaGreatDoor
