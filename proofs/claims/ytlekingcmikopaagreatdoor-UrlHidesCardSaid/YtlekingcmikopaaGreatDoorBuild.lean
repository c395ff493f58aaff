/-
  The walk of (*strings.Replacer).build at the three pairs that url.gone hands over: a line feed, a carriage return, a tab, each to be left out.
-/
import Derived.Test.YtlekingcmikopaaGreatDoorBs
import Derived.WalkSpells
import Derived.Deep.Cut
namespace Go.Proofs.YtlekingcmikopaaGreatDoor
open Go.RowKit

theorem info9 : (Tryz.prog.info? 9).map (fun i => (i.zero, i.size, i.bytes)) = some (some (.string ⟨#[]⟩), 1, 16) := by kernel_rfl

/-- What build hands back: the struct with the three bytes entered, behind an interface. -/
def BuildPost (w : World) (e : Ending) (w' : World) : Prop := ∃ T C, e = .returned (.iface 86 (.pointer (some ⟨C, 0, none⟩))) ∧ BS w T C [13, 10, 9] w'

set_option maxRecDepth 100000 in
set_option maxHeartbeats 2000000 in
theorem build_any (B g cap : Nat) (w : World) (h4 : w.cell? ⟨B, 4, none⟩ = some (.slice (some ⟨g, 0, none⟩) 6 cap))
    (c0 : w.cell? ⟨g, 0, none⟩ = some (.string ⟨#[9]⟩)) (c1 : w.cell? ⟨g, 1, none⟩ = some (.string ⟨#[]⟩)) (c2 : w.cell? ⟨g, 2, none⟩ = some (.string ⟨#[10]⟩)) (c3 : w.cell? ⟨g, 3, none⟩ = some (.string ⟨#[]⟩)) (c4 : w.cell? ⟨g, 4, none⟩ = some (.string ⟨#[13]⟩)) (c5 : w.cell? ⟨g, 5, none⟩ = some (.string ⟨#[]⟩)) :
    Calls Tryz.prog 44 #[.pointer (some ⟨B, 0, none⟩)] w (BuildPost w) := by
  have heq := fun (w : World) (a : Option Addr) (n c : Nat) => Lib.run_eql_slice_nil (P := Tryz.prog) w 39 5 a n c 0 0 Tryz.underlying39
  obtain ⟨i9, hi9, hz9, hs9, hby9⟩ := info_parts info9
  have hmk : ∀ w, (Instr.makeSlice 24 (.int .i64 0) (.int .i64 3)).run Tryz.prog w = .ok (.slice (some ⟨w.heap.size, 0, none⟩) 0 3) (w.alloc (.cells #[.string ⟨#[]⟩, .string ⟨#[]⟩, .string ⟨#[]⟩] 9)) := fun _ => by kernel_rfl
  go_enter Tryz.func44, Tryz.ntmps44
  go_wp2_with fail
  go_loop [4, 5] (fun a i => (i = .int .i64 0 ∧ a = .bool true) ∨ (i = .int .i64 2 ∧ a = .bool false) ∨ (i = .int .i64 4 ∧ a = .bool false) ∨ (i = .int .i64 6 ∧ a = .bool false)) (fun _ i => 6 - (intOf i).toNat)
  case atStart => exact .inl ⟨rfl, rfl⟩
  case round =>
  rcases hrel with ⟨rfl, rfl⟩ | ⟨rfl, rfl⟩ | ⟨rfl, rfl⟩ | ⟨rfl, rfl⟩
  · go_wp2_with fail
    go_round
    case rel => exact .inr (.inl ⟨rfl, rfl⟩)
    case measure => simp [intOf]
  · go_wp2_with fail
    go_round
    case rel => exact .inr (.inr (.inl ⟨rfl, rfl⟩))
    case measure => simp [intOf]
  · go_wp2_with fail
    go_round
    case rel => exact .inr (.inr (.inr ⟨rfl, rfl⟩))
    case measure => simp [intOf]
  · go_upto_region 26 with (fail)
    go_wp2_with (first | (with_reducible refine wpList_build85 rfl _ rfl _ _ rfl ?_) | (with_reducible refine wpList_alloc85 rfl rfl ?_) | (with_reducible refine wpList_store85 rfl _ _ rfl rfl _ rfl rfl ?_))
    have hB0 := BS.init w
    generalize hw1 : (w.alloc (.cells #[.string ⟨#[]⟩, .string ⟨#[]⟩, .string ⟨#[]⟩] 9)).alloc (.cells (bsrRow (.slice (some ⟨w.heap.size, 0, none⟩) 0 3)) 85) = w1 at hB0 ⊢
    clear hw1
    generalize w.heap.size = T at hB0 ⊢
    generalize T + 1 = C at hB0 ⊢
    go_loopw [12] (fun i wr => (i = .int .i64 4 ∧ BS w T C [] wr) ∨ (i = .int .i64 2 ∧ BS w T C [13] wr) ∨ (i = .int .i64 0 ∧ BS w T C [13, 10] wr) ∨ (i = .int .i64 (-2) ∧ BS w T C [13, 10, 9] wr)) (fun i _ => (intOf i + 2).toNat)
    case atStart => exact .inl ⟨rfl, hB0⟩
    case round =>
    clear hB0
    rcases hrel with ⟨rfl, hb⟩ | ⟨rfl, hb⟩ | ⟨rfl, hb⟩ | ⟨rfl, hb⟩
    · have hnil : wr.cell? ⟨C, 13, none⟩ = some (.slice none 0 0) := hb.nil 13 (by decide)
      have hlast : wr.cell? ⟨C, 256, none⟩ = some (.slice (some ⟨T, 0, none⟩) 0 3) := hb.last
      have ce := hb.old c4
      have cn := hb.old c5
      have hlt := hb.lt
      have Hb := Lib.hid hb
      clear hb
      go_wp2_with (first
        | (with_reducible refine wpList_index9 rfl _ _ rfl ⟨#[13]⟩ rfl 0 rfl 13 rfl 13 rfl ?_)
        | (with_reducible refine wpList_back rfl _ rfl _ _ _ rfl [13] rfl (ByteRow.one _ 13) ?_)
        | (at_builtin; refine wpList_append_fits _ rfl _ _ 24 rfl w.heap.size 9 i9 1 Tryz.underlying24 hi9 hs9 T 0 3 (([] : List UInt8).map fun b => .string ⟨#[b]⟩) rfl ((Hb.out.own.alloc _).alloc _) ⟨wr.heap.size + 1, 0, none⟩ 1 1 [.string ⟨#[13]⟩] rfl rfl (cell_second _ _ _ _) (by simp [Value.oneCell']) (by omega) ?_; intro w1 hown1 hg1; have hc1 : w1.cell? ⟨C, 256, none⟩ = some (.slice (some ⟨T, 0, none⟩) 0 3) := Hb.out.cell1 hg1; have hf1 := Hb.out.free1 hg1 256; have hl1 := Hb.out.lt1 hg1; have Hown1 := Lib.hid hown1; have Hg1 := Lib.hid hg1; clear hown1 hg1)
        | ((with_reducible refine wpList_bytes rfl _ rfl ⟨#[]⟩ rfl ?_); intro w2 c2 hg2 hs2 _; obtain ⟨hc2, hf2⟩ := Hb.out.cell2 Hg1.out hg2 13 (by decide); have hc2' : w2.cell? ⟨C, 13, none⟩ = some (.slice none 0 0) := hc2; have hf2' : w2.frozen? ⟨C, 13, none⟩ = false := hf2; have Hg2 := Lib.hid hg2; clear hg2 hc2 hf2))
      exact ⟨.inr (.inl ⟨rfl, Hb.out.next 13 Hg1.out Hown1.out Hg2.out _ _⟩), by simp [intOf]⟩
    · have hnil : wr.cell? ⟨C, 10, none⟩ = some (.slice none 0 0) := hb.nil 10 (by decide)
      have hlast : wr.cell? ⟨C, 256, none⟩ = some (.slice (some ⟨T, 0, none⟩) 1 3) := hb.last
      have ce := hb.old c2
      have cn := hb.old c3
      have hlt := hb.lt
      have Hb := Lib.hid hb
      clear hb
      go_wp2_with (first
        | (with_reducible refine wpList_index9 rfl _ _ rfl ⟨#[10]⟩ rfl 0 rfl 10 rfl 10 rfl ?_)
        | (with_reducible refine wpList_back rfl _ rfl _ _ _ rfl [10] rfl (ByteRow.one _ 10) ?_)
        | (at_builtin; refine wpList_append_fits _ rfl _ _ 24 rfl w.heap.size 9 i9 1 Tryz.underlying24 hi9 hs9 T 1 3 (([13] : List UInt8).map fun b => .string ⟨#[b]⟩) rfl ((Hb.out.own.alloc _).alloc _) ⟨wr.heap.size + 1, 0, none⟩ 1 1 [.string ⟨#[10]⟩] rfl rfl (cell_second _ _ _ _) (by simp [Value.oneCell']) (by omega) ?_; intro w1 hown1 hg1; have hc1 : w1.cell? ⟨C, 256, none⟩ = some (.slice (some ⟨T, 0, none⟩) 1 3) := Hb.out.cell1 hg1; have hf1 := Hb.out.free1 hg1 256; have hl1 := Hb.out.lt1 hg1; have Hown1 := Lib.hid hown1; have Hg1 := Lib.hid hg1; clear hown1 hg1)
        | ((with_reducible refine wpList_bytes rfl _ rfl ⟨#[]⟩ rfl ?_); intro w2 c2 hg2 hs2 _; obtain ⟨hc2, hf2⟩ := Hb.out.cell2 Hg1.out hg2 10 (by decide); have hc2' : w2.cell? ⟨C, 10, none⟩ = some (.slice none 0 0) := hc2; have hf2' : w2.frozen? ⟨C, 10, none⟩ = false := hf2; have Hg2 := Lib.hid hg2; clear hg2 hc2 hf2))
      exact ⟨.inr (.inr (.inl ⟨rfl, Hb.out.next 10 Hg1.out Hown1.out Hg2.out _ _⟩)), by simp [intOf]⟩
    · have hnil : wr.cell? ⟨C, 9, none⟩ = some (.slice none 0 0) := hb.nil 9 (by decide)
      have hlast : wr.cell? ⟨C, 256, none⟩ = some (.slice (some ⟨T, 0, none⟩) 2 3) := hb.last
      have ce := hb.old c0
      have cn := hb.old c1
      have hlt := hb.lt
      have Hb := Lib.hid hb
      clear hb
      go_wp2_with (first
        | (with_reducible refine wpList_index9 rfl _ _ rfl ⟨#[9]⟩ rfl 0 rfl 9 rfl 9 rfl ?_)
        | (with_reducible refine wpList_back rfl _ rfl _ _ _ rfl [9] rfl (ByteRow.one _ 9) ?_)
        | (at_builtin; refine wpList_append_fits _ rfl _ _ 24 rfl w.heap.size 9 i9 1 Tryz.underlying24 hi9 hs9 T 2 3 (([13, 10] : List UInt8).map fun b => .string ⟨#[b]⟩) rfl ((Hb.out.own.alloc _).alloc _) ⟨wr.heap.size + 1, 0, none⟩ 1 1 [.string ⟨#[9]⟩] rfl rfl (cell_second _ _ _ _) (by simp [Value.oneCell']) (by omega) ?_; intro w1 hown1 hg1; have hc1 : w1.cell? ⟨C, 256, none⟩ = some (.slice (some ⟨T, 0, none⟩) 2 3) := Hb.out.cell1 hg1; have hf1 := Hb.out.free1 hg1 256; have hl1 := Hb.out.lt1 hg1; have Hown1 := Lib.hid hown1; have Hg1 := Lib.hid hg1; clear hown1 hg1)
        | ((with_reducible refine wpList_bytes rfl _ rfl ⟨#[]⟩ rfl ?_); intro w2 c2 hg2 hs2 _; obtain ⟨hc2, hf2⟩ := Hb.out.cell2 Hg1.out hg2 9 (by decide); have hc2' : w2.cell? ⟨C, 9, none⟩ = some (.slice none 0 0) := hc2; have hf2' : w2.frozen? ⟨C, 9, none⟩ = false := hf2; have Hg2 := Lib.hid hg2; clear hg2 hc2 hf2))
      exact ⟨.inr (.inr (.inr ⟨rfl, Hb.out.next 9 Hg1.out Hown1.out Hg2.out _ _⟩)), by simp [intOf]⟩
    · have Hb := Lib.hid hb
      clear hb
      go_wp2_with fail
      go_ret
      exact ⟨T, C, rfl, Hb.out⟩
end Go.Proofs.YtlekingcmikopaaGreatDoor
