/-
  What (*strings.Replacer).buildOnce leaves in memory, and its walk.
-/
import Derived.Test.YtlekingcmikopaaGreatDoorRepl
namespace Go.Proofs.YtlekingcmikopaaGreatDoor
open Go.RowKit

theorem mem_gone (x : UInt8) : x ∈ ([13, 10, 9] : List UInt8) ↔ isGone x = true := by
  simp [isGone]
  constructor
  · rintro (h | h | h) <;> simp [h]
  · rintro ((h | h) | h) <;> simp [h]

theorem owns_cell {w : World} {base e g n c : Nat} {xs : List Value} (h : w.ownsRow base e 1 (.slice (some ⟨g, 0, none⟩) n c) n xs) (j : Nat) (v : Value) (hv : xs[j]? = some v) : w.cell? ⟨g, j, none⟩ = some v := by
  rcases h.2 with ⟨h, _⟩ | ⟨g', cap, cur, he, hb, hg, hnc, hcm, hcs, ht⟩
  · simp at h
  · simp only [Value.slice.injEq, Option.some.injEq, Addr.mk.injEq, and_true, true_and] at he
    obtain ⟨rfl, rfl⟩ := he
    have hl := h.1
    have hj := (List.getElem?_eq_some_iff.1 hv).1
    have h1 : (cur.toList.take (n * 1))[j]? = some v := by rw [ht]; exact hv
    rw [List.getElem?_take, if_pos (by omega)] at h1
    simp only [World.cell?, hg]
    simpa using h1
theorem owns_ge {w : World} {base e g n c : Nat} {xs : List Value} (h : w.ownsRow base e 1 (.slice (some ⟨g, 0, none⟩) n c) n xs) : base ≤ g := by
  rcases h.2 with ⟨h, _⟩ | ⟨g', cap, cur, he, hb, _⟩
  · simp at h
  · simp only [Value.slice.injEq, Option.some.injEq, Addr.mk.injEq, and_true, true_and] at he
    obtain ⟨rfl, rfl⟩ := he
    exact hb

theorem BS.isBsr {w w' : World} {T C : Nat} (h : BS w T C [13, 10, 9] w') : IsBsr w' T C where
  t0 := owns_cell h.own 0 _ rfl
  t1 := owns_cell h.own 1 _ rfl
  t2 := owns_cell h.own 2 _ rfl
  last := h.last
  gone := fun x hx => by
    obtain ⟨cs, hb, _, _, h7, _⟩ := h.row
    obtain ⟨b, c, e⟩ := h7 x ((mem_gone x).2 hx)
    exact ⟨b, c, by simp [World.cell?, hb, e]⟩
  stay := fun x hx => h.nil x fun hm => by rw [(mem_gone x).1 hm] at hx; cases hx

/-- A store into a block of its own touches nothing of the struct. -/
theorem IsBsr.setCell {w : World} {T C : Nat} (h : IsBsr w T C) (p : Addr) (v : Value) (h1 : p.block ≠ T) (h2 : p.block ≠ C) : IsBsr (w.setCell p v) T C := by
  have hT : ∀ j, (w.setCell p v).cell? ⟨T, j, none⟩ = w.cell? ⟨T, j, none⟩ := fun j => World.cell?_setCell_other _ _ _ _ fun e => h1 (by rw [e])
  have hC : ∀ j, (w.setCell p v).cell? ⟨C, j, none⟩ = w.cell? ⟨C, j, none⟩ := fun j => World.cell?_setCell_other _ _ _ _ fun e => h2 (by rw [e])
  exact ⟨(hT _).trans h.t0, (hT _).trans h.t1, (hT _).trans h.t2, (hC _).trans h.last, fun x hx => let ⟨b, c, e⟩ := h.gone x hx; ⟨b, c, (hC _).trans e⟩, fun x hx => (hC _).trans (h.stay x hx)⟩

/-- Behind the first use of the replacer at block B: it holds the struct; of the old memory only its own block has turned. -/
structure Built (w : World) (B : Nat) (w' : World) : Prop where
  grown : w.grownBy w' (some B)
  iface : ∃ T C, w'.cell? ⟨B, 3, none⟩ = some (.iface 86 (.pointer (some ⟨C, 0, none⟩))) ∧ IsBsr w' T C ∧ B ≠ T ∧ B ≠ C

theorem grownBy_setCell (w : World) (B j : Nat) (v : Value) : w.grownBy (w.setCell ⟨B, j, none⟩ v) (some B) :=
  ⟨rfl, rfl, rfl, by simp, fun k _ hne => Below.heap_setCell _ _ _ _ (by simpa using hne)⟩
theorem grownBy_trans {a b c : World} {r : Option Nat} (h : a.grownBy b r) (k : b.grownBy c r) : a.grownBy c r :=
  ⟨k.os.trans h.os, k.tape.trans h.tape, k.output.trans h.output, Nat.le_trans h.size k.size, fun i hi hne => (k.block i (Nat.lt_of_lt_of_le hi h.size) hne).trans (h.block i hi hne)⟩

theorem Built.setCell {w w' : World} {B : Nat} (h : Built w B w') (j : Nat) (hj : j ≠ 3) (v : Value) : Built w B (w'.setCell ⟨B, j, none⟩ v) := by
  obtain ⟨T, C, h3, hI, hT, hC⟩ := h.iface
  exact ⟨grownBy_trans h.grown (grownBy_setCell _ _ _ _), T, C, (World.cell?_setCell_other _ _ _ _ (fun e => hj (by have := congrArg Addr.off e; simpa using this))).trans h3, hI.setCell _ _ hT hC, hT, hC⟩
theorem Built.drew {w w' : World} {B : Nat} (h : Built w B w') : Built w B w'.drew := by
  obtain ⟨T, C, h3, hI, hT, hC⟩ := h.iface
  exact ⟨⟨h.grown.os, h.grown.tape, h.grown.output, h.grown.size, h.grown.block⟩, T, C, h3, ⟨hI.t0, hI.t1, hI.t2, hI.last, hI.gone, hI.stay⟩, hT, hC⟩
theorem Built.pre {w w' : World} {B j : Nat} {v : Value} (h : Built (w.setCell ⟨B, j, none⟩ v) B w') : Built w B w' :=
  ⟨grownBy_trans (grownBy_setCell _ _ _ _) h.grown, h.iface⟩

/-- The replacer's own block ahead of its first use. -/
structure Fresh (w : World) (B : Nat) : Prop where
  c0 : w.cell? ⟨B, 0, none⟩ = some (.int .u32 0)
  c1 : w.cell? ⟨B, 1, none⟩ = some (.int .i32 0)
  c3 : w.cell? ⟨B, 3, none⟩ = some .nilIface
  c4 : ∃ g cap, w.cell? ⟨B, 4, none⟩ = some (.slice (some ⟨g, 0, none⟩) 6 cap) ∧ B ≠ g ∧ w.cell? ⟨g, 0, none⟩ = some (.string ⟨#[9]⟩) ∧ w.cell? ⟨g, 1, none⟩ = some (.string ⟨#[]⟩) ∧ w.cell? ⟨g, 2, none⟩ = some (.string ⟨#[10]⟩) ∧
    w.cell? ⟨g, 3, none⟩ = some (.string ⟨#[]⟩) ∧ w.cell? ⟨g, 4, none⟩ = some (.string ⟨#[13]⟩) ∧ w.cell? ⟨g, 5, none⟩ = some (.string ⟨#[]⟩)
  free : ∀ j, w.frozen? ⟨B, j, none⟩ = false

theorem Fresh.below {w w' : World} {B : Nat} (h : Fresh w B) (hb : Below w.heap.size w w') : Fresh w' B := by
  obtain ⟨g, cap, h4, hg, h5⟩ := h.c4
  have hB := World.block_lt_of_cell? w _ h.c0
  exact ⟨cell_below hb h.c0, cell_below hb h.c1, cell_below hb h.c3, ⟨g, cap, cell_below hb h4, hg, cell_below hb h5.1, cell_below hb h5.2.1, cell_below hb h5.2.2.1, cell_below hb h5.2.2.2.1, cell_below hb h5.2.2.2.2.1, cell_below hb h5.2.2.2.2.2⟩, fun j => (hb.frozen (p := ⟨B, j, none⟩) hB).trans (h.free j)⟩

/-- The same with the lock taken. -/
theorem Fresh.locked {w : World} {B : Nat} (h : Fresh w B) (v : Value) : (w.setCell ⟨B, 1, none⟩ v).cell? ⟨B, 3, none⟩ = some .nilIface ∧ (∃ g cap, (w.setCell ⟨B, 1, none⟩ v).cell? ⟨B, 4, none⟩ = some (.slice (some ⟨g, 0, none⟩) 6 cap) ∧ B ≠ g ∧
    (w.setCell ⟨B, 1, none⟩ v).cell? ⟨g, 0, none⟩ = some (.string ⟨#[9]⟩) ∧ (w.setCell ⟨B, 1, none⟩ v).cell? ⟨g, 1, none⟩ = some (.string ⟨#[]⟩) ∧ (w.setCell ⟨B, 1, none⟩ v).cell? ⟨g, 2, none⟩ = some (.string ⟨#[10]⟩) ∧
    (w.setCell ⟨B, 1, none⟩ v).cell? ⟨g, 3, none⟩ = some (.string ⟨#[]⟩) ∧ (w.setCell ⟨B, 1, none⟩ v).cell? ⟨g, 4, none⟩ = some (.string ⟨#[13]⟩) ∧ (w.setCell ⟨B, 1, none⟩ v).cell? ⟨g, 5, none⟩ = some (.string ⟨#[]⟩)) := by
  obtain ⟨g, cap, h4, hg, h5⟩ := h.c4
  have hB : ∀ j, j ≠ 1 → (w.setCell ⟨B, 1, none⟩ v).cell? ⟨B, j, none⟩ = w.cell? ⟨B, j, none⟩ := fun j hj => World.cell?_setCell_other _ _ _ _ fun e => hj (by have := congrArg Addr.off e; simpa using this.symm)
  have hG : ∀ j, (w.setCell ⟨B, 1, none⟩ v).cell? ⟨g, j, none⟩ = w.cell? ⟨g, j, none⟩ := fun j => World.cell?_setCell_other _ _ _ _ fun e => hg (congrArg Addr.block e)
  exact ⟨(hB 3 (by decide)).trans h.c3, g, cap, (hB 4 (by decide)).trans h4, hg, (hG 0).trans h5.1, (hG 1).trans h5.2.1, (hG 2).trans h5.2.2.1, (hG 3).trans h5.2.2.2.1, (hG 4).trans h5.2.2.2.2.1, (hG 5).trans h5.2.2.2.2.2⟩

/-- Behind buildOnce, with what the two calls that doSlow defers ask of the replacer's block. -/
def OncePost (w : World) (B : Nat) (e : Ending) (w' : World) : Prop :=
  e = .returned (.tuple #[]) ∧ Built w B w' ∧ (∀ j, j < 3 → w'.cell? ⟨B, j, none⟩ = w.cell? ⟨B, j, none⟩) ∧ ∀ j, w'.frozen? ⟨B, j, none⟩ = w.frozen? ⟨B, j, none⟩

theorem once_of_build {w w2 : World} {T C B : Nat} (h : BS w T C [13, 10, 9] w2) (hB : B < w.heap.size) {x : Value} (h3 : w2.cell? ⟨B, 3, none⟩ = some x) :
    OncePost w B (.returned (.tuple #[])) ((w2.setCell ⟨B, 3, none⟩ (.iface 86 (.pointer (some ⟨C, 0, none⟩)))).setCell ⟨B, 4, none⟩ (.slice none 0 0)) := by
  have hT : B ≠ T := by have := h.hT; omega
  have hC : B ≠ C := by have := h.hC; omega
  refine ⟨rfl, ⟨grownBy_trans ⟨h.below.os, h.below.tape, h.below.output, h.below.size, fun k hk _ => h.below.block k hk⟩ (grownBy_trans (grownBy_setCell _ _ _ _) (grownBy_setCell _ _ _ _)), T, C, ?_, (h.isBsr.setCell _ _ hT hC).setCell _ _ hT hC, hT, hC⟩, fun j hj => ?_, fun j => ?_⟩
  · rw [World.cell?_setCell_other _ _ _ _ (by simp)]
    exact World.cell?_setCell_same _ _ _ h3
  · rw [World.cell?_setCell_other _ _ _ _ (by simp), World.cell?_setCell_other _ _ _ _ (by simp)]
    exact h.below.cell (p := ⟨B, j, none⟩) hB
  · simpa using h.below.frozen (p := ⟨B, j, none⟩) hB

set_option maxRecDepth 100000 in
set_option maxHeartbeats 1000000 in
theorem buildOnce_any (B g cap : Nat) (w : World) (h3 : w.cell? ⟨B, 3, none⟩ = some .nilIface) (h4 : w.cell? ⟨B, 4, none⟩ = some (.slice (some ⟨g, 0, none⟩) 6 cap)) (f : ∀ j, w.frozen? ⟨B, j, none⟩ = false)
    (c0 : w.cell? ⟨g, 0, none⟩ = some (.string ⟨#[9]⟩)) (c1 : w.cell? ⟨g, 1, none⟩ = some (.string ⟨#[]⟩)) (c2 : w.cell? ⟨g, 2, none⟩ = some (.string ⟨#[10]⟩)) (c3 : w.cell? ⟨g, 3, none⟩ = some (.string ⟨#[]⟩)) (c4 : w.cell? ⟨g, 4, none⟩ = some (.string ⟨#[13]⟩)) (c5 : w.cell? ⟨g, 5, none⟩ = some (.string ⟨#[]⟩)) :
    Calls Tryz.prog 37 #[.pointer (some ⟨B, 0, none⟩)] w (OncePost w B) := by
  have hB := World.block_lt_of_cell? w _ h3
  have K := Lib.hid (build_any B g cap w h4 c0 c1 c2 c3 c4 c5)
  clear c0 c1 c2 c3 c4 c5
  have F := Lib.hid f; clear f
  have H3 := Lib.hid h3
  have H4 := Lib.hid h4
  clear h3 h4
  go_enter Tryz.func37, Tryz.ntmps37
  go_wp2_with (go_at_call 44; refine K.out.mono ?_; rintro e w2 ⟨T, C, rfl, hbs⟩; have h32 := hbs.old H3.out; have h42 := hbs.old H4.out; have f3 := (hbs.below.frozen (p := ⟨B, 3, none⟩) hB).trans (F.out 3); have f4 := (hbs.below.frozen (p := ⟨B, 4, none⟩) hB).trans (F.out 4); have Hbs := Lib.hid hbs; clear hbs)
  go_end0
  exact once_of_build Hbs.out hB h32
end Go.Proofs.YtlekingcmikopaaGreatDoor
