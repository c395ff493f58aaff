/-
  What the struct behind strings.NewReplacer at bytes holds while (*strings.Replacer).build fills it.
-/
import Derived.Test.YtlekingcmikopaaGreatDoorSteps
import Derived.OwnWalk
namespace Go.Proofs.YtlekingcmikopaaGreatDoor
open Go.RowKit
/-- What the struct behind the replacer holds while it is built: the bytes l have been entered. -/
structure BS (w : World) (T C : Nat) (l : List UInt8) (wr : World) : Prop where
  below : Below w.heap.size w wr
  own : wr.ownsRow w.heap.size 9 1 (.slice (some ⟨T, 0, none⟩) l.length 3) l.length (l.map fun b => .string ⟨#[b]⟩)
  row : ∃ cs, wr.heap[C]? = some (.cells cs 85 (0, 0)) ∧ cs.size = 257 ∧ cs[256]? = some (.slice (some ⟨T, 0, none⟩) l.length 3) ∧
    (∀ x : UInt8, x ∈ l → ∃ b c, cs[x.toNat]? = some (.slice (some ⟨b, 0, none⟩) 0 c)) ∧ (∀ x : UInt8, x ∉ l → cs[x.toNat]? = some nilS)
  hT : w.heap.size ≤ T
  hC : w.heap.size ≤ C
  hTC : T ≠ C

theorem BS.init (w : World) : BS w w.heap.size (w.heap.size + 1) [] ((w.alloc (.cells #[.string ⟨#[]⟩, .string ⟨#[]⟩, .string ⟨#[]⟩] 9)).alloc (.cells (bsrRow (.slice (some ⟨w.heap.size, 0, none⟩) 0 3)) 85)) where
  below := ((Below.refl _ _).alloc (Nat.le_refl _) _).alloc (by simp) _
  own := (World.ownsRow_made w _ 3 (Nat.le_refl _) (by unfold maxLen; omega) rfl).alloc _
  row := ⟨_, by rw [show w.heap.size + 1 = (w.alloc (.cells #[.string ⟨#[]⟩, .string ⟨#[]⟩, .string ⟨#[]⟩] 9)).heap.size by simp]; exact heap_alloc_new _ _, bsrRow_size _, bsrRow_last _, fun x hx => by simp at hx, fun x _ => bsrRow_at _ _ (UInt8.toNat_lt x)⟩
  hT := Nat.le_refl _
  hC := by omega
  hTC := by omega

theorem BS.lt {w wr : World} {T C : Nat} {l : List UInt8} (h : BS w T C l wr) : C < wr.heap.size := by
  obtain ⟨cs, hb, _⟩ := h.row
  exact (Array.getElem?_eq_some_iff.1 hb).1
theorem BS.last {w wr : World} {T C : Nat} {l : List UInt8} (h : BS w T C l wr) : wr.cell? ⟨C, 256, none⟩ = some (.slice (some ⟨T, 0, none⟩) l.length 3) := by
  obtain ⟨cs, hb, _, h6, _⟩ := h.row
  simp [World.cell?, hb, h6]
theorem BS.nil {w wr : World} {T C : Nat} {l : List UInt8} (h : BS w T C l wr) (x : UInt8) (hx : x ∉ l) : wr.cell? ⟨C, x.toNat, none⟩ = some (.slice none 0 0) := by
  obtain ⟨cs, hb, _, _, _, h8⟩ := h.row
  simp [World.cell?, hb, h8 x hx, nilS]
theorem BS.old {w wr : World} {T C : Nat} {l : List UInt8} (h : BS w T C l wr) {p : Addr} {v : Value} (hp : w.cell? p = some v) : wr.cell? p = some v :=
  (h.below.cell (World.block_lt_of_cell? w p hp)).trans hp

theorem BS.next {w wr w1 w2 : World} {T C : Nat} {l : List UInt8} (h : BS w T C l wr) (x : UInt8) {A B : Obj} (hA : ((wr.alloc A).alloc B).grownBy w1 (some T))
    (hown : w1.ownsRow w.heap.size 9 1 (.slice (some ⟨T, 0, none⟩) (l.length + 1) 3) (l.length + 1) (l.map (fun b => .string ⟨#[b]⟩) ++ [.string ⟨#[x]⟩]))
    (h2 : (w1.setCell ⟨C, 256, none⟩ (.slice (some ⟨T, 0, none⟩) (l.length + 1) 3)).grownBy w2 none) (b c : Nat) :
    BS w T C (l ++ [x]) (w2.setCell ⟨C, x.toNat, none⟩ (.slice (some ⟨b, 0, none⟩) 0 c)) := by
  obtain ⟨cs, hb, hs, h6, h7, h8⟩ := h.row
  have hlt := h.lt
  have hsz := h.below.size
  have hlt1 : C < w1.heap.size := Nat.lt_of_lt_of_le hlt (by have := hA.size; simp at this; omega)
  have hb1 : w1.heap[C]? = some (.cells cs 85 (0, 0)) := by
    rw [hA.block C (by simp; omega) (by simp; exact fun e => h.hTC e.symm), Below.heap_alloc _ _ _ (by simp; omega), Below.heap_alloc _ _ _ hlt, hb]
  have hb2 : w2.heap[C]? = some (.cells (cs.setIfInBounds 256 (.slice (some ⟨T, 0, none⟩) (l.length + 1) 3)) 85 (0, 0)) := by
    rw [h2.block C (by simpa using hlt1) (by simp)]
    simp only [World.setCell, Array.getElem?_modify]
    rw [if_pos trivial, hb1]
    rfl
  have hx := UInt8.toNat_lt x
  have hB1 : Below w.heap.size w w1 := ((h.below.alloc hsz A).alloc (by simp; omega) B).grown hA (by simp; omega) (fun k hk => by cases hk; exact h.hT)
  have hB2 : Below w.heap.size w w2 := (hB1.setCell (p := ⟨C, 256, none⟩) h.hC _).grown h2 (by simp; exact hB1.size) (fun k hk => by cases hk)
  have hown2 : w2.ownsRow w.heap.size 9 1 (.slice (some ⟨T, 0, none⟩) (l.length + 1) 3) (l.length + 1) (l.map (fun b => .string ⟨#[b]⟩) ++ [.string ⟨#[x]⟩]) := by
    refine World.ownsRow.kept (row := some C) (w := w1) hown ⟨?_, ?_, ?_, ?_, fun k hk hne => ?_⟩ (.inr (by simp [Value.ownBlock]; exact h.hTC))
    · exact h2.os
    · exact h2.tape
    · exact h2.output
    · have := h2.size; simpa using this
    · rw [h2.block k (by simpa using hk) (by simp), Below.heap_setCell _ _ _ _ (by simpa using hne)]
  refine ⟨hB2.setCell (p := ⟨C, x.toNat, none⟩) h.hC _, ?_, ⟨(cs.setIfInBounds 256 (.slice (some ⟨T, 0, none⟩) (l.length + 1) 3)).setIfInBounds x.toNat (.slice (some ⟨b, 0, none⟩) 0 c), ?_, ?_, ?_, fun y hy => ?_, fun y hy => ?_⟩, h.hT, h.hC, h.hTC⟩
  · rw [List.length_append, List.map_append]
    refine World.ownsRow.kept (row := some C) (w := w2) hown2 ⟨rfl, rfl, rfl, by simp, fun k hk hne => Below.heap_setCell _ _ _ _ (by simpa using hne)⟩ (.inr (by simp [Value.ownBlock]; exact h.hTC))
  · simp only [World.setCell, Array.getElem?_modify]
    rw [if_pos trivial, hb2]
    rfl
  · simpa using hs
  · rw [Array.getElem?_setIfInBounds, if_neg (by omega), Array.getElem?_setIfInBounds, if_pos rfl, if_pos (by omega), List.length_append]
    rfl
  · have hy' := UInt8.toNat_lt y
    by_cases e : x = y
    · subst e
      exact ⟨b, c, by rw [Array.getElem?_setIfInBounds, if_pos rfl, if_pos (by simp; omega)]⟩
    · have hne : ¬ x.toNat = y.toNat := fun h' => e (UInt8.toNat_inj.1 h')
      have hyl : y ∈ l := (List.mem_append.1 hy).resolve_right fun h' => e (List.mem_singleton.1 h').symm
      obtain ⟨b', c', hh⟩ := h7 y hyl
      exact ⟨b', c', by rw [Array.getElem?_setIfInBounds, if_neg hne, Array.getElem?_setIfInBounds, if_neg (by omega), hh]⟩
  · have hy' := UInt8.toNat_lt y
    have hne : ¬ x.toNat = y.toNat := fun h' => hy (by rw [UInt8.toNat_inj.1 h']; simp)
    rw [Array.getElem?_setIfInBounds, if_neg hne, Array.getElem?_setIfInBounds, if_neg (by omega), h8 y (fun h' => hy (by simp [h']))]


theorem BS.kept {w wr w1 : World} {T C : Nat} {l : List UInt8} (h : BS w T C l wr) {A B : Obj} (hA : ((wr.alloc A).alloc B).grownBy w1 (some T)) : w1.heap[C]? = wr.heap[C]? := by
  rw [hA.block C (by have := h.lt; simp; omega) (by simp; exact fun e => h.hTC e.symm), Below.heap_alloc _ _ _ (by have := h.lt; simp; omega), Below.heap_alloc _ _ _ h.lt]
theorem BS.cell1 {w wr w1 : World} {T C : Nat} {l : List UInt8} (h : BS w T C l wr) {A B : Obj} (hA : ((wr.alloc A).alloc B).grownBy w1 (some T)) : w1.cell? ⟨C, 256, none⟩ = some (.slice (some ⟨T, 0, none⟩) l.length 3) :=
  (World.cell?_of_block (w := wr) (h.kept hA)).trans h.last
theorem BS.free1 {w wr w1 : World} {T C : Nat} {l : List UInt8} (h : BS w T C l wr) {A B : Obj} (hA : ((wr.alloc A).alloc B).grownBy w1 (some T)) (j : Nat) : w1.frozen? ⟨C, j, none⟩ = false := by
  obtain ⟨cs, hb, _⟩ := h.row
  simp [World.frozen?, h.kept hA, hb]
theorem BS.lt1 {w wr w1 : World} {T C : Nat} {l : List UInt8} (h : BS w T C l wr) {A B : Obj} (hA : ((wr.alloc A).alloc B).grownBy w1 (some T)) : C < w1.heap.size := by
  have h1 := h.lt
  have h2 := hA.size
  simp at h2
  omega
theorem BS.cell2 {w wr w1 w2 : World} {T C : Nat} {l : List UInt8} (h : BS w T C l wr) {A B : Obj} (hA : ((wr.alloc A).alloc B).grownBy w1 (some T)) {v : Value}
    (h2 : (w1.setCell ⟨C, 256, none⟩ v).grownBy w2 none) (x : UInt8) (hx : x ∉ l) : w2.cell? ⟨C, x.toNat, none⟩ = some (.slice none 0 0) ∧ w2.frozen? ⟨C, x.toNat, none⟩ = false := by
  have hlt := h.lt1 hA
  have hb2 : w2.heap[C]? = (w1.setCell ⟨C, 256, none⟩ v).heap[C]? := h2.block C (by simpa using hlt) (by simp)
  have hne : (⟨C, 256, none⟩ : Addr) ≠ ⟨C, x.toNat, none⟩ := fun e => by have h1 := congrArg Addr.off e; have h3 := UInt8.toNat_lt x; simp only at h1; omega
  refine ⟨?_, ?_⟩
  · rw [World.cell?_of_block (w := w1.setCell ⟨C, 256, none⟩ v) hb2, World.cell?_setCell_other _ _ _ _ hne, World.cell?_of_block (w := wr) (h.kept hA), h.nil x hx]
  · rw [World.frozen?_of_block (w := w1.setCell ⟨C, 256, none⟩ v) hb2]
    simpa using h.free1 hA x.toNat

theorem cell_second (W : World) (A : Obj) (x : Value) (t : TypeId) : ∀ j u, [x][j]? = some u → ((W.alloc A).alloc (.cells #[x] t)).cell? ((⟨W.heap.size + 1, 0, none⟩ : Addr).add j) = some u := by
  intro j u h
  obtain rfl : j = 0 := by
    have := (List.getElem?_eq_some_iff.1 h).1
    simp at this; omega
  have hs : W.heap.size + 1 = (W.alloc A).heap.size := by simp
  have hb : ((W.alloc A).alloc (.cells #[x] t)).heap[W.heap.size + 1]? = some (.cells #[x] t) := by rw [hs]; exact heap_alloc_new _ _
  obtain rfl : x = u := by simpa using h
  have hadd : (⟨W.heap.size + 1, 0, none⟩ : Addr).add 0 = ⟨W.heap.size + 1, 0, none⟩ := rfl
  rw [hadd]
  unfold World.cell?
  rw [hb]
  rfl
end Go.Proofs.YtlekingcmikopaaGreatDoor
