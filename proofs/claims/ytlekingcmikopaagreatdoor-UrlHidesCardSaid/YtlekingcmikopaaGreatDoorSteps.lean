/-
  Two steps of a walk with the world behind them abstract: a string turned into a slice of bytes, and a slice of bytes turned into a string.
-/
import Derived.Test.YtlekingcmikopaaGreatDoorBsr
import Derived.Lib.ConvBytes
import Derived.Laws.IdiomStrings
namespace Go.Proofs.YtlekingcmikopaaGreatDoor
open Go.RowKit

/-- A row of bytes at the head of block b: the bytes of l stand in its first cells; none of them is frozen. -/
def ByteRow (w : World) (b : Nat) (l : List UInt8) : Prop :=
  ∃ cs lo hi, w.heap[b]? = some (.cells cs 5 (lo, hi)) ∧ l.length ≤ cs.size ∧ (hi ≤ lo ∨ l.length ≤ lo) ∧ ∀ j (h : j < l.length), cs[j]? = some (.int .u8 (l[j].toNat : Int))

theorem ByteRow.cell {w : World} {b : Nat} {l : List UInt8} (h : ByteRow w b l) (j : Nat) (hj : j < l.length) : w.cell? ⟨b, j, none⟩ = some (.int .u8 (l[j].toNat : Int)) := by
  obtain ⟨cs, lo, hi, hb, _, _, hc⟩ := h
  simp [World.cell?, hb, hc j hj]
theorem ByteRow.frozen {w : World} {b : Nat} {l : List UInt8} (h : ByteRow w b l) (j : Nat) (hj : j < l.length) : w.frozen? ⟨b, j, none⟩ = false := by
  obtain ⟨cs, lo, hi, hb, _, hlo, _⟩ := h
  simp only [World.frozen?, hb, Bool.and_eq_false_imp, decide_eq_true_eq, decide_eq_false_iff_not]
  omega
theorem ByteRow.same {w w' : World} {b : Nat} {l : List UInt8} (h : ByteRow w b l) (hs : w'.heap[b]? = w.heap[b]?) : ByteRow w' b l := by
  obtain ⟨cs, lo, hi, hb, r⟩ := h
  exact ⟨cs, lo, hi, hs.trans hb, r⟩
theorem ByteRow.lt {w : World} {b : Nat} {l : List UInt8} (h : ByteRow w b l) : b < w.heap.size := by
  obtain ⟨cs, lo, hi, hb, _⟩ := h
  exact (Array.getElem?_eq_some_iff.1 hb).1
theorem ByteRow.set {w : World} {b : Nat} {l : List UInt8} (h : ByteRow w b l) (j : Nat) (x : UInt8) : ByteRow (w.setCell ⟨b, j, none⟩ (.int .u8 (x.toNat : Int))) b (l.set j x) := by
  obtain ⟨cs, lo, hi, hb, h1, h2, hc⟩ := h
  refine ⟨cs.setIfInBounds j (.int .u8 (x.toNat : Int)), lo, hi, ?_, by simpa using h1, by simpa using h2, ?_⟩
  · simp only [World.setCell, Array.getElem?_modify]
    rw [if_pos trivial, hb]
    rfl
  · intro k hk
    have hk' : k < l.length := by simpa using hk
    rw [Array.getElem?_setIfInBounds]
    by_cases e : j = k
    · subst e
      rw [if_pos rfl, if_pos (by omega)]
      simp
    · rw [if_neg e, hc k hk', List.getElem_set_ne e]

theorem ByteRow.one (w : World) (x : UInt8) : ByteRow (w.alloc (.cells #[.int .u8 (x.toNat : Int)] 5)) w.heap.size [x] :=
  ⟨_, 0, 0, heap_alloc_new w _, by simp, .inl (Nat.le_refl _), fun j hj => by
    obtain rfl : j = 0 := by simp at hj; omega
    rfl⟩

theorem freeze_heap (w : World) (a : Addr) (n k : Nat) (h : k ≠ a.block) : (w.freeze a n).heap[k]? = w.heap[k]? := by
  unfold World.freeze
  split
  · rfl
  · simp only [Array.getElem?_modify]
    rw [if_neg (by omega)]

section
variable {ops : Array Oper} {rest : List Oper} {o : Oper} {a : Act} {w : World} {Q : Exit → Act → World → Prop}
theorem wpList_bytes (hg : o.guard = none) (x : Operand) (ho : o.op = .convert 9 39 x) (s : ByteArray) (hx : a.eval x = .string s)
    (h : ∀ w' c, w.grownBy w' none → w'.heap.size = w.heap.size + 1 → ByteRow w' w.heap.size s.data.toList → wpList Tryz.prog ops Q rest (a.put o.dst (.slice (some ⟨w.heap.size, 0, none⟩) s.size c)) w') :
    wpList Tryz.prog ops Q (o :: rest) a w := by
  refine Great.wpList_runTo hg o.dst rfl _ _ ?_ (h (Lib.bytesWorld w 5 s) (grownCap w s.size 0 5) ?_ (Lib.bytesWorld_size w 5 s) ?_)
  · simp [execOp, ho, hx, Lib.run_convert_string_bytes (P := Tryz.prog) w 9 39 5 s Tryz.underlying9 Tryz.underlying39 Tryz.underlying5, Result.andThen]
  · exact ⟨rfl, rfl, rfl, by rw [Lib.bytesWorld_size]; omega, fun k hk _ => Lib.bytesWorld_at_old w 5 s k hk⟩
  · refine ⟨_, _, _, Lib.bytesWorld_at_new w 5 s, ?_, ?_, fun j hj => ?_⟩
    · simp [Lib.bytesCells]
    · exact .inr (by simp [Lib.bytesCells])
    · have hj' : j < s.size := by simpa using hj
      have := Lib.bytesWorld_cell w 5 s j hj'
      simp only [World.cell?, Lib.bytesWorld_at_new] at this
      simpa [List.getD, List.getElem?_eq_getElem hj] using this

theorem wpList_back (hg : o.guard = none) (x : Operand) (ho : o.op = .convert 39 9 x) (b n c : Nat) (hx : a.eval x = .slice (some ⟨b, 0, none⟩) n c) (l : List UInt8) (hl : l.length = n) (hr : ByteRow w b l)
    (h : wpList Tryz.prog ops Q rest (a.put o.dst (.string ⟨l.toArray⟩)) w) : wpList Tryz.prog ops Q (o :: rest) a w := by
  subst hl
  refine Great.wpList_runTo hg o.dst rfl _ w ?_ h
  have := run_convert_bytes_back (P := Tryz.prog) w 39 9 5 ⟨b, 0, none⟩ c l Tryz.underlying39 Tryz.underlying5 Tryz.underlying9 (fun j hj => by
    have hadd : (⟨b, 0, none⟩ : Addr).add j = ⟨b, j, none⟩ := by unfold Addr.add; split <;> simp_all
    rw [hadd]
    exact hr.cell j hj)
  simp [execOp, ho, hx, this, Result.andThen]

/-- A byte of a known string at a known place. -/
theorem wpList_index9 (hg : o.guard = none) (x y : Operand) (ho : o.op = .index 9 x y) (s : ByteArray) (hx : a.eval x = .string s) (k : Nat) (hk : a.eval y = .int .i64 (k : Int)) (c : UInt8) (hc : s[k]? = some c) (n : Int) (hn : (c.toNat : Int) = n)
    (h : wpList Tryz.prog ops Q rest (a.put o.dst (.int .u8 n)) w) : wpList Tryz.prog ops Q (o :: rest) a w := by
  refine Great.wpList_runTo hg o.dst rfl _ w ?_ h
  subst hn
  simp only [execOp, ho, hx, hk, Instr.index, asIntOf, Sem.run_bind, Sem.run_pure, Result.andThen, run_underlying Tryz.underlying9]
  rw [if_pos (by omega), show ((k : Int).toNat) = k by omega, hc]
  rfl
end
end Go.Proofs.YtlekingcmikopaaGreatDoor
