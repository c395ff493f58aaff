/-
  The struct behind strings.NewReplacer at bytes (256 slices and a list): building it, laying it and storing it, with its 257 cells behind a name.
-/
import Derived.Test.YtlekingcmikopaaGreatDoorClass
import Derived.Deep.WholeRow
import Derived.Great.Walk
namespace Go.Proofs.YtlekingcmikopaaGreatDoor
open Go.RowKit

/-- A nil slice. -/
def nilS : Value := .slice none 0 0
/-- The 257 cells: 256 nil slices, then v. -/
def bsrRow (v : Value) : Array Value := (Array.replicate 256 nilS).push v

theorem bsrRow_size (v : Value) : (bsrRow v).size = 257 := by simp [bsrRow]
theorem bsrRow_at (v : Value) (j : Nat) (h : j < 256) : (bsrRow v)[j]? = some nilS := by
  unfold bsrRow
  rw [Array.getElem?_push, if_neg (by rw [Array.size_replicate]; omega), Array.getElem?_replicate, if_pos h]
theorem bsrRow_last (v : Value) : (bsrRow v)[256]? = some v := by
  unfold bsrRow
  rw [Array.getElem?_push, if_pos (by rw [Array.size_replicate])]
theorem bsrRow_one (v : Value) (h : v.oneCell' = true) : (bsrRow v).all (·.oneCell') = true := by
  unfold bsrRow
  rw [Array.all_push, h, Bool.and_true, Array.all_eq_true_iff_forall_mem]
  intro x hx
  rw [(Array.mem_replicate.1 hx).2]
  rfl

theorem info85 : (Tryz.prog.info? 85).map (fun i => (i.zero, i.size)) = some (some (.agg (bsrRow nilS)), 257) := by kernel_rfl
theorem zero85 (w : World) : (zeroValue 85).run Tryz.prog w = .ok (.agg (bsrRow nilS)) w := (zero_of_info info85).1 w
theorem size85 : (Tryz.prog.info? 85).map (·.size) = some 257 := (zero_of_info info85).2
theorem sizeOf83 (w : World) : (sizeOf 83).run Tryz.prog w = .ok 256 w := by kernel_rfl
theorem sizeOf24 (w : World) : (sizeOf 24).run Tryz.prog w = .ok 1 w := by kernel_rfl

theorem run_build85 (a : Nat) (cap : Nat) (w : World) :
    (Instr.build 85 #[(1, .slice (some ⟨a, 0, none⟩) 0 cap)]).run Tryz.prog w = .ok (.agg (bsrRow (.slice (some ⟨a, 0, none⟩) 0 cap))) w := by
  have hset : (bsrRow nilS).setIfInBounds 256 (.slice (some ⟨a, 0, none⟩) 0 cap) = bsrRow (.slice (some ⟨a, 0, none⟩) 0 cap) := by
    apply Array.ext_getElem?
    intro i
    rw [Array.getElem?_setIfInBounds]
    by_cases hi : 256 = i
    · subst hi
      rw [if_pos rfl, if_pos (by rw [bsrRow_size]; omega), bsrRow_last]
    · rw [if_neg hi]
      unfold bsrRow
      rw [Array.getElem?_push, Array.getElem?_push, if_neg (by rw [Array.size_replicate]; omega), if_neg (by rw [Array.size_replicate]; omega)]
  have hsz : (bsrRow nilS).size = 257 := bsrRow_size _
  simp only [Instr.build, Sem.run_bind, zero85, Result.andThen, run_underlying Tryz.underlying85]
  simp only [List.mapM_toArray, List.mapM_cons, List.mapM_nil]
  simp [Result.andThen, Instr.fill, Value.cells, hsz, hset]

/-- 'new' of the struct: a block of 257 zero cells. -/
theorem run_alloc85 (w : World) : (Instr.alloc 85 true (.tuple #[])).run Tryz.prog w = .ok (.pointer (some ⟨w.heap.size, 0, none⟩)) (w.alloc (.cells (bsrRow nilS) 85)) := by
  simp only [Instr.alloc, Sem.run_bind, zero85, Result.andThen]
  rfl

/-- The struct stored into the block that was just made. -/
theorem run_store85 (w : World) (v : Value) (h : v.oneCell' = true) :
    (Instr.storeAt 85 (.pointer (some ⟨w.heap.size, 0, none⟩)) (.agg (bsrRow v))).run Tryz.prog (w.alloc (.cells (bsrRow nilS) 85)) = .ok () (w.alloc (.cells (bsrRow v) 85)) :=
  run_storeAt_new w 85 (bsrRow nilS) (bsrRow v) (by rw [bsrRow_size]; exact size85) (by rw [bsrRow_size, bsrRow_size]) (bsrRow_one v h)

section
variable {ops : Array Oper} {rest : List Oper} {o : Oper} {a : Act} {w : World} {Q : Exit → Act → World → Prop}
theorem wpList_build85 (hg : o.guard = none) (x : Operand) (ho : o.op = .build 85 #[(1, x)]) (b cap : Nat) (hx : a.eval x = .slice (some ⟨b, 0, none⟩) 0 cap)
    (h : wpList Tryz.prog ops Q rest (a.put o.dst (.agg (bsrRow (.slice (some ⟨b, 0, none⟩) 0 cap)))) w) : wpList Tryz.prog ops Q (o :: rest) a w := by
  refine Great.wpList_runTo hg o.dst rfl _ w ?_ h
  simp [execOp, ho, hx, run_build85, Result.andThen]
theorem wpList_alloc85 (hg : o.guard = none) (ho : o.op = .alloc 85)
    (h : wpList Tryz.prog ops Q rest (a.put o.dst (.pointer (some ⟨w.heap.size, 0, none⟩))) (w.alloc (.cells (bsrRow nilS) 85))) : wpList Tryz.prog ops Q (o :: rest) a w := by
  refine Great.wpList_runTo hg o.dst rfl _ _ ?_ h
  simp [execOp, ho, run_alloc85, Result.andThen]
theorem wpList_store85 (hg : o.guard = none) (x y : Operand) (ho : o.op = .store 85 x y) (hx : a.eval x = .pointer (some ⟨w.heap.size, 0, none⟩)) (v : Value) (hv : v.oneCell' = true) (hy : a.eval y = .agg (bsrRow v))
    (h : wpList Tryz.prog ops Q rest (a.put o.dst undef) (w.alloc (.cells (bsrRow v) 85))) : wpList Tryz.prog ops Q (o :: rest) a (w.alloc (.cells (bsrRow nilS) 85)) := by
  refine wpList_plain hg fun K hK => ?_
  unfold Oper.wp
  have : (execOp a.eval o).run Tryz.prog (w.alloc (.cells (bsrRow nilS) 85)) = .ok .skip (w.alloc (.cells (bsrRow v) 85)) := by
    simp [execOp, ho, hx, hy, run_store85 w v hv, Result.andThen]
  rw [this, Oper.upon_skip]
  exact hK _ _ h
end
end Go.Proofs.YtlekingcmikopaaGreatDoor
