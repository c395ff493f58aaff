/-
  The walks of (*sync.Once).doSlow, (*sync.Once).Do and (*strings.Replacer).Replace at a replacer that url.gone has just made.
-/
import Derived.Test.YtlekingcmikopaaGreatDoorBuilt
import Derived.Test.YtlekingcmikopaaGreatDoorLock
import Derived.Laws.NewBlocks
namespace Go.Proofs.YtlekingcmikopaaGreatDoor
open Go.RowKit

def DoPost (w : World) (B : Nat) (e : Ending) (w' : World) : Prop := e = .returned (.tuple #[]) ∧ Built w B w'

set_option maxRecDepth 100000 in
set_option maxHeartbeats 2000000 in
theorem slow_any (B : Nat) (w : World) (hF : Fresh w B) :
    Calls Tryz.prog 43 #[.pointer (some ⟨B, 0, none⟩), .func (.func 37) #[.pointer (some ⟨B, 0, none⟩)] #[]] w (DoPost w B) := by
  have h1 := hF.c1
  have f1 := hF.free 1
  obtain ⟨h3, g, cap, h4, hg, k0, k1, k2, k3, k4, k5⟩ := hF.locked (.int .i32 1)
  have h0 : (w.setCell ⟨B, 1, none⟩ (.int .i32 1)).cell? ⟨B, 0, none⟩ = some (.int .u32 0) := (World.cell?_setCell_other _ _ _ _ (by simp)).trans hF.c0
  have h11 : (w.setCell ⟨B, 1, none⟩ (.int .i32 1)).cell? ⟨B, 1, none⟩ = some (.int .i32 1) := World.cell?_setCell_same _ _ _ h1
  have hfr : ∀ j, (w.setCell ⟨B, 1, none⟩ (.int .i32 1)).frozen? ⟨B, j, none⟩ = false := fun j => by simpa using hF.free j
  have K := Lib.hid (buildOnce_any B g cap _ h3 h4 hfr k0 k1 k2 k3 k4 k5)
  clear h3 h4 k0 k1 k2 k3 k4 k5
  have hl := run_call_load (P := Tryz.prog) Tryz.func52 (by kernel_rfl) (by kernel_rfl) (by kernel_rfl) .u32 (by kernel_rfl) h0
  have H0 := Lib.hid h0
  have H11 := Lib.hid h11
  have Hfr := Lib.hid hfr
  clear h0 h11 hfr hF
  have hnot : ∀ (x : Bool) (w : World), (Op.unary .not (.bool x)).run Tryz.prog w = .ok (.bool (!x)) w := fun _ _ => rfl
  go_enter_defers Tryz.func43, Tryz.ntmps43
  go_wp2_with (first
    | (go_at_call 53; refine (lock_free ⟨B, 1, none⟩ _ h1 f1).mono ?_; rintro e w' ⟨rfl, rfl⟩)
    | (go_at_call 42; go_in)
    | (go_at_call 37; refine K.out.mono ?_; rintro e w3 ⟨rfl, hb, hc, hf⟩))
  -- the two deferred calls, the last laid first
  have e0 : w3.cell? ⟨B, 0, none⟩ = some (.int .u32 0) := (hc 0 (by omega)).trans H0.out
  have e1 : w3.cell? ⟨B, 1, none⟩ = some (.int .i32 1) := (hc 1 (by omega)).trans H11.out
  have z0 : w3.frozen? ⟨B, 0, none⟩ = false := (hf 0).trans (Hfr.out 0)
  have z1 : w3.frozen? ⟨B, 1, none⟩ = false := (hf 1).trans (Hfr.out 1)
  refine leaves_cons (f := 55) (args := #[.pointer (some ⟨B, 0, none⟩), .bool true]) (by simp) (by simp [go_sem]) ?_
  refine (store_deferred ⟨B, 0, none⟩ (.int .u32 0) .returning _ e0 z0).mono ?_
  rintro e u' w'' ⟨rfl, rfl, rfl⟩
  refine leaves_cons (f := 54) (args := #[.pointer (some ⟨B, 1, none⟩)]) (by simp [settle]) (by simp [go_sem]) ?_
  refine (unlock_deferred ⟨B, 1, none⟩ _ _ ?_ ?_).mono ?_
  · exact (World.cell?_setCell_other _ ⟨B, 0, none⟩ ⟨B, 1, none⟩ _ (by simp)).trans e1
  · simpa using z1
  rintro e u' w'' ⟨rfl, rfl, rfl⟩
  have hfin := (hb.pre.drew.setCell 0 (by decide) (.int .u32 1)).setCell 1 (by decide) (.int .i32 0)
  simp only [Leaves, settle]
  exact ⟨_, results_none rfl _ _ _, rfl, hfin⟩

set_option maxRecDepth 100000 in
set_option maxHeartbeats 1000000 in
theorem do_any (B : Nat) (w : World) (hF : Fresh w B) :
    Calls Tryz.prog 36 #[.pointer (some ⟨B, 0, none⟩), .func (.func 37) #[.pointer (some ⟨B, 0, none⟩)] #[]] w (DoPost w B) := by
  have hl := run_call_load (P := Tryz.prog) Tryz.func52 (by kernel_rfl) (by kernel_rfl) (by kernel_rfl) .u32 (by kernel_rfl) hF.c0
  have hnot : ∀ (x : Bool) (w : World), (Op.unary .not (.bool x)).run Tryz.prog w = .ok (.bool (!x)) w := fun _ _ => rfl
  have K := Lib.hid (slow_any B w hF)
  clear hF
  go_enter Tryz.func36, Tryz.ntmps36
  go_wp2_with (first
    | (go_at_call 42; go_in)
    | (go_at_call 43; refine K.out.mono ?_; rintro e w3 ⟨rfl, hb⟩; have Hb := Lib.hid hb; clear hb))
  go_end0
  exact ⟨rfl, Hb.out⟩

/-- Behind Replace: the text without the bytes that are left out; of the old memory only the replacer's own block has turned. -/
def ReplPost (s : ByteArray) (w : World) (B : Nat) (e : Ending) (w' : World) : Prop :=
  e = .returned (.string ⟨(kept s.data.toList).toArray⟩) ∧ w.grownBy w' (some B)

theorem method_replace (a : Addr) (w : World) : (method 261 86 (.pointer (some a)) "Replace").run Tryz.prog w = .ok (118, .pointer (some a)) w := by kernel_rfl

set_option maxRecDepth 100000 in
set_option maxHeartbeats 1000000 in
theorem replace_any (s : ByteArray) (B : Nat) (w : World) (hs : s.size ≤ 1000000) (hF : Fresh w B) :
    Calls Tryz.prog 25 #[.pointer (some ⟨B, 0, none⟩), .string s] w (ReplPost s w B) := by
  have hBlt := World.block_lt_of_cell? w _ hF.c0
  have K := Lib.hid (do_any B w hF)
  have hmf : ∀ (fn : Fn) (first cap : Array Value) (w : World), (Instr.makeFunc fn first cap).run Tryz.prog w = .ok (.func fn first cap) w := fun _ _ _ _ => rfl
  have hm := method_replace
  clear hF
  go_enter Tryz.func25, Tryz.ntmps25
  go_wp2_with (first
    | (go_at_call 36; refine K.out.mono ?_; rintro e w1 ⟨rfl, hb⟩; obtain ⟨T, C, h3, hI, hT, hC⟩ := hb.iface; have Hb := Lib.hid hb; clear hb; have HI := Lib.hid hI; clear hI)
    | (go_at_call 118; refine (repl_any s T C w1 hs HI.out).mono ?_; rintro e w2 ⟨rfl, hb2⟩; have Hb2 := Lib.hid hb2; clear hb2))
  go_ret
  have hg := Hb.out.grown
  have hb2 := Hb2.out
  exact ⟨rfl, hb2.os.trans hg.os, hb2.tape.trans hg.tape, hb2.output.trans hg.output, Nat.le_trans hg.size hb2.size, fun k hk hne => (hb2.block k (Nat.lt_of_lt_of_le hk hg.size)).trans (hg.block k hk hne)⟩
end Go.Proofs.YtlekingcmikopaaGreatDoor
