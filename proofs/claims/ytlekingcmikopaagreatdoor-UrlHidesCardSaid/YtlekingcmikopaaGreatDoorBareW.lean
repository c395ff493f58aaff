/-
  The walks of url.gone and url.Bare: an address bared is its text trimmed at both ends, without the bytes that are left out.
-/
import Derived.Test.YtlekingcmikopaaGreatDoorOnce
import Derived.Test.YtlekingcmikopaaGreatDoorTrim
namespace Go.Proofs.YtlekingcmikopaaGreatDoor
open Go.RowKit Go.Lib

def GonePost (w : World) (e : Ending) (w' : World) : Prop := ∃ B, e = .returned (.pointer (some ⟨B, 0, none⟩)) ∧ w.heap.size ≤ B ∧ Fresh w' B ∧ Below w.heap.size w w'

def goneRow : List Value := [.string ⟨#[9]⟩, .string ⟨#[]⟩, .string ⟨#[10]⟩, .string ⟨#[]⟩, .string ⟨#[13]⟩, .string ⟨#[]⟩]

theorem goneRow_cells (w : World) : ∀ j u, goneRow[j]? = some u → (w.alloc (.cells goneRow.toArray 9)).cell? ((⟨w.heap.size, 0, none⟩ : Addr).add j) = some u := by
  intro j u h
  have hadd : (⟨w.heap.size, 0, none⟩ : Addr).add j = ⟨w.heap.size, j, none⟩ := by unfold Addr.add; split <;> simp_all
  rw [hadd, World.cell?_alloc_at _ _ _ _ rfl]
  simpa using h
theorem owns_val {w : World} {base e : Nat} {v : Value} {n : Nat} {xs : List Value} (h : w.ownsRow base e 1 v n xs) (hne : ¬ v = .slice none 0 0) : ∃ g cap, v = .slice (some ⟨g, 0, none⟩) n cap := by
  rcases h.2 with ⟨h, _⟩ | ⟨g, cap, cur, he, _⟩
  · exact absurd h hne
  · exact ⟨g, cap, he⟩

theorem gone_fresh {w w1 : World} {g cap : Nat} (hown : w1.ownsRow w.heap.size 9 1 (.slice (some ⟨g, 0, none⟩) 6 cap) 6 goneRow) (hg : (w.alloc (.cells goneRow.toArray 9)).grownBy w1 none) :
    GonePost w (.returned (.pointer (some ⟨w1.heap.size, 0, none⟩))) (w1.alloc (.cells #[.int .u32 0, .int .i32 0, .int .u32 0, .nilIface, .slice (some ⟨g, 0, none⟩) 6 cap] 60)) := by
  have hB : Below w.heap.size w w1 := ((Below.refl _ _).alloc (Nat.le_refl _) _).grown hg (by simp) (fun k hk => by cases hk)
  have hlt : g < w1.heap.size := World.block_lt_of_cell? w1 _ (owns_cell hown 0 _ rfl)
  have hb : (w1.alloc (.cells #[.int .u32 0, .int .i32 0, .int .u32 0, .nilIface, .slice (some ⟨g, 0, none⟩) 6 cap] 60)).heap[w1.heap.size]? = some (.cells #[.int .u32 0, .int .i32 0, .int .u32 0, .nilIface, .slice (some ⟨g, 0, none⟩) 6 cap] 60) := heap_alloc_new _ _
  have hc : ∀ j u, goneRow[j]? = some u → (w1.alloc (.cells #[.int .u32 0, .int .i32 0, .int .u32 0, .nilIface, .slice (some ⟨g, 0, none⟩) 6 cap] 60)).cell? ⟨g, j, none⟩ = some u := fun j u h => (World.cell?_alloc_past _ _ _ hlt).trans (owns_cell hown j u h)
  refine ⟨_, rfl, hB.size, ⟨?_, ?_, ?_, ⟨g, cap, ?_, by omega, hc 0 _ rfl, hc 1 _ rfl, hc 2 _ rfl, hc 3 _ rfl, hc 4 _ rfl, hc 5 _ rfl⟩, fun j => ?_⟩, hB.alloc hB.size _⟩
  · rw [World.cell?_alloc_at _ _ _ _ rfl]; rfl
  · rw [World.cell?_alloc_at _ _ _ _ rfl]; rfl
  · rw [World.cell?_alloc_at _ _ _ _ rfl]; rfl
  · rw [World.cell?_alloc_at _ _ _ _ rfl]; rfl
  · rw [World.frozen?_alloc_at _ _ _ _ rfl]

set_option maxRecDepth 100000 in
set_option maxHeartbeats 1000000 in
theorem gone_any (w : World) : Calls Tryz.prog 24 #[] w (GonePost w) := by
  obtain ⟨i9, hi9, hz9, hs9, hby9⟩ := info_parts info9
  go_enter Tryz.func24, Tryz.ntmps24
  go_wp2_with (first
    | (go_at_call 35; go_in)
    | (at_builtin; refine wpList_append_own (w := w.alloc (.cells goneRow.toArray 9)) rfl _ _ 24 rfl w.heap.size 9 i9 (.string ⟨#[]⟩) 1 16 Tryz.underlying24 hi9 hz9 hs9 hby9 rfl (by omega) (.slice none 0 0) 0 [] rfl (World.ownsRow_nil _ _ _ _) ⟨w.heap.size, 0, none⟩ 6 6 goneRow rfl rfl (goneRow_cells w) (by simp [goneRow, Value.oneCell']) (by unfold maxLen; omega) (by omega) (by simp) ?_; intro v' w1 hown hg hne; obtain ⟨g, cap, hv⟩ := owns_val hown (fun h => by simpa using hne.1 h); rw [hv] at hown ⊢; have Hown := Lib.hid hown; have Hg := Lib.hid hg; clear hown hg hne hv))
  go_ret
  exact gone_fresh Hown.out Hg.out

theorem pred_any (w : World) : PredAt Tryz.prog 27 #[] encR blankR w := fun W r _ => by
  unfold FnGives
  by_cases h : r ≤ 32
  all_goals
    have hb : blankR r = decide ((r : Int) ≤ 32) := by unfold blankR; exact decide_eq_decide.2 (by omega)
    rw [hb]
    clear hb
    go_enter Tryz.func27, Tryz.ntmps27
    go_wp2
    go_ret
    exact ⟨by first | rfl | (simp; omega), 0, rfl⟩

theorem trim_any (s : ByteArray) (w : World) (hs : s.size ≤ 9223372036854775807) (hT : Lib.Utf8Tabs 1 2 w) :
    Calls Tryz.prog 26 #[.string s, .func (.func 27) #[] #[]] w fun e w' => e = .returned (.string (Lib.trimF blankR s)) ∧ Below w.heap.size w w' :=
  Tryz.strings_TrimFunc 27 #[] (enters_of Tryz.func27 (by kernel_rfl) rfl) blankR s w hs hT (pred_any w)

def BarePost (s : ByteArray) (w : World) (e : Ending) (w' : World) : Prop :=
  e = .returned (.string ⟨(kept (Lib.trimF blankR s).data.toList).toArray⟩) ∧ Below w.heap.size w w'

set_option maxRecDepth 100000 in
set_option maxHeartbeats 1000000 in
theorem bare_walk (s : ByteArray) (w : World) (hs : s.size ≤ 1000000) (ht : (Lib.trimF blankR s).size ≤ 1000000) (hT : Lib.Utf8Tabs 1 2 w) :
    Calls Tryz.prog 12 #[.string s] w (BarePost s w) := by
  have HT := Lib.hid hT
  clear hT
  go_enter Tryz.func12, Tryz.ntmps12
  go_wp2_with (first
    | (go_at_call 24; refine (gone_any _).mono ?_; rintro e w1 ⟨B, rfl, hB, hF, hb1⟩; have HF := Lib.hid hF; have Hb1 := Lib.hid hb1; clear hF hb1)
    | (go_at_call 26; refine (trim_any s w1 (by omega) (Utf8Tabs_below HT.out Hb1.out)).mono ?_; rintro e w2 ⟨rfl, hb2⟩; have Hb2 := Lib.hid hb2; clear hb2)
    | (go_at_call 25; refine (replace_any _ B w2 ht (HF.out.below Hb2.out)).mono ?_; rintro e w3 ⟨rfl, hg3⟩; have Hg3 := Lib.hid hg3; clear hg3))
  go_ret
  have hs1 := Hb1.out.size
  have hs2 := Hb2.out.size
  exact ⟨rfl, (Hb1.out.trans (Hb2.out.mono hs1)).grown Hg3.out (by omega) (fun k hk => by cases hk; exact hB)⟩

/-- An address bared, as bytes. -/
def bareL (l : List UInt8) : List UInt8 := kept (trimB l)
/-- An address bared. -/
def bareS (s : ByteArray) : ByteArray := ⟨(bareL s.data.toList).toArray⟩
theorem bareS_data (s : ByteArray) : (bareS s).data.toList = bareL s.data.toList := rfl

theorem dropWhile_le (p : UInt8 → Bool) (l : List UInt8) : (l.dropWhile p).length ≤ l.length := by
  induction l with
  | nil => exact Nat.le_refl _
  | cons x l ih =>
    rw [List.dropWhile_cons]
    split
    · simp; omega
    · exact Nat.le_refl _
theorem trimB_le (l : List UInt8) : (trimB l).length ≤ l.length := by
  unfold trimB rtrim ltrim
  rw [List.length_reverse]
  refine Nat.le_trans (dropWhile_le _ _) ?_
  rw [List.length_reverse]
  exact dropWhile_le _ _
theorem bareL_le (l : List UInt8) : (bareL l).length ≤ l.length := by
  have := kept_len (trimB l)
  have := trimB_le l
  unfold bareL
  omega
theorem bareS_le (s : ByteArray) : (bareS s).size ≤ s.size := by
  rw [size_eq, size_eq, bareS_data]
  exact bareL_le s.data.toList

theorem bare_any (s : ByteArray) (w : World) (hs : s.size ≤ 1000000) (hT : Lib.Utf8Tabs 1 2 w) :
    Calls Tryz.prog 12 #[.string s] w fun e w' => e = .returned (.string (bareS s)) ∧ Below w.heap.size w w' := by
  have hl : (Lib.trimF blankR s).size ≤ 1000000 := by
    have := trimB_le s.data.toList
    rw [← trim_law, ← size_eq, ← size_eq] at this
    omega
  refine (bare_walk s w hs hl hT).mono fun e w' ⟨he, hb⟩ => ⟨?_, hb⟩
  rw [he, trim_law]
  rfl
end Go.Proofs.YtlekingcmikopaaGreatDoor
