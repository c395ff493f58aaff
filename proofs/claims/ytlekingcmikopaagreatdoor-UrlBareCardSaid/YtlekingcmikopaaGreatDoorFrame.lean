/-
  What the four laws' rows share: the two tables of unicode/utf8 that the rows list, as the walks ask for them; the witness's world; the reading of a slice of strings.
-/
import Derived.Test.YtlekingcmikopaaGreatDoorCards
import Derived.Test.YtlekingcmikopaaGreatDoorTie
import Derived.Test.YtlekingcmikopaaGreatDoorUrlB
import Derived.ProofKit
import Derived.OpenShut
import Derived.LaidMore
import Derived.Lay
import Derived.SevenTiedAt
import Derived.Stop.Joined
import Derived.Lib.LaidU8
import Derived.PinnedBridge
import Derived.SliceStrings
namespace Go.Proofs.YtlekingcmikopaaGreatDoor
open Go.ChangeShapes Go.WideShapes Go.ChangeAt Go.RowKit

theorem own : ownKnob Tryz.prog.godebug = none := by kernel_rfl
theorem laidOut : laidOutB Tryz.prog = true := by kernel_rfl
theorem cells9 : Tryz.prog.cellsOf 9 = 1 := by kernel_rfl

/-- The two tables that every row of this seat lists. -/
def laidTwo : List (String × DataW Unit) := [("unicode/utf8.acceptRanges", Rows.laid_unicode_utf8_acceptRanges), ("unicode/utf8.first", Rows.laid_unicode_utf8_first)]

theorem accept_eq : (Rows.laid_unicode_utf8_acceptRanges : DataW Unit) = Lib.acceptData := by kernel_rfl
theorem extra : U8Extra Tryz.prog Tryz.lays260_ren := ⟨by kernel_rfl, by kernel_rfl, by kernel_rfl, by kernel_rfl, by kernel_rfl, by kernel_rfl, by kernel_rfl⟩

theorem tabs {W : World} (h : laidMetH Tryz.prog laidTwo W) : Lib.Utf8Tabs 1 2 W := by
  rw [MakeChecks.laidMetH_plain _ _ _ (by kernel_rfl)] at h
  have h3 : Lib.VarReads Tryz.prog W "unicode/utf8.first" Lib.firstData := by
    rw [← Pinned.utf8First_eq]
    exact Lib.laidMet.reads h (n := "unicode/utf8.first") (d := Go.Pinned.utf8First) (List.mem_cons_of_mem _ (List.mem_cons_self ..))
  have h4 : Lib.VarReads Tryz.prog W "unicode/utf8.acceptRanges" Lib.acceptData := by
    rw [← accept_eq]
    exact Lib.laidMet.reads h (n := "unicode/utf8.acceptRanges") (List.mem_cons_self ..)
  exact utf8Tabs_of_reads Tryz.lays260 extra h3 h4

/-- What the reading of a slice of strings says of memory. -/
theorem strs_of_open {H : Type} {enc : TypeId × Value → H} {W : World} {a : Option Addr} {len cap : Nat} {d : DataW H} {p : List MemPlace}
    (h : DataW.Trod enc Tryz.prog W 0 (fun _ => true) true 24 (.slice a len cap) d p) : ∃ zs : List ByteArray, zs.length = len ∧ len ≤ maxLen ∧ Strs W (.slice a len cap) zs ∧ (a = none → cap = 0 ∧ zs = []) := by
  obtain ⟨fuel, hf⟩ := h
  rcases open_strings Tryz.underlying24 Tryz.underlying9 cells9 hf with ⟨hcs, _⟩ | ⟨a', len', cap', ss, hcs, _, hl, hm, hz, _, hcell, _⟩
  · simp [Value.cells] at hcs
    obtain ⟨rfl, rfl, rfl⟩ := hcs
    exact ⟨[], rfl, Nat.zero_le _, .inr ⟨rfl, none, 0, rfl⟩, fun _ => ⟨rfl, rfl⟩⟩
  · simp [Value.cells] at hcs
    obtain ⟨rfl, rfl, rfl⟩ := hcs
    simp only [if_true] at hz
    by_cases h0 : len = 0
    · subst h0
      exact ⟨[], rfl, Nat.zero_le _, .inr ⟨rfl, _, _, rfl⟩, fun h => by cases h⟩
    · obtain ⟨b, off, spot⟩ := a'
      have hspot : spot = none := by simpa [Addr.add] using World.cell?_spot (hcell 0 (by omega))
      subst hspot
      have hlen : (ss.take len).length = len := by rw [List.length_take]; omega
      refine ⟨ss.take len, hlen, Nat.le_trans hl hm, .inl ⟨b, off, cap, by rw [hlen], fun j hj => ?_⟩, fun h => by cases h⟩
      rw [hlen] at hj
      have := hcell j (by omega)
      have hadd : (⟨b, off, none⟩ : Addr).add j = ⟨b, off + j, none⟩ := by unfold Addr.add; split <;> simp_all
      rw [hadd] at this
      rw [this]
      simp [List.getD, hj]
end Go.Proofs.YtlekingcmikopaaGreatDoor
