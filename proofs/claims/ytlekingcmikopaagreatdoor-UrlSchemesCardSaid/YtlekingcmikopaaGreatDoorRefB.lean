/-
  The walks of decanterref03.Small and decanterref19.Right: they say what the program's own say.
-/
import Derived.Test.YtlekingcmikopaaGreatDoorRefA
import Derived.Test.YtlekingcmikopaaGreatDoorLaws
namespace Go.Proofs.YtlekingcmikopaaGreatDoor
open Go.RowKit Go.Lib

theorem small_snoc (s : ByteArray) (k : Nat) (h : k < s.size) : small (s.data.toList.take (k + 1)) = small (s.data.toList.take k) ++ [lowB s[k]] := by
  have hk : k < s.data.toList.length := by rw [← size_eq]; exact h
  rw [take_snoc _ _ hk]
  unfold small
  rw [List.map_append]
  rfl
theorem byte_cell (w : World) (y : UInt8) : (w.alloc (.cells #[.int .u8 (y.toNat : Int)] 5)).cell? ⟨w.heap.size, 0, none⟩ = some (bv y) := by
  rw [World.cell?_alloc_at _ _ _ _ rfl]; rfl

set_option maxRecDepth 100000 in
set_option maxHeartbeats 1000000 in
theorem rsmall_any (s : ByteArray) (w : World) (hs : s.size ≤ 1000000) :
    Calls Tryz.prog 23 #[.string s] w fun e w' => e = .returned (.string ⟨(small s.data.toList).toArray⟩) ∧ Below w.heap.size w w' := by
  generalize hbb : w.heap.size = bb
  have Hbb := Lib.hid hbb
  clear hbb
  go_enter Tryz.func23, Tryz.ntmps23
  go_wp2_with fail
  go_loopw [3, 4] (fun v i wr => ∃ (k g cap : Nat) (l : List UInt8), k ≤ s.size ∧ v = .slice (some ⟨g, 0, none⟩) l.length cap ∧ i = .int .i64 k ∧ Hid (l = small (s.data.toList.take k)) ∧ Hid (l.length = k) ∧ Hid (Below bb w wr) ∧ Hid (wr.ownsRow bb 5 1 (.slice (some ⟨g, 0, none⟩) l.length cap) l.length (l.map bv))) (fun _ i _ => s.size - (intOf i).toNat)
  case atStart => exact ⟨0, w.heap.size, 0, [], Nat.zero_le _, rfl, rfl, Lib.hid rfl, Lib.hid rfl, Lib.hid (by rw [← Hbb.out]; exact (Below.refl _ _).alloc (Nat.le_refl _) _), Lib.hid (by rw [← Hbb.out]; exact World.ownsRow_made w #[] 0 (Nat.le_refl _) (by unfold maxLen; omega) rfl)⟩
  case round =>
  obtain ⟨k, g, cap, l, hk, rfl, rfl, Hl, Hlen, Hb, Hown⟩ := hrel
  by_cases hlt : k < s.size
  · have KL := Lib.hid fun w => rlowB_any s[k] w
    have hx1 : (s[k].toNat : Int) < 256 := by have := UInt8.toNat_lt s[k]; omega
    have hx2 : ((lowB s[k]).toNat : Int) < 256 := by have := UInt8.toNat_lt (lowB s[k]); omega
    go_wp2_with (first
      | (go_at_call 19; refine (KL.out _).mono ?_; rintro e w' ⟨rfl, rfl⟩)
      | (at_builtin; go_loud (refine wpList_append_byte rfl _ _ rfl bb g cap l rfl (Hown.out.alloc _) _ (lowB s[k]) rfl (byte_cell _ _) (by rw [Hlen.out]; omega) (by have := Hb.out.size; have h3 := Hbb.out; have h4 := Hb.out.size; simp only [World.alloc, Array.size_push]; omega) ?_); intro g' cap' w3 hown3 hg3; have Hown3 := Lib.hid hown3; have Hg3 := Lib.hid hg3; clear hown3 hg3))
    go_roundw
    case rel => exact ⟨k + 1, g', cap', l ++ [lowB s[k]], by omega, by rw [List.length_append]; rfl, by go_num, Lib.hid (by rw [Hl.out, small_snoc s k hlt]), Lib.hid (by rw [List.length_append, Hlen.out]; rfl), Lib.hid ((Hb.out.alloc (by have := Hb.out.size; have h3 := Hbb.out; omega) _).grown Hg3.out (by have := Hb.out.size; have h3 := Hbb.out; simp only [World.alloc, Array.size_push]; omega) (fun k hk => by cases hk; exact owns_ge Hown.out)), Hown3⟩
    case measure => simp [intOf]; omega
  · have hk : k = s.size := by omega
    subst hk
    have Hr : Hid (l = small s.data.toList) := by rw [Hl.out, size_eq, List.take_length]; rfl
    clear Hl
    go_wp2_with (with_reducible refine wpList_back_own rfl _ rfl bb g cap l rfl Hown.out ?_)
    go_ret
    exact ⟨by have h := Hr.out; subst h; rfl, Hb.out⟩

theorem lt_of_may (l : List UInt8) (k : Nat) (h : k < l.length) (hn : lettersFrom (l.drop k) k = lettersN l) (hm : may l[k] k = false) : rightL l = false := by
  rw [letters_step _ _ h, hm] at hn
  unfold rightL
  have : ¬ lettersN l = l.length := by
    have : k = lettersN l := hn
    omega
  simp [this]
theorem small_ne (l : List UInt8) (k : Nat) (h : k < l.length) (hm : lowB l[k] ≠ l[k]) : rightL l = false := by
  unfold rightL
  have : ¬ small l = l := fun e => hm (by
    have h2 := congrArg (fun t => t[k]?) e
    simp only [small, List.getElem?_map, List.getElem?_eq_getElem h, Option.map_some, Option.some.injEq] at h2
    exact h2)
  simp [this]

set_option maxRecDepth 100000 in
set_option maxHeartbeats 1000000 in
theorem rright_any (s : ByteArray) (w : World) (hs : s.size ≤ maxLen) : Calls Tryz.prog 8 #[.string s] w (RightPost s.data.toList w) := by
  unfold maxLen at hs
  generalize hbb : w.heap.size = bb
  have Hbb := Lib.hid hbb
  have HP : Hid (∀ b wr, Below bb w wr → rightL s.data.toList = b → RightPost s.data.toList w (.returned (.bool b)) wr) := fun b wr h hr => ⟨by rw [hr], by rw [hbb]; exact h⟩
  clear hbb
  generalize RightPost s.data.toList w = P at *
  go_enter Tryz.func8, Tryz.ntmps8
  go_wp2_with fail
  go_loopw [3] (fun i wr => ∃ k : Nat, k ≤ s.size ∧ i = .int .i64 k ∧ Hid (Below bb w wr) ∧ Hid (lettersFrom (s.data.toList.drop k) k = lettersN s.data.toList ∧ small (s.data.toList.take k) = s.data.toList.take k)) (fun i _ => s.size - (intOf i).toNat)
  case atStart => exact ⟨0, Nat.zero_le _, rfl, Lib.hid (Hbb.out ▸ Below.refl _ _), Lib.hid ⟨rfl, rfl⟩⟩
  case round =>
  obtain ⟨k, hk, rfl, Hb, HR⟩ := hrel
  by_cases hlt : k < s.size
  · have hkl : k < s.data.toList.length := by rw [← size_eq]; exact hlt
    have KM := Lib.hid fun w => (rmay_any s[k] k w).mono fun e w' ⟨he, hw⟩ => (⟨he, hw.symm⟩ : _ ∧ w' = w)
    have KL := Lib.hid fun w => (rlowB_any s[k] w).mono fun e w' ⟨he, hw⟩ => (⟨he, hw.symm⟩ : _ ∧ w' = w)
    have hx1 : (s[k].toNat : Int) < 256 := by have := UInt8.toNat_lt s[k]; omega
    cases hm : may s[k] k with
    | false =>
      rw [hm] at KM
      have HF := Lib.hid (lt_of_may _ k hkl HR.out.1 hm)
      clear hm HR
      go_wp2_with fail
      go_quiet ((first | (go_at_call 18; exact Calls.quiet_of_same (KM.out _)) | (go_at_call 19; exact Calls.quiet_of_same (KL.out _))))
      go_wp2_with fail
      exact HP.out _ _ (drewN_below Hb.out _) HF.out
    | true =>
      rw [hm] at KM
      have Hn : Hid (lettersFrom (s.data.toList.drop (k + 1)) (k + 1) = lettersN s.data.toList) := by
        have h := HR.out.1
        rw [letters_step _ _ hkl, show may s.data.toList[k] k = true from hm] at h
        exact h
      clear hm
      cases hl : (((lowB s[k]).toNat : Int) != (s[k].toNat : Int)) with
      | true =>
        have HF : Hid (rightL s.data.toList = false) := small_ne _ k hkl (fun e => by have e2 : lowB s[k] = s[k] := e; rw [e2] at hl; simp at hl)
        clear HR Hn
        go_wp2_with fail
        go_quiet ((first | (go_at_call 18; exact Calls.quiet_of_same (KM.out _)) | (go_at_call 19; exact Calls.quiet_of_same (KL.out _))))
        go_wp2_with fail
        exact HP.out _ _ (drewN_below Hb.out _) HF.out
      | false =>
        have HS : Hid (small (s.data.toList.take (k + 1)) = s.data.toList.take (k + 1)) := by
          have e2 : lowB s[k] = s[k] := UInt8.toNat_inj.1 (by simp at hl; omega)
          rw [small_snoc s k hlt, take_snoc _ _ hkl, HR.out.2, e2]
          rfl
        clear HR
        go_wp2_with fail
        go_quiet ((first | (go_at_call 18; exact Calls.quiet_of_same (KM.out _)) | (go_at_call 19; exact Calls.quiet_of_same (KL.out _))))
        go_wp2_with fail
        go_roundw
        case rel => exact ⟨k + 1, by omega, by go_num, Lib.hid (drewN_below Hb.out _), Lib.hid ⟨Hn.out, HS.out⟩⟩
        case measure => simp [intOf]; omega
  · have hke : k = s.size := by omega
    subst hke
    have HF : Hid (rightL s.data.toList = decide (0 < s.size)) := by
      have h1 := HR.out.1
      have h2 := HR.out.2
      rw [List.drop_eq_nil_of_le (by rw [← size_eq]; exact Nat.le_refl _)] at h1
      rw [size_eq, List.take_length] at h2
      have h3 : lettersN s.data.toList = s.data.toList.length := by rw [← h1, size_eq]; rfl
      unfold Hid rightL
      rw [h2, h3, size_eq]
      generalize s.data.toList = l
      cases l <;> simp
    clear HR
    go_wp2_with fail
    exact HP.out _ _ (by exact Hb.out) HF.out
end Go.Proofs.YtlekingcmikopaaGreatDoor
