/-
  The walk of decanterref19.Bare: it says what url.Bare says.
-/
import Derived.Test.YtlekingcmikopaaGreatDoorRefB
namespace Go.Proofs.YtlekingcmikopaaGreatDoor
open Go.RowKit Go.Lib

theorem sp_at (s : ByteArray) (k : Nat) (h : k < s.size) : sp s[k] = decide ((s[k].toNat : Int) ≤ 32) := by
  unfold sp
  exact decide_eq_decide.2 (by omega)
theorem head_at (s : ByteArray) (h : 0 < s.size) : s.data.toList = s[0] :: s.data.toList.drop 1 := by
  have hl : 0 < s.data.toList.length := by rw [← size_eq]; exact h
  have := List.drop_eq_getElem_cons hl
  rwa [List.drop_zero] at this
theorem ltrim_tail (s : ByteArray) (h : 0 < s.size) (hs : sp s[0] = true) : ltrim (s.extract 1 s.size).data.toList = ltrim s.data.toList := by
  rw [extract_data, List.take_of_length_le (by rw [List.length_drop, ← size_eq]; exact Nat.le_refl _)]
  conv => rhs; rw [head_at s h, ltrim_cons, hs]
  rfl
theorem ltrim_stop (s : ByteArray) (h : 0 < s.size) (hs : sp s[0] = false) : ltrim s.data.toList = s.data.toList := by
  rw [head_at s h, ltrim_cons, hs]
  rfl
theorem snoc_at (s : ByteArray) (m : Nat) (h : s.size = m + 1) : s.data.toList = s.data.toList.take m ++ [s[m]] := by
  have hl : m < s.data.toList.length := by rw [← size_eq]; omega
  have := take_snoc s.data.toList m hl
  rw [List.take_of_length_le (by rw [← size_eq]; omega)] at this
  exact this
theorem rtrim_head (s : ByteArray) (m : Nat) (h : s.size = m + 1) (hs : sp s[m] = true) : rtrim (s.extract 0 m).data.toList = rtrim s.data.toList := by
  conv => rhs; rw [snoc_at s m h, rtrim_snoc, hs]
  rw [extract_data, List.drop_zero, Nat.sub_zero]
  rfl
theorem rtrim_stop (s : ByteArray) (m : Nat) (h : s.size = m + 1) (hs : sp s[m] = false) : rtrim s.data.toList = s.data.toList := by
  rw [snoc_at s m h, rtrim_snoc, hs]
  rfl
theorem nil_of_size (s : ByteArray) (h : s.size = 0) : s.data.toList = [] := by
  rw [size_eq] at h
  exact List.eq_nil_of_length_eq_zero h
theorem kept_at (s : ByteArray) (k : Nat) (h : k < s.size) : kept (s.data.toList.take (k + 1)) = kept (s.data.toList.take k) ++ if isGone s[k] then [] else [s[k]] := by
  have hk : k < s.data.toList.length := by rw [← size_eq]; exact h
  rw [take_snoc _ _ hk, kept_snoc]
  rfl
theorem gone_at (x : UInt8) : isGone x = !(((x.toNat : Int) != 9) && ((x.toNat : Int) != 10) && ((x.toNat : Int) != 13)) := by
  have n9 : (9 : UInt8).toNat = 9 := rfl
  have n10 : (10 : UInt8).toNat = 10 := rfl
  have n13 : (13 : UInt8).toNat = 13 := rfl
  have e (y : UInt8) : (x == y) = !((x.toNat : Int) != (y.toNat : Int)) := by
    by_cases h : x = y
    · subst h; rw [beq_self_eq_true, bne_self_eq_false]; rfl
    · have : ¬ ((x.toNat : Int) = (y.toNat : Int)) := fun h2 => h (UInt8.toNat_inj.1 (by omega))
      rw [beq_eq_false_iff_ne.2 h, bne_iff_ne.2 this]; rfl
  unfold isGone
  rw [e 9, e 10, e 13, n9, n10, n13, Bool.not_and, Bool.not_and]
  rfl

set_option maxRecDepth 100000 in
set_option maxHeartbeats 2000000 in
theorem rbare_any (s : ByteArray) (w : World) (hs : s.size ≤ 1000000) :
    Calls Tryz.prog 13 #[.string s] w fun e w' => e = .returned (.string (bareS s)) ∧ Below w.heap.size w w' := by
  generalize hbb : w.heap.size = bb
  have Hbb := Lib.hid hbb
  clear hbb
  go_enter Tryz.func13, Tryz.ntmps13
  go_wp2_with fail
  go_loop [0] (fun v => ∃ t : ByteArray, t.size ≤ s.size ∧ v = .string t ∧ Hid (ltrim t.data.toList = ltrim s.data.toList)) (fun v => match v with | .string t => t.size | _ => 0)
  case atStart => exact ⟨s, Nat.le_refl _, rfl, Lib.hid rfl⟩
  case round =>
  obtain ⟨t, ht, rfl, Ht⟩ := hrel
  by_cases h0 : 0 < t.size
  · cases hd : decide ((t[0].toNat : Int) ≤ 32) with
    | true =>
      have Hn := Lib.hid ((ltrim_tail t h0 (by rw [sp_at, hd])).trans Ht.out)
      have hsz : (t.extract 1 t.size).size = t.size - 1 := by rw [ByteArray.size_extract]; omega
      go_wp2_with fail
      exact ⟨⟨_, by omega, rfl, Hn⟩, by show (t.extract 1 t.size).size < t.size; omega⟩
    | false =>
      have Hn : Hid (t.data.toList = ltrim s.data.toList) := (ltrim_stop t h0 (by rw [sp_at, hd])).symm.trans Ht.out
      go_wp2_with fail
      clear Ht
      go_loop [0] (fun v => ∃ u : ByteArray, u.size ≤ s.size ∧ v = .string u ∧ Hid (rtrim u.data.toList = trimB s.data.toList)) (fun v => match v with | .string t => t.size | _ => 0)
      case atStart => exact ⟨t, ht, rfl, Lib.hid (by rw [Hn.out]; rfl)⟩
      case round =>
      clear Hn
      obtain ⟨u, hu, rfl, Hu⟩ := hrel
      by_cases h1 : 0 < u.size
      · obtain ⟨m, hm⟩ : ∃ m, u.size = m + 1 := ⟨u.size - 1, by omega⟩
        cases hd : decide ((u[m].toNat : Int) ≤ 32) with
        | true =>
          have Hn := Lib.hid ((rtrim_head u m hm (by rw [sp_at, hd])).trans Hu.out)
          have hsz : (u.extract 0 m).size = m := by rw [ByteArray.size_extract]; omega
          go_wp2_with fail
          exact ⟨⟨_, by omega, rfl, Hn⟩, by show (u.extract 0 m).size < u.size; omega⟩
        | false =>
          have Hn : Hid (u.data.toList = trimB s.data.toList) := (rtrim_stop u m hm (by rw [sp_at, hd])).symm.trans Hu.out
          go_wp2_with fail
          clear Hu
          go_loopw [3, 4] (fun v i wr => ∃ (k g cap : Nat) (l : List UInt8), k ≤ u.size ∧ v = .slice (some ⟨g, 0, none⟩) l.length cap ∧ i = .int .i64 k ∧ Hid (l = kept (u.data.toList.take k)) ∧ Hid (l.length ≤ k) ∧ Hid (Below bb w wr) ∧ Hid (wr.ownsRow bb 5 1 (.slice (some ⟨g, 0, none⟩) l.length cap) l.length (l.map bv))) (fun _ i _ => u.size - (intOf i).toNat)
          case atStart => exact ⟨0, w.heap.size, 0, [], Nat.zero_le _, rfl, rfl, Lib.hid rfl, Lib.hid (Nat.le_refl _), Lib.hid (by rw [← Hbb.out]; exact (Below.refl _ _).alloc (Nat.le_refl _) _), Lib.hid (by rw [← Hbb.out]; exact World.ownsRow_made w #[] 0 (Nat.le_refl _) (by unfold maxLen; omega) rfl)⟩
          case round =>
          obtain ⟨k, g, cap, l, hk, rfl, rfl, Hl, Hlen, Hb, Hown⟩ := hrel
          by_cases hlt : k < u.size
          · have hka := kept_at u k hlt
            have hg := gone_at u[k]
            cases h9 : ((u[k].toNat : Int) != 9) with
            | false =>
              rw [h9] at hg
              rw [hg] at hka
              have Hk := Lib.hid hka
              clear hka hg
              go_wp2_with fail
              go_roundw
              case rel => exact ⟨k + 1, g, cap, l, by omega, rfl, by go_num, Lib.hid (by rw [Hl.out]; exact (Hk.out.trans (List.append_nil _)).symm), Lib.hid (by have := Hlen.out; omega), Hb, Hown⟩
              case measure => simp [intOf]; omega
            | true =>
              cases h10 : ((u[k].toNat : Int) != 10) with
              | false =>
                rw [h9, h10] at hg
                rw [hg] at hka
                have Hk := Lib.hid hka
                clear hka hg
                go_wp2_with fail
                go_roundw
                case rel => exact ⟨k + 1, g, cap, l, by omega, rfl, by go_num, Lib.hid (by rw [Hl.out]; exact (Hk.out.trans (List.append_nil _)).symm), Lib.hid (by have := Hlen.out; omega), Hb, Hown⟩
                case measure => simp [intOf]; omega
              | true =>
                cases h13 : ((u[k].toNat : Int) != 13) with
                | false =>
                  rw [h9, h10, h13] at hg
                  rw [hg] at hka
                  have Hk := Lib.hid hka
                  clear hka hg
                  go_wp2_with fail
                  go_roundw
                  case rel => exact ⟨k + 1, g, cap, l, by omega, rfl, by go_num, Lib.hid (by rw [Hl.out]; exact (Hk.out.trans (List.append_nil _)).symm), Lib.hid (by have := Hlen.out; omega), Hb, Hown⟩
                  case measure => simp [intOf]; omega
                | true =>
                  rw [h9, h10, h13] at hg
                  rw [hg] at hka
                  have Hk := Lib.hid hka
                  clear hka hg
                  go_wp2_with (at_builtin; refine wpList_append_byte rfl _ _ rfl bb g cap l rfl (Hown.out.alloc _) _ u[k] rfl (byte_cell _ _) (by have := Hlen.out; omega) (by have := Hb.out.size; have h3 := Hbb.out; have h4 := Hb.out.size; simp only [World.alloc, Array.size_push]; omega) ?_; intro g' cap' w3 hown3 hg3; have Hown3 := Lib.hid hown3; have Hg3 := Lib.hid hg3; clear hown3 hg3)
                  go_roundw
                  case rel => exact ⟨k + 1, g', cap', l ++ [u[k]], by omega, by rw [List.length_append]; rfl, by go_num, Lib.hid (by rw [Hl.out]; exact Hk.out.symm), Lib.hid (by rw [List.length_append]; have := Hlen.out; simp; omega), Lib.hid ((Hb.out.alloc (by have := Hb.out.size; have h3 := Hbb.out; omega) _).grown Hg3.out (by have := Hb.out.size; have h3 := Hbb.out; simp only [World.alloc, Array.size_push]; omega) (fun k hk => by cases hk; exact owns_ge Hown.out)), Hown3⟩
                  case measure => simp [intOf]; omega
          · have hke : k = u.size := by omega
            subst hke
            have Hr : Hid (bareS s = ⟨l.toArray⟩) := by
              unfold bareS bareL
              rw [← Hn.out, Hl.out, size_eq, List.take_length]
              rfl
            clear Hl
            go_wp2_with (with_reducible refine wpList_back_own rfl _ rfl bb g cap l rfl Hown.out ?_)
            go_ret
            exact ⟨by rw [Hr.out]; rfl, Hb.out⟩
      · have Hn : Hid (u.data.toList = trimB s.data.toList) := by
          have := Hu.out
          rw [nil_of_size u (by omega)] at this ⊢
          exact this
        go_wp2_with fail
        clear h1
        clear Hu
        go_loopw [3, 4] (fun v i wr => ∃ (k g cap : Nat) (l : List UInt8), k ≤ u.size ∧ v = .slice (some ⟨g, 0, none⟩) l.length cap ∧ i = .int .i64 k ∧ Hid (l = kept (u.data.toList.take k)) ∧ Hid (l.length ≤ k) ∧ Hid (Below bb w wr) ∧ Hid (wr.ownsRow bb 5 1 (.slice (some ⟨g, 0, none⟩) l.length cap) l.length (l.map bv))) (fun _ i _ => u.size - (intOf i).toNat)
        case atStart => exact ⟨0, w.heap.size, 0, [], Nat.zero_le _, rfl, rfl, Lib.hid rfl, Lib.hid (Nat.le_refl _), Lib.hid (by rw [← Hbb.out]; exact (Below.refl _ _).alloc (Nat.le_refl _) _), Lib.hid (by rw [← Hbb.out]; exact World.ownsRow_made w #[] 0 (Nat.le_refl _) (by unfold maxLen; omega) rfl)⟩
        case round =>
        obtain ⟨k, g, cap, l, hk, rfl, rfl, Hl, Hlen, Hb, Hown⟩ := hrel
        by_cases hlt : k < u.size
        · have hka := kept_at u k hlt
          have hg := gone_at u[k]
          cases h9 : ((u[k].toNat : Int) != 9) with
          | false =>
            rw [h9] at hg
            rw [hg] at hka
            have Hk := Lib.hid hka
            clear hka hg
            go_wp2_with fail
            go_roundw
            case rel => exact ⟨k + 1, g, cap, l, by omega, rfl, by go_num, Lib.hid (by rw [Hl.out]; exact (Hk.out.trans (List.append_nil _)).symm), Lib.hid (by have := Hlen.out; omega), Hb, Hown⟩
            case measure => simp [intOf]; omega
          | true =>
            cases h10 : ((u[k].toNat : Int) != 10) with
            | false =>
              rw [h9, h10] at hg
              rw [hg] at hka
              have Hk := Lib.hid hka
              clear hka hg
              go_wp2_with fail
              go_roundw
              case rel => exact ⟨k + 1, g, cap, l, by omega, rfl, by go_num, Lib.hid (by rw [Hl.out]; exact (Hk.out.trans (List.append_nil _)).symm), Lib.hid (by have := Hlen.out; omega), Hb, Hown⟩
              case measure => simp [intOf]; omega
            | true =>
              cases h13 : ((u[k].toNat : Int) != 13) with
              | false =>
                rw [h9, h10, h13] at hg
                rw [hg] at hka
                have Hk := Lib.hid hka
                clear hka hg
                go_wp2_with fail
                go_roundw
                case rel => exact ⟨k + 1, g, cap, l, by omega, rfl, by go_num, Lib.hid (by rw [Hl.out]; exact (Hk.out.trans (List.append_nil _)).symm), Lib.hid (by have := Hlen.out; omega), Hb, Hown⟩
                case measure => simp [intOf]; omega
              | true =>
                rw [h9, h10, h13] at hg
                rw [hg] at hka
                have Hk := Lib.hid hka
                clear hka hg
                go_wp2_with (at_builtin; refine wpList_append_byte rfl _ _ rfl bb g cap l rfl (Hown.out.alloc _) _ u[k] rfl (byte_cell _ _) (by have := Hlen.out; omega) (by have := Hb.out.size; have h3 := Hbb.out; have h4 := Hb.out.size; simp only [World.alloc, Array.size_push]; omega) ?_; intro g' cap' w3 hown3 hg3; have Hown3 := Lib.hid hown3; have Hg3 := Lib.hid hg3; clear hown3 hg3)
                go_roundw
                case rel => exact ⟨k + 1, g', cap', l ++ [u[k]], by omega, by rw [List.length_append]; rfl, by go_num, Lib.hid (by rw [Hl.out]; exact Hk.out.symm), Lib.hid (by rw [List.length_append]; have := Hlen.out; simp; omega), Lib.hid ((Hb.out.alloc (by have := Hb.out.size; have h3 := Hbb.out; omega) _).grown Hg3.out (by have := Hb.out.size; have h3 := Hbb.out; simp only [World.alloc, Array.size_push]; omega) (fun k hk => by cases hk; exact owns_ge Hown.out)), Hown3⟩
                case measure => simp [intOf]; omega
        · have hke : k = u.size := by omega
          subst hke
          have Hr : Hid (bareS s = ⟨l.toArray⟩) := by
            unfold bareS bareL
            rw [← Hn.out, Hl.out, size_eq, List.take_length]
            rfl
          clear Hl
          go_wp2_with (with_reducible refine wpList_back_own rfl _ rfl bb g cap l rfl Hown.out ?_)
          go_ret
          exact ⟨by rw [Hr.out]; rfl, Hb.out⟩
  · have Hn : Hid (t.data.toList = ltrim s.data.toList) := by
      have := Ht.out
      rw [nil_of_size t (by omega)] at this ⊢
      exact this
    go_wp2_with fail
    clear Ht
    go_loop [0] (fun v => ∃ u : ByteArray, u.size ≤ s.size ∧ v = .string u ∧ Hid (rtrim u.data.toList = trimB s.data.toList)) (fun v => match v with | .string t => t.size | _ => 0)
    case atStart => exact ⟨t, ht, rfl, Lib.hid (by rw [Hn.out]; rfl)⟩
    case round =>
    clear Hn
    obtain ⟨u, hu, rfl, Hu⟩ := hrel
    by_cases h1 : 0 < u.size
    · obtain ⟨m, hm⟩ : ∃ m, u.size = m + 1 := ⟨u.size - 1, by omega⟩
      cases hd : decide ((u[m].toNat : Int) ≤ 32) with
      | true =>
        have Hn := Lib.hid ((rtrim_head u m hm (by rw [sp_at, hd])).trans Hu.out)
        have hsz : (u.extract 0 m).size = m := by rw [ByteArray.size_extract]; omega
        go_wp2_with fail
        exact ⟨⟨_, by omega, rfl, Hn⟩, by show (u.extract 0 m).size < u.size; omega⟩
      | false =>
        have Hn : Hid (u.data.toList = trimB s.data.toList) := (rtrim_stop u m hm (by rw [sp_at, hd])).symm.trans Hu.out
        go_wp2_with fail
        clear Hu
        go_loopw [3, 4] (fun v i wr => ∃ (k g cap : Nat) (l : List UInt8), k ≤ u.size ∧ v = .slice (some ⟨g, 0, none⟩) l.length cap ∧ i = .int .i64 k ∧ Hid (l = kept (u.data.toList.take k)) ∧ Hid (l.length ≤ k) ∧ Hid (Below bb w wr) ∧ Hid (wr.ownsRow bb 5 1 (.slice (some ⟨g, 0, none⟩) l.length cap) l.length (l.map bv))) (fun _ i _ => u.size - (intOf i).toNat)
        case atStart => exact ⟨0, w.heap.size, 0, [], Nat.zero_le _, rfl, rfl, Lib.hid rfl, Lib.hid (Nat.le_refl _), Lib.hid (by rw [← Hbb.out]; exact (Below.refl _ _).alloc (Nat.le_refl _) _), Lib.hid (by rw [← Hbb.out]; exact World.ownsRow_made w #[] 0 (Nat.le_refl _) (by unfold maxLen; omega) rfl)⟩
        case round =>
        obtain ⟨k, g, cap, l, hk, rfl, rfl, Hl, Hlen, Hb, Hown⟩ := hrel
        by_cases hlt : k < u.size
        · have hka := kept_at u k hlt
          have hg := gone_at u[k]
          cases h9 : ((u[k].toNat : Int) != 9) with
          | false =>
            rw [h9] at hg
            rw [hg] at hka
            have Hk := Lib.hid hka
            clear hka hg
            go_wp2_with fail
            go_roundw
            case rel => exact ⟨k + 1, g, cap, l, by omega, rfl, by go_num, Lib.hid (by rw [Hl.out]; exact (Hk.out.trans (List.append_nil _)).symm), Lib.hid (by have := Hlen.out; omega), Hb, Hown⟩
            case measure => simp [intOf]; omega
          | true =>
            cases h10 : ((u[k].toNat : Int) != 10) with
            | false =>
              rw [h9, h10] at hg
              rw [hg] at hka
              have Hk := Lib.hid hka
              clear hka hg
              go_wp2_with fail
              go_roundw
              case rel => exact ⟨k + 1, g, cap, l, by omega, rfl, by go_num, Lib.hid (by rw [Hl.out]; exact (Hk.out.trans (List.append_nil _)).symm), Lib.hid (by have := Hlen.out; omega), Hb, Hown⟩
              case measure => simp [intOf]; omega
            | true =>
              cases h13 : ((u[k].toNat : Int) != 13) with
              | false =>
                rw [h9, h10, h13] at hg
                rw [hg] at hka
                have Hk := Lib.hid hka
                clear hka hg
                go_wp2_with fail
                go_roundw
                case rel => exact ⟨k + 1, g, cap, l, by omega, rfl, by go_num, Lib.hid (by rw [Hl.out]; exact (Hk.out.trans (List.append_nil _)).symm), Lib.hid (by have := Hlen.out; omega), Hb, Hown⟩
                case measure => simp [intOf]; omega
              | true =>
                rw [h9, h10, h13] at hg
                rw [hg] at hka
                have Hk := Lib.hid hka
                clear hka hg
                go_wp2_with (at_builtin; refine wpList_append_byte rfl _ _ rfl bb g cap l rfl (Hown.out.alloc _) _ u[k] rfl (byte_cell _ _) (by have := Hlen.out; omega) (by have := Hb.out.size; have h3 := Hbb.out; have h4 := Hb.out.size; simp only [World.alloc, Array.size_push]; omega) ?_; intro g' cap' w3 hown3 hg3; have Hown3 := Lib.hid hown3; have Hg3 := Lib.hid hg3; clear hown3 hg3)
                go_roundw
                case rel => exact ⟨k + 1, g', cap', l ++ [u[k]], by omega, by rw [List.length_append]; rfl, by go_num, Lib.hid (by rw [Hl.out]; exact Hk.out.symm), Lib.hid (by rw [List.length_append]; have := Hlen.out; simp; omega), Lib.hid ((Hb.out.alloc (by have := Hb.out.size; have h3 := Hbb.out; omega) _).grown Hg3.out (by have := Hb.out.size; have h3 := Hbb.out; simp only [World.alloc, Array.size_push]; omega) (fun k hk => by cases hk; exact owns_ge Hown.out)), Hown3⟩
                case measure => simp [intOf]; omega
        · have hke : k = u.size := by omega
          subst hke
          have Hr : Hid (bareS s = ⟨l.toArray⟩) := by
            unfold bareS bareL
            rw [← Hn.out, Hl.out, size_eq, List.take_length]
            rfl
          clear Hl
          go_wp2_with (with_reducible refine wpList_back_own rfl _ rfl bb g cap l rfl Hown.out ?_)
          go_ret
          exact ⟨by rw [Hr.out]; rfl, Hb.out⟩
    · have Hn : Hid (u.data.toList = trimB s.data.toList) := by
        have := Hu.out
        rw [nil_of_size u (by omega)] at this ⊢
        exact this
      go_wp2_with fail
      clear h1
      clear Hu
      go_loopw [3, 4] (fun v i wr => ∃ (k g cap : Nat) (l : List UInt8), k ≤ u.size ∧ v = .slice (some ⟨g, 0, none⟩) l.length cap ∧ i = .int .i64 k ∧ Hid (l = kept (u.data.toList.take k)) ∧ Hid (l.length ≤ k) ∧ Hid (Below bb w wr) ∧ Hid (wr.ownsRow bb 5 1 (.slice (some ⟨g, 0, none⟩) l.length cap) l.length (l.map bv))) (fun _ i _ => u.size - (intOf i).toNat)
      case atStart => exact ⟨0, w.heap.size, 0, [], Nat.zero_le _, rfl, rfl, Lib.hid rfl, Lib.hid (Nat.le_refl _), Lib.hid (by rw [← Hbb.out]; exact (Below.refl _ _).alloc (Nat.le_refl _) _), Lib.hid (by rw [← Hbb.out]; exact World.ownsRow_made w #[] 0 (Nat.le_refl _) (by unfold maxLen; omega) rfl)⟩
      case round =>
      obtain ⟨k, g, cap, l, hk, rfl, rfl, Hl, Hlen, Hb, Hown⟩ := hrel
      by_cases hlt : k < u.size
      · have hka := kept_at u k hlt
        have hg := gone_at u[k]
        cases h9 : ((u[k].toNat : Int) != 9) with
        | false =>
          rw [h9] at hg
          rw [hg] at hka
          have Hk := Lib.hid hka
          clear hka hg
          go_wp2_with fail
          go_roundw
          case rel => exact ⟨k + 1, g, cap, l, by omega, rfl, by go_num, Lib.hid (by rw [Hl.out]; exact (Hk.out.trans (List.append_nil _)).symm), Lib.hid (by have := Hlen.out; omega), Hb, Hown⟩
          case measure => simp [intOf]; omega
        | true =>
          cases h10 : ((u[k].toNat : Int) != 10) with
          | false =>
            rw [h9, h10] at hg
            rw [hg] at hka
            have Hk := Lib.hid hka
            clear hka hg
            go_wp2_with fail
            go_roundw
            case rel => exact ⟨k + 1, g, cap, l, by omega, rfl, by go_num, Lib.hid (by rw [Hl.out]; exact (Hk.out.trans (List.append_nil _)).symm), Lib.hid (by have := Hlen.out; omega), Hb, Hown⟩
            case measure => simp [intOf]; omega
          | true =>
            cases h13 : ((u[k].toNat : Int) != 13) with
            | false =>
              rw [h9, h10, h13] at hg
              rw [hg] at hka
              have Hk := Lib.hid hka
              clear hka hg
              go_wp2_with fail
              go_roundw
              case rel => exact ⟨k + 1, g, cap, l, by omega, rfl, by go_num, Lib.hid (by rw [Hl.out]; exact (Hk.out.trans (List.append_nil _)).symm), Lib.hid (by have := Hlen.out; omega), Hb, Hown⟩
              case measure => simp [intOf]; omega
            | true =>
              rw [h9, h10, h13] at hg
              rw [hg] at hka
              have Hk := Lib.hid hka
              clear hka hg
              go_wp2_with (at_builtin; refine wpList_append_byte rfl _ _ rfl bb g cap l rfl (Hown.out.alloc _) _ u[k] rfl (byte_cell _ _) (by have := Hlen.out; omega) (by have := Hb.out.size; have h3 := Hbb.out; have h4 := Hb.out.size; simp only [World.alloc, Array.size_push]; omega) ?_; intro g' cap' w3 hown3 hg3; have Hown3 := Lib.hid hown3; have Hg3 := Lib.hid hg3; clear hown3 hg3)
              go_roundw
              case rel => exact ⟨k + 1, g', cap', l ++ [u[k]], by omega, by rw [List.length_append]; rfl, by go_num, Lib.hid (by rw [Hl.out]; exact Hk.out.symm), Lib.hid (by rw [List.length_append]; have := Hlen.out; simp; omega), Lib.hid ((Hb.out.alloc (by have := Hb.out.size; have h3 := Hbb.out; omega) _).grown Hg3.out (by have := Hb.out.size; have h3 := Hbb.out; simp only [World.alloc, Array.size_push]; omega) (fun k hk => by cases hk; exact owns_ge Hown.out)), Hown3⟩
              case measure => simp [intOf]; omega
      · have hke : k = u.size := by omega
        subst hke
        have Hr : Hid (bareS s = ⟨l.toArray⟩) := by
          unfold bareS bareL
          rw [← Hn.out, Hl.out, size_eq, List.take_length]
          rfl
        clear Hl
        go_wp2_with (with_reducible refine wpList_back_own rfl _ rfl bb g cap l rfl Hown.out ?_)
        go_ret
        exact ⟨by rw [Hr.out]; rfl, Hb.out⟩
end Go.Proofs.YtlekingcmikopaaGreatDoor
