/-
  The walks of decanterref19.Scheme, Allowed and Names: they say what the program's own say.
-/
import Derived.Test.YtlekingcmikopaaGreatDoorRefC
namespace Go.Proofs.YtlekingcmikopaaGreatDoor
open Go.RowKit Go.Lib

theorem may_58 (k : Nat) : may 58 k = false := by
  unfold may
  rw [show inB (low ((58 : UInt8).toNat : Int)) 97 122 = false by decide, show inB ((58 : UInt8).toNat : Int) 48 57 = false by decide, show isPM ((58 : UInt8).toNat : Int) = false by decide]
  simp
theorem hasL_at (l : List UInt8) (k : Nat) (h : k < l.length) (hn : lettersFrom (l.drop k) k = lettersN l) (hm : may l[k] k = false) : lettersN l = k ∧ hasL l = (decide (0 < k) && l[k] == 58) := by
  rw [letters_step _ _ h, hm] at hn
  have hn : k = lettersN l := hn
  refine ⟨hn.symm, ?_⟩
  unfold hasL
  rw [← hn, List.getElem?_eq_getElem h]
  simp [h]
theorem hasL_end (l : List UInt8) (hn : lettersFrom (l.drop l.length) l.length = lettersN l) : hasL l = false := by
  rw [List.drop_length] at hn
  have hn : l.length = lettersN l := hn
  unfold hasL
  rw [← hn]
  simp
theorem eq58 (x : UInt8) : ((x.toNat : Int) == 58) = (x == 58) := by
  have n : (58 : UInt8).toNat = 58 := rfl
  by_cases h : x = 58
  · subst h; rfl
  · have : ¬ ((x.toNat : Int) = 58) := fun h2 => h (UInt8.toNat_inj.1 (by omega))
    rw [beq_eq_false_iff_ne.2 h, beq_eq_false_iff_ne.2 this]

set_option maxRecDepth 100000 in
set_option maxHeartbeats 1000000 in
theorem rscheme_core (s b : ByteArray) (w : World) (hb : b.size ≤ 1000000) (K : Calls Tryz.prog 13 #[.string s] w fun e w' => e = .returned (.string b) ∧ Below w.heap.size w w') :
    Calls Tryz.prog 11 #[.string s] w (SchPost b.data.toList w) := by
  have HK := Lib.hid K; clear K
  have HP0 : Hid (∀ wr, Below w.heap.size w wr → hasL b.data.toList = false → SchPost b.data.toList w (.returned (.tuple #[.string ⟨#[]⟩, .bool false])) wr) := fun wr h hf => ⟨by unfold schL; rw [hf]; rfl, h⟩
  have HP1 : Hid (∀ k wr, Below w.heap.size w wr → lettersN b.data.toList = k → hasL b.data.toList = true → SchPost b.data.toList w (.returned (.tuple #[.string ⟨(small (b.data.toList.take k)).toArray⟩, .bool true])) wr) := fun k wr h hk hf => ⟨by unfold schL; rw [hf, hk]; rfl, h⟩
  generalize SchPost b.data.toList w = P at *
  go_enter Tryz.func11, Tryz.ntmps11
  go_wp2_with (go_at_call 13; refine HK.out.mono ?_; rintro e w1 ⟨rfl, hb1⟩; have Hb1 := Lib.hid hb1; clear hb1)
  go_loop [4] (fun i => ∃ k : Nat, k ≤ b.size ∧ i = .int .i64 k ∧ Hid (lettersFrom (b.data.toList.drop k) k = lettersN b.data.toList)) (fun i => b.size - (intOf i).toNat)
  case atStart => exact ⟨0, Nat.zero_le _, rfl, Lib.hid rfl⟩
  case round =>
  obtain ⟨k, hk, rfl, HR⟩ := hrel
  by_cases hlt : k < b.size
  · have hkl : k < b.data.toList.length := by rw [← size_eq]; exact hlt
    have KM := Lib.hid fun w => rmay_any b[k] k w
    have hx1 : (b[k].toNat : Int) < 256 := by have := UInt8.toNat_lt b[k]; omega
    cases h58 : ((b[k].toNat : Int) == 58) with
    | true =>
      have he : b.data.toList[k] = 58 := eq_of_beq (a := b[k]) ((eq58 b[k]).symm.trans h58)
      have hm : may b.data.toList[k] k = false := by rw [he]; exact may_58 k
      have hH := hasL_at _ k hkl HR.out hm
      rw [he] at hH
      rw [show may b[k] k = false from hm] at KM
      have HH := Lib.hid hH
      clear hH hm he HR
      by_cases hk0 : 0 < k
      · have KS : Hid (∀ w, Calls Tryz.prog 23 #[.string (b.extract 0 k)] w fun e w' => e = .returned (.string ⟨(small (b.data.toList.take k)).toArray⟩) ∧ Below w.heap.size w w') := fun w => by
          have := rsmall_any (b.extract 0 k) w (by rw [ByteArray.size_extract]; omega)
          rw [Lib.extract_data, List.drop_zero, Nat.sub_zero] at this
          exact this
        go_wp2_with (go_at_call 23; refine (KS.out _).mono ?_; rintro e w2 ⟨rfl, hb2⟩; have Hb2 := Lib.hid hb2; clear hb2)
        exact HP1.out k _ (Hb1.out.trans (Hb2.out.mono Hb1.out.size)) HH.out.1 (by rw [HH.out.2]; simp [hk0])
      · have hk1 : k = 0 := by omega
        subst hk1
        go_wp2_with (go_at_call 18; refine (KM.out _).mono ?_; rintro e w2 ⟨rfl, rfl⟩)
        exact HP0.out _ Hb1.out (by rw [HH.out.2]; rfl)
    | false =>
      cases hm : may b[k] k with
      | true =>
        rw [hm] at KM
        have Hn : Hid (lettersFrom (b.data.toList.drop (k + 1)) (k + 1) = lettersN b.data.toList) := by
          have h := HR.out
          rw [letters_step _ _ hkl, show may b.data.toList[k] k = true from hm] at h
          exact h
        clear HR
        go_wp2_with (go_at_call 18; refine (KM.out _).mono ?_; rintro e w2 ⟨rfl, rfl⟩)
        go_round
        case rel => exact ⟨k + 1, by omega, by go_num, Hn⟩
        case measure => simp [intOf]; omega
      | false =>
        rw [hm] at KM
        have hH := hasL_at _ k hkl HR.out hm
        have hne : (b.data.toList[k] == 58) = false := (eq58 b[k]).symm.trans h58
        rw [hne, Bool.and_false] at hH
        have HH := Lib.hid hH.2
        clear hH hne HR
        go_wp2_with (go_at_call 18; refine (KM.out _).mono ?_; rintro e w2 ⟨rfl, rfl⟩)
        exact HP0.out _ Hb1.out HH.out
  · have hke : k = b.size := by omega
    subst hke
    have HH : Hid (hasL b.data.toList = false) := hasL_end _ (by rw [← size_eq]; exact HR.out)
    clear HR
    go_wp2_with fail
    exact HP0.out _ Hb1.out HH.out

theorem rscheme_any (s : ByteArray) (w : World) (hs : s.size ≤ 1000000) :
    Calls Tryz.prog 11 #[.string s] w fun e w' => e = .returned (.tuple #[.string (schS s), .bool (hasS s)]) ∧ Below w.heap.size w w' := by
  have hbs := bareS_le s
  exact rscheme_core s (bareS s) w (by omega) (rbare_any s w hs)

theorem str_eq (a b : ByteArray) : (a.toList == b.toList) = true ↔ a = b := by
  rw [beq_iff_eq, toList_data, toList_data]
  constructor
  · intro h
    cases a; cases b
    congr
    exact Array.toList_inj.1 h
  · rintro rfl; rfl

set_option maxRecDepth 100000 in
set_option maxHeartbeats 1000000 in
theorem rallowed_any (s : ByteArray) (v : Value) (zs : List ByteArray) (w : World) (hs : s.size ≤ 1000000) (hv : Strs w v zs) (hl : zs.length ≤ 1000000) :
    Calls Tryz.prog 15 #[.string s, v] w (AllowedPost s zs w) := by
  have KS := Lib.hid (rscheme_any s w hs)
  have HP : Hid (∀ r wr, Below w.heap.size w wr → allowedB s zs = r → AllowedPost s zs w (.returned (.bool r)) wr) := fun r wr h hr => ⟨by rw [hr], h⟩
  generalize AllowedPost s zs w = P at *
  cases h : hasS s with
  | false =>
    rw [h] at KS
    have HA : Hid (allowedB s zs = true) := by unfold Hid allowedB; rw [h]; rfl
    clear h hv
    generalize schS s = x at *
    go_enter Tryz.func15, Tryz.ntmps15
    go_wp2_with (go_at_call 11; refine KS.out.mono ?_; rintro e w1 ⟨rfl, hb1⟩; have Hb1 := Lib.hid hb1; clear hb1)
    exact HP.out _ _ Hb1.out HA.out
  | true =>
    rw [h] at KS
    have HA : Hid (allowedB s zs = Lib.containsS zs (schS s)) := by unfold Hid allowedB; rw [h]; rfl
    clear h
    generalize schS s = x at *
    rcases hv with ⟨b, off, c, rfl, hc⟩ | ⟨rfl, a, c, rfl⟩
    · have HC := Lib.hid hc
      clear hc
      go_enter Tryz.func15, Tryz.ntmps15
      go_wp2_with (go_at_call 11; refine KS.out.mono ?_; rintro e w1 ⟨rfl, hb1⟩; have Hb1 := Lib.hid hb1; clear hb1)
      go_loop [7] (fun i => ∃ k : Nat, k ≤ zs.length ∧ i = .int .i64 k ∧ Hid (x ∉ zs.take k)) (fun i => zs.length - (intOf i).toNat)
      case atStart => exact ⟨0, Nat.zero_le _, rfl, by unfold Hid; simp⟩
      case round =>
      obtain ⟨k, hk, rfl, HR⟩ := hrel
      by_cases hlt : k < zs.length
      · have hc := cell_below Hb1.out (HC.out k hlt)
        obtain ⟨z, hz⟩ : ∃ z, zs[k] = z := ⟨_, rfl⟩
        rw [show zs.getD k ByteArray.empty = z by simp [List.getD, hlt, hz]] at hc
        cases he : (z.toList == x.toList) with
        | true =>
          have HT : Hid (Lib.containsS zs x = true) := (Lib.containsS_iff _ _).2 (by rw [← (str_eq z x).1 he, ← hz]; exact List.getElem_mem hlt)
          clear hz HR
          go_wp2_with fail
          exact HP.out _ _ Hb1.out (HA.out.trans HT.out)
        | false =>
          have Hn : Hid (x ∉ zs.take (k + 1)) := by
            unfold Hid
            rw [List.take_succ_eq_append_getElem hlt, hz]
            intro hmem
            rcases List.mem_append.1 hmem with h1 | h1
            · exact HR.out h1
            · rw [List.mem_singleton] at h1
              rw [(str_eq z x).2 h1.symm] at he
              cases he
          clear hz HR
          go_wp2_with fail
          go_round
          case rel => exact ⟨k + 1, by omega, by go_num, Hn⟩
          case measure => simp [intOf]; omega
      · have HF : Hid (Lib.containsS zs x = false) := by
          have h := HR.out
          rw [List.take_of_length_le (by omega)] at h
          cases hc : Lib.containsS zs x with
          | false => rfl
          | true => exact absurd ((Lib.containsS_iff _ _).1 hc) h
        clear HR
        go_wp2_with fail
        exact HP.out _ _ Hb1.out (HA.out.trans HF.out)
    · have HF : Hid (Lib.containsS [] x = false) := by
        cases hc : Lib.containsS [] x with
        | false => rfl
        | true => have := (Lib.containsS_iff _ _).1 hc; simp at this
      go_enter Tryz.func15, Tryz.ntmps15
      go_wp2_with (go_at_call 11; refine KS.out.mono ?_; rintro e w1 ⟨rfl, hb1⟩; have Hb1 := Lib.hid hb1; clear hb1)
      go_loop [7] (fun i => i = .int .i64 0) (fun i => 0)
      case atStart => exact rfl
      case round =>
      subst hrel
      go_wp2_with fail
      exact HP.out _ _ Hb1.out (HA.out.trans HF.out)

def namesRow : Array Value := (namesL.map fun l => Value.string ⟨l.toArray⟩).toArray
def RNamesPost (l : List UInt8) (w : World) (e : Ending) (w' : World) : Prop := e = .returned (.bool (namesB l)) ∧ Below w.heap.size w w'
theorem names_cell (w : World) (k : Nat) (h : k < namesL.length) : (w.alloc (.cells namesRow 9)).cell? ⟨w.heap.size, k, none⟩ = some (.string ⟨namesL[k].toArray⟩) := by
  rw [World.cell?_alloc_at _ _ _ _ rfl]
  unfold namesRow
  rw [List.getElem?_toArray, List.getElem?_map, List.getElem?_eq_getElem h]
  rfl

set_option maxRecDepth 100000 in
set_option maxHeartbeats 1000000 in
theorem rnames_any (s : ByteArray) (w : World) : Calls Tryz.prog 17 #[.string s] w (RNamesPost s.data.toList w) := by
  have HP : Hid (∀ r wr, Below w.heap.size w wr → namesB s.data.toList = r → RNamesPost s.data.toList w (.returned (.bool r)) wr) := fun r wr h hr => ⟨by rw [hr], h⟩
  have HC : Hid (∀ k (h : k < namesL.length), (w.alloc (.cells namesRow 9)).cell? ⟨w.heap.size, k, none⟩ = some (.string ⟨namesL[k].toArray⟩)) := names_cell w
  have HB : Hid (Below w.heap.size w (w.alloc (.cells namesRow 9))) := (Below.refl _ _).alloc (Nat.le_refl _) _
  generalize RNamesPost s.data.toList w = P at *
  go_enter Tryz.func17, Tryz.ntmps17
  go_wp2_with fail
  obtain ⟨w1, hw1⟩ : ∃ w1, w.alloc (.cells namesRow 9) = w1 := ⟨_, rfl⟩
  have hw2 := hw1
  unfold namesRow namesL at hw2
  simp only [List.map_cons, List.map_nil] at hw2
  rw [hw2]
  rw [hw1] at HC HB
  clear hw1 hw2
  have hlen : namesL.length = 9 := rfl
  go_loop [4] (fun i => ∃ k : Nat, k ≤ 9 ∧ i = .int .i64 k ∧ Hid ((namesL.take k).any (fun n => s.data.toList == n) = false)) (fun i => 9 - (intOf i).toNat)
  case atStart => exact ⟨0, Nat.zero_le _, rfl, Lib.hid rfl⟩
  case round =>
  obtain ⟨k, hk, rfl, HR⟩ := hrel
  by_cases hlt : k < 9
  · have hkl : k < namesL.length := by omega
    have hc := HC.out k hkl
    obtain ⟨z, hz⟩ : ∃ z : ByteArray, (⟨namesL[k].toArray⟩ : ByteArray) = z := ⟨_, rfl⟩
    have hzd : z.toList = namesL[k] := by rw [← hz, toList_data]
    rw [hz] at hc
    clear hz
    have ht : (namesL.take (k + 1)).any (fun n => s.data.toList == n) = (s.data.toList == z.toList) := by
      rw [List.take_succ_eq_append_getElem hkl, List.any_append, HR.out, hzd]
      simp
    clear hzd
    cases he : (z.toList == s.toList) with
    | true =>
      have HT : Hid (namesB s.data.toList = true) := by
        have h1 : (namesL.take (k + 1)).any (fun n => s.data.toList == n) = true := by
          rw [ht, ← toList_data, eq_of_beq he]; exact beq_self_eq_true _
        obtain ⟨n, hn, hb⟩ := List.any_eq_true.1 h1
        exact List.any_eq_true.2 ⟨n, List.mem_of_mem_take hn, hb⟩
      clear ht HR hkl hlen
      go_wp2_with fail
      exact HP.out _ _ HB.out HT.out
    | false =>
      have Hn : Hid ((namesL.take (k + 1)).any (fun n => s.data.toList == n) = false) := by
        unfold Hid
        rw [ht, ← toList_data]
        exact beq_eq_false_iff_ne.2 (Ne.symm (beq_eq_false_iff_ne.1 he))
      clear ht HR hkl hlen
      go_wp2_with fail
      go_round
      case rel => exact ⟨k + 1, by omega, by go_num, Hn⟩
      case measure => simp [intOf]; omega
  · have hke : k = 9 := by omega
    subst hke
    have HF : Hid (namesB s.data.toList = false) := HR.out
    clear HR hlen
    go_wp2_with fail
    exact HP.out _ _ HB.out HF.out
end Go.Proofs.YtlekingcmikopaaGreatDoor
