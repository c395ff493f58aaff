/-
  The walks of class.Small and url.letters.
-/
import Derived.Test.YtlekingcmikopaaGreatDoorRune
namespace Go.Proofs.YtlekingcmikopaaGreatDoor
open Go.RowKit

/-- The small letter of a byte. -/
def lowB (x : UInt8) : UInt8 := if 65 ≤ x.toNat ∧ x.toNat ≤ 90 then x + 32 else x
theorem lowB_low (x : UInt8) : low (x.toNat : Int) = ((lowB x).toNat : Int) := by
  unfold low lowB
  have := UInt8.toNat_lt x
  by_cases h : 65 ≤ x.toNat ∧ x.toNat ≤ 90
  · rw [if_pos (by omega), if_pos h, UInt8.toNat_add]
    have h32 : (32 : UInt8).toNat = 32 := rfl
    rw [h32]
    omega
  · rw [if_neg (by omega), if_neg h]
theorem lowB_any (x : UInt8) (w : World) : Calls Tryz.prog 33 #[.int .i32 (x.toNat : Int)] w fun e w' => e = .returned (.int .i32 ((lowB x).toNat : Int)) ∧ w = w' := by
  have := UInt8.toNat_lt x
  rw [← lowB_low]
  exact lower_any _ w (by omega) (by omega)
/-- A text with small letters. -/
def small (l : List UInt8) : List UInt8 := l.map lowB

theorem small_set (l : List UInt8) (k : Nat) (h : k < l.length) : (small (l.take k) ++ l.drop k).set k (lowB l[k]) = small (l.take (k + 1)) ++ l.drop (k + 1) := by
  have hk : (small (l.take k)).length = k := by unfold small; rw [List.length_map, List.length_take]; omega
  rw [List.set_append_right _ _ (by omega), hk, Nat.sub_self, List.drop_eq_getElem_cons h, List.set_cons_zero, take_snoc l k h]
  unfold small
  rw [List.map_append]
  simp
theorem small_at (l : List UInt8) (k : Nat) (h : k < l.length) (h' : k < (small (l.take k) ++ l.drop k).length) : (small (l.take k) ++ l.drop k)[k] = l[k] := by
  have hk : (small (l.take k)).length = k := by unfold small; rw [List.length_map, List.length_take]; omega
  rw [List.getElem_append_right (by omega)]
  simp [hk]
theorem small_len (l : List UInt8) (k : Nat) (h : k ≤ l.length) : (small (l.take k) ++ l.drop k).length = l.length := by
  unfold small; simp; omega

set_option maxRecDepth 100000 in
set_option maxHeartbeats 1000000 in
theorem small_any (s : ByteArray) (w : World) (hs : s.size ≤ 1000000) :
    Calls Tryz.prog 21 #[.string s] w fun e w' => e = .returned (.string ⟨(small s.data.toList).toArray⟩) ∧ Below w.heap.size w w' := by
  go_enter Tryz.func21, Tryz.ntmps21
  go_wp2_with ((with_reducible refine wpList_bytes rfl _ rfl s rfl ?_); intro w1 c1 hg1 hs1 hr1; have Hg1 := Lib.hid hg1; have Hr1 := Lib.hid hr1; clear hg1 hr1)
  have hb1 : Below w.heap.size w w1 := (Below.refl _ _).grown Hg1.out (Nat.le_refl _) (fun k hk => by cases hk)
  generalize hbb : w.heap.size = bb at *
  have Hbb := Lib.hid hbb
  clear hbb
  go_loopw [10] (fun i wr => ∃ k : Nat, k ≤ s.size ∧ i = .int .i64 k ∧ Below bb w wr ∧ ByteRow wr bb (small (s.data.toList.take k) ++ s.data.toList.drop k)) (fun i _ => s.size - (intOf i).toNat)
  case atStart => exact ⟨0, Nat.zero_le _, rfl, hb1, by simpa [small] using Hr1.out⟩
  case round =>
  clear hb1 Hr1
  obtain ⟨k, hk, rfl, hb, hr⟩ := hrel
  have Hb := Lib.hid hb
  have Hr := Lib.hid hr
  clear hb hr
  by_cases hlt : k < s.size
  · have hkl : k < s.data.toList.length := by simpa using hlt
    have hln := small_len s.data.toList k (by omega)
    have hc := Hr.out.cell k (by omega)
    have hf := Hr.out.frozen k (by omega)
    rw [small_at _ _ hkl] at hc
    have Hset := Lib.hid (Hr.out.set k (lowB s.data.toList[k]))
    rw [small_set _ _ hkl] at Hset
    generalize s.data.toList[k] = x at hc Hset
    clear hln
    have hx1 : (x.toNat : Int) < 256 := by have := UInt8.toNat_lt x; omega
    have hx2 : ((lowB x).toNat : Int) < 256 := by have := UInt8.toNat_lt (lowB x); omega
    go_wp2_with (go_at_call 33; refine (lowB_any x _).mono ?_; rintro e w' ⟨rfl, rfl⟩)
    exact ⟨⟨k + 1, by omega, by go_num, Hb.out.setCell (p := ⟨bb, k, none⟩) (Nat.le_refl _) _, Hset.out⟩, by simp [intOf]; omega⟩
  · have hke : k = s.size := by omega
    subst hke
    have he : small (s.data.toList.take s.size) ++ s.data.toList.drop s.size = small s.data.toList := by
      rw [List.take_of_length_le (by simp), List.drop_eq_nil_of_le (by simp), List.append_nil]
    rw [he] at Hr
    clear he
    go_wp2_with (with_reducible refine wpList_back rfl _ rfl _ _ _ rfl (small s.data.toList) (by simp [small]) Hr.out ?_)
    go_ret
    exact ⟨rfl, by rw [Hbb.out]; exact Hb.out⟩

/-- May a byte stand in a scheme, at a place? -/
def may (x : UInt8) (k : Nat) : Bool := inB (low (x.toNat : Int)) 97 122 || (decide (0 < k) && (inB (x.toNat : Int) 48 57 || isPM (x.toNat : Int)))
def lettersFrom : List UInt8 → Nat → Nat
  | [], k => k
  | x :: l, k => if may x k then lettersFrom l (k + 1) else k
/-- How many bytes a scheme has with which a text begins. -/
def lettersN (l : List UInt8) : Nat := lettersFrom l 0

theorem letters_step (l : List UInt8) (k : Nat) (h : k < l.length) : lettersFrom (l.drop k) k = if may l[k] k then lettersFrom (l.drop (k + 1)) (k + 1) else k := by
  rw [List.drop_eq_getElem_cons h]
  rfl

set_option maxRecDepth 100000 in
set_option maxHeartbeats 2000000 in
theorem letters_any (s : ByteArray) (w : World) (hs : s.size ≤ 1000000) :
    Calls Tryz.prog 20 #[.string s] w fun e w' => e = .returned (.int .i64 (lettersN s.data.toList : Nat)) ∧ Below w.heap.size w w' := by
  go_enter Tryz.func20, Tryz.ntmps20
  go_wp2_with ((with_reducible refine wpList_bytes rfl _ rfl s rfl ?_); intro w1 c1 hg1 hs1 hr1; have Hg1 := Lib.hid hg1; have Hr1 := Lib.hid hr1; clear hg1 hr1)
  have hb1 : Below w.heap.size w w1 := (Below.refl _ _).grown Hg1.out (Nat.le_refl _) (fun k hk => by cases hk)
  generalize hbb : w.heap.size = bb at *
  have Hbb := Lib.hid hbb
  clear hbb
  go_loopw [9] (fun i wr => ∃ k : Nat, k ≤ s.size ∧ i = .int .i64 k ∧ Below bb w wr ∧ ByteRow wr bb s.data.toList ∧ lettersFrom (s.data.toList.drop k) k = lettersN s.data.toList) (fun i _ => s.size - (intOf i).toNat)
  case atStart => exact ⟨0, Nat.zero_le _, rfl, hb1, Hr1.out, rfl⟩
  case round =>
  clear hb1 Hr1
  obtain ⟨k, hk, rfl, hb, hr, hn⟩ := hrel
  have Hb := Lib.hid hb
  have Hr := Lib.hid hr
  have hrlt := hr.lt
  clear hb hr
  by_cases hlt : k < s.size
  · have hkl : k < s.data.toList.length := by simpa using hlt
    have hc := Hr.out.cell k hkl
    rw [letters_step _ _ hkl] at hn
    generalize s.data.toList[k] = x at hc hn
    have hx1 : (x.toNat : Int) < 256 := by have := UInt8.toNat_lt x; omega
    cases hL : inB (low (x.toNat : Int)) 97 122 with
    | true =>
      have Hn : Hid (lettersFrom (s.data.toList.drop (k + 1)) (k + 1) = lettersN s.data.toList) := by
        have hm : may x k = true := by unfold may; rw [hL]; rfl
        rw [hm] at hn; exact hn
      clear hn
      go_wp2_with (go_at_call 30; refine (letter_any _ _ (by omega) (by omega)).mono ?_; rintro e w' ⟨rfl, rfl⟩)
      go_roundw
      case rel => exact ⟨k + 1, by omega, by go_num, Hb.out, Hr.out, Hn.out⟩
      case measure => simp [intOf]; omega
    | false =>
      by_cases hk0 : 0 < k
      · cases hD : inB (x.toNat : Int) 48 57 with
        | true =>
          have Hn : Hid (lettersFrom (s.data.toList.drop (k + 1)) (k + 1) = lettersN s.data.toList) := by
            have hm : may x k = true := by unfold may; simp [hL, hD, hk0]
            rw [hm] at hn; exact hn
          clear hn
          go_wp2_with (first
            | (go_at_call 30; refine (letter_any _ _ (by omega) (by omega)).mono ?_; rintro e w' ⟨rfl, rfl⟩)
            | (go_at_call 31; refine (digit_any _ _).mono ?_; rintro e w' ⟨rfl, rfl⟩))
          go_roundw
          case rel => exact ⟨k + 1, by omega, by go_num, Hb.out, Hr.out, Hn.out⟩
          case measure => simp [intOf]; omega
        | false =>
          cases hP : isPM (x.toNat : Int) with
          | true =>
          have Hn : Hid (lettersFrom (s.data.toList.drop (k + 1)) (k + 1) = lettersN s.data.toList) := by
            have hm : may x k = true := by unfold may; simp [hL, hP, hk0]
            rw [hm] at hn; exact hn
          clear hn
          go_wp2_with (first
            | (go_at_call 30; refine (letter_any _ _ (by omega) (by omega)).mono ?_; rintro e w' ⟨rfl, rfl⟩)
            | (go_at_call 31; refine (digit_any _ _).mono ?_; rintro e w' ⟨rfl, rfl⟩)
            | (go_at_call 32; refine (contains_any _ _ (by omega) (by omega)).mono ?_; rintro e w2 ⟨rfl, hb2⟩; have Hb2 := Lib.hid hb2; clear hb2))
          go_roundw
          case rel => exact ⟨k + 1, by omega, by go_num, Hb.out.trans (Hb2.out.mono (by omega)), Hr.out.same (Hb2.out.block _ hrlt), Hn.out⟩
          case measure => simp [intOf]; omega
          | false =>
          have Hn : Hid (k = lettersN s.data.toList) := by
            have hm : may x k = false := by unfold may; simp [hL, hP, hD]
            rw [hm] at hn; exact hn
          clear hn
          go_wp2_with (first
            | (go_at_call 30; refine (letter_any _ _ (by omega) (by omega)).mono ?_; rintro e w' ⟨rfl, rfl⟩)
            | (go_at_call 31; refine (digit_any _ _).mono ?_; rintro e w' ⟨rfl, rfl⟩)
            | (go_at_call 32; refine (contains_any _ _ (by omega) (by omega)).mono ?_; rintro e w2 ⟨rfl, hb2⟩; have Hb2 := Lib.hid hb2; clear hb2))
          go_ret
          exact ⟨by rw [← Hn.out]; rfl, by rw [Hbb.out]; exact Hb.out.trans (Hb2.out.mono (by omega))⟩
      · have Hn : Hid (k = lettersN s.data.toList) := by
          have hm : may x k = false := by unfold may; simp [hL, hk0]
          rw [hm] at hn; exact hn
        clear hn
        go_wp2_with (go_at_call 30; refine (letter_any _ _ (by omega) (by omega)).mono ?_; rintro e w' ⟨rfl, rfl⟩)
        go_ret
        exact ⟨by rw [← Hn.out]; rfl, by rw [Hbb.out]; exact Hb.out⟩
  · have hke : k = s.size := by omega
    subst hke
    have Hn : Hid (s.size = lettersN s.data.toList) := by
      rw [List.drop_eq_nil_of_le (by simp)] at hn; exact hn
    clear hn
    go_wp2_with fail
    go_ret
    exact ⟨by rw [← Hn.out]; rfl, by rw [Hbb.out]; exact Hb.out⟩
end Go.Proofs.YtlekingcmikopaaGreatDoor
