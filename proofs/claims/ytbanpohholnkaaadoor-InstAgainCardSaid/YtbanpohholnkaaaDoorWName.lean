/-
  Walks: lex's letter, digit, inner, row; gradusref02's letter, digit. Conditions: none.
-/
import Derived.Test.YtbanpohholnkaaaDoorWSame
namespace Go.Proofs.YtbanpohholnkaaaDoor
open Go.RowKit

def letterN (n : Nat) : Bool := (decide (97 ≤ n) && decide (n ≤ 122)) || (decide (65 ≤ n) && decide (n ≤ 90)) || decide (n = 95)
def digitN (n : Nat) : Bool := decide (48 ≤ n) && decide (n ≤ 57)
def innerN (n : Nat) : Bool := letterN n || digitN n

set_option maxHeartbeats 400000 in
theorem xdigit_any (n : Nat) (w : World) : Calls Tryd.prog 102 #[.int .u8 n] w fun e w' => e = .returned (.bool (digitN n)) ∧ w = w' := by
  unfold digitN
  go_enter Tryd.func102, Tryd.ntmps102
  go_wp2
  all_goals go_ret
  all_goals refine ⟨ret_bool ?_, rfl⟩
  all_goals rw [Bool.eq_iff_iff]
  all_goals simp
  all_goals omega
set_option maxHeartbeats 400000 in
theorem rdigit_any (n : Nat) (w : World) : Calls Tryd.prog 89 #[.int .u8 n] w fun e w' => e = .returned (.bool (digitN n)) ∧ w = w' := by
  unfold digitN
  go_enter Tryd.func89, Tryd.ntmps89
  go_wp2
  all_goals go_ret
  all_goals refine ⟨ret_bool ?_, rfl⟩
  all_goals rw [Bool.eq_iff_iff]
  all_goals simp
  all_goals omega
set_option maxHeartbeats 400000 in
theorem xletter_any (n : Nat) (w : World) : Calls Tryd.prog 93 #[.int .u8 n] w fun e w' => e = .returned (.bool (letterN n)) ∧ w = w' := by
  unfold letterN
  go_enter Tryd.func93, Tryd.ntmps93
  go_wp2
  all_goals go_ret
  all_goals refine ⟨ret_bool ?_, rfl⟩
  all_goals rw [Bool.eq_iff_iff]
  all_goals simp
  all_goals omega
set_option maxHeartbeats 400000 in
theorem rletter_any (n : Nat) (w : World) : Calls Tryd.prog 90 #[.int .u8 n] w fun e w' => e = .returned (.bool (letterN n)) ∧ w = w' := by
  unfold letterN
  go_enter Tryd.func90, Tryd.ntmps90
  go_wp2
  all_goals go_ret
  all_goals refine ⟨ret_bool ?_, rfl⟩
  all_goals rw [Bool.eq_iff_iff]
  all_goals simp
  all_goals omega
set_option maxHeartbeats 400000 in
theorem xinner_any (n : Nat) (w : World) : Calls Tryd.prog 95 #[.int .u8 n] w fun e w' => e = .returned (.bool (innerN n)) ∧ w = w' := by
  unfold innerN
  have h1 := xletter_any n w
  have h2 := xdigit_any n w
  cases hl : letterN n with
  | true =>
    rw [hl] at h1
    go_enter Tryd.func95, Tryd.ntmps95
    go_wp2_with (go_at_call 93; refine h1.mono ?_; rintro e w' ⟨rfl, rfl⟩)
    go_ret
    exact ⟨rfl, rfl⟩
  | false =>
    rw [hl] at h1
    go_enter Tryd.func95, Tryd.ntmps95
    go_wp2_with (first | (go_at_call 93; refine h1.mono ?_; rintro e w' ⟨rfl, rfl⟩) | (go_at_call 102; refine h2.mono ?_; rintro e w' ⟨rfl, rfl⟩))
    go_ret
    exact ⟨rfl, rfl⟩
theorem byte_get {s : ByteArray} {i : Nat} (h : i < s.size) : s.data.toList[i]? = some (s[i]'h) := by
  have h' : i < s.data.toList.length := by simpa using h
  rw [List.getElem?_eq_getElem h']
  rfl
theorem all_stop {L : List UInt8} {i : Nat} {c : UInt8} {p : UInt8 → Bool} (h : L[i]? = some c) (hp : p c = false) : L.all p = false := by
  rw [List.all_eq_false]
  exact ⟨c, List.mem_of_getElem? h, by simp [hp]⟩
theorem all_next {L : List UInt8} {i : Nat} {c : UInt8} {p : UInt8 → Bool} (h : L[i]? = some c) (ha : (L.take i).all p = true) (hp : p c = true) : (L.take (i + 1)).all p = true := by
  rw [List.take_add_one, h]
  simp only [List.all_append, ha, Bool.true_and]
  simp [hp]
def RowA (w : World) (s : ByteArray) (k : Nat) (b : Value) (wr : World) : Prop :=
  ∃ i : Nat, b = .int .i64 i ∧ i ≤ s.size ∧ k = s.size - i ∧ (s.data.toList.take i).all (fun c => innerN c.toNat) = true ∧ w = wr
set_option maxHeartbeats 1000000 in
/-- row over inner: all of the text, just if each byte is inner. -/
theorem row_any (s : ByteArray) (hs : s.size ≤ 140737488355328) (w : World) : Calls Tryd.prog 94 #[.string s, .func (.func 95) #[] #[]] w fun e w' => ∃ z : Nat, e = .returned (.int .i64 z) ∧ z ≤ s.size ∧ (z = s.size ↔ s.data.toList.all (fun c => innerN c.toNat) = true) ∧ w = w' := by
  have h0 : Hid (RowA w s s.size (.int .i64 0) w) := ⟨0, rfl, Nat.zero_le _, rfl, by simp, rfl⟩
  go_enter Tryd.func94, Tryd.ntmps94
  go_wp2
  go_loopg [8] s.size (RowA w s)
  case atStart => exact h0.out
  case round =>
    clear h0
    obtain ⟨i, rfl, hi, rfl, ha, rfl⟩ := hrel
    by_cases hlt : i < s.size
    · have hin := xinner_any (s[i]'hlt).toNat w
      cases hv : innerN (s[i]'hlt).toNat with
      | true =>
        rw [hv] at hin
        have HC := Lib.hid (all_next (p := fun c => innerN c.toNat) (byte_get hlt) ha hv)
        clear ha hv
        go_wp2_with (go_at_call 95; refine hin.mono ?_; rintro e w' ⟨rfl, rfl⟩)
        go_roundg (s.size - (i + 1))
        case measure => omega
        case rel => exact ⟨i + 1, by go_num, by omega, rfl, HC.out, rfl⟩
      | false =>
        rw [hv] at hin
        have HC := Lib.hid (all_stop (p := fun c => innerN c.toNat) (byte_get hlt) hv)
        clear ha hv
        go_wp2_with (go_at_call 95; refine hin.mono ?_; rintro e w' ⟨rfl, rfl⟩)
        go_ret
        exact ⟨i, rfl, by omega, ⟨fun h => by omega, fun h => by rw [HC.out] at h; cases h⟩, rfl⟩
    · have hie : i = s.size := by omega
      subst hie
      rw [List.take_of_length_le (by simp)] at ha
      have HC := Lib.hid ha
      clear ha
      go_wp2_with fail
      go_ret
      exact ⟨s.size, rfl, Nat.le_refl _, ⟨fun _ => HC.out, fun _ => rfl⟩, rfl⟩
end Go.Proofs.YtbanpohholnkaaaDoor
