/-
  Walks: gradusref02's Words, word, Name. Conditions: none.
-/
import Derived.Test.YtomhhpjpmlpijaaDoorWRSame
import Derived.Test.YtomhhpjpmlpijaaDoorNorm
namespace Go.Proofs.YtomhhpjpmlpijaaDoor
open Go.RowKit

set_option maxHeartbeats 1000000 in
set_option maxRecDepth 100000 in
theorem rWords_any (w : World) : Calls Tryd.prog 78 #[] w fun e w' => e = .returned (.slice (some ⟨w.heap.size, 0, none⟩) 25 25) ∧ w' = w.alloc (.cells (strs wordsL).toArray 9) := by
  go_enter Tryd.func78, Tryd.ntmps78
  go_wp2_with fail
  go_ret
  exact ⟨rfl, rfl⟩
def WdA (w : World) (s : ByteArray) (k : Nat) (b : Value) (wr : World) : Prop :=
  ∃ i : Nat, b = .int .i64 i ∧ i ≤ 25 ∧ k = 25 - i ∧ (∀ x ∈ wordsL.take i, x ≠ s) ∧ w = wr
set_option maxHeartbeats 1000000 in
set_option maxRecDepth 100000 in
theorem word_any (s : ByteArray) (w : World) : Calls Tryd.prog 60 #[.string s] w fun e w' => e = .returned (.bool (hasS s wordsL)) ∧ Keep (fun _ => False) w w' := by
  have hw := rWords_any w
  have hA := At.new w 9 (strs wordsL).toArray
  have hk : Keep (fun _ => False) w (w.alloc (.cells (strs wordsL).toArray 9)) := (Keep.refl _ w).alloc _
  have H := Lib.hid (And.intro hA hk)
  have hl : wordsL.length = 25 := rfl
  clear hA hk
  generalize wordsL = L at *
  have HL := Lib.hid hl
  clear hl
  generalize (w.alloc (.cells (strs L).toArray 9)) = w1 at *
  generalize w.heap.size = bx at *
  go_enter Tryd.func60, Tryd.ntmps60
  go_wp2_with (go_at_call 78; refine hw.mono ?_; rintro e w2 ⟨rfl, hww⟩; obtain rfl : w1 = w2 := hww.symm)
  have h0 : Hid (∃ i : Nat, (Value.int .i64 0) = .int .i64 i ∧ i ≤ 25 ∧ 25 = 25 - i ∧ (∀ x ∈ L.take i, x ≠ s) ∧ w1 = w1) := ⟨0, rfl, Nat.zero_le _, rfl, by simp, rfl⟩
  go_loopg [4] 25 (fun k b wr => ∃ i : Nat, b = .int .i64 i ∧ i ≤ 25 ∧ k = 25 - i ∧ (∀ x ∈ L.take i, x ≠ s) ∧ w1 = wr)
  case atStart => exact h0.out
  case round =>
    clear h0
    obtain ⟨i, rfl, hi, rfl, ht, rfl⟩ := hrel
    have hbl := H.out.1.lt
    by_cases hlt : i < 25
    · obtain ⟨x, hx⟩ : ∃ x, L[i]? = some x := ⟨_, List.getElem?_eq_getElem (by have := HL.out; omega)⟩
      have c0 := H.out.1.cell i
      rw [show (strs L).toArray[i]? = some (.string x) by simp [strs, hx]] at c0
      have HX := Lib.hid (And.intro ht hx)
      clear ht hx
      by_cases he : x = s
      · subst he
        have hd := str_beq x
        have hyes : hasS x L = true := hasS_iff.2 (List.mem_of_getElem? HX.out.2)
        have HY := Lib.hid hyes
        clear hyes
        go_wp2_with fail
        go_ret
        exact ⟨ret_bool HY.out.symm, H.out.2⟩
      · have hd := str_bne he
        go_wp2_with fail
        go_roundg (25 - (i + 1))
        case measure => omega
        case rel =>
          refine ⟨i + 1, by go_num, by omega, rfl, fun y hy => ?_, rfl⟩
          rw [List.take_add_one, HX.out.2] at hy
          rcases List.mem_append.1 hy with hy | hy
          · exact HX.out.1 y hy
          · have : y = x := by simpa using hy
            subst this
            exact he
    · have hno : hasS s L = false := by
        cases h' : hasS s L with
        | false => rfl
        | true =>
          have := hasS_iff.1 h'
          rw [List.take_of_length_le (by have := HL.out; omega)] at ht
          exact absurd rfl (ht s this)
      have HY := Lib.hid hno
      clear hno ht
      go_wp2_with fail
      go_ret
      exact ⟨ret_bool HY.out.symm, H.out.2⟩
theorem letter_digit (n : Nat) (h : letterN n = true) : digitN n = false := by
  unfold letterN at h
  unfold digitN
  simp only [Bool.or_eq_true, Bool.and_eq_true, decide_eq_true_eq] at h
  cases h1 : decide (48 ≤ n) && decide (n ≤ 57) with
  | false => rfl
  | true =>
    simp only [Bool.and_eq_true, decide_eq_true_eq] at h1
    omega
theorem nameB_ref (s : ByteArray) (hpos : 0 < s.size) : nameB s = (decide (s.size ≤ 32) && (!hasS s wordsL && (!digitN (s[0]'hpos).toNat && s.data.toList.all (fun c => innerN c.toNat)))) := by
  have h0 := byte_get hpos
  unfold nameB
  cases hl : s.data.toList with
  | nil => rw [hl] at h0; simp at h0
  | cons c l =>
    rw [hl] at h0
    simp only [List.getElem?_cons_zero, Option.some.injEq] at h0
    subst h0
    simp only [List.all_cons]
    cases hc : letterN (s[0]'hpos).toNat with
    | true =>
      rw [letter_digit _ hc]
      cases decide (s.size ≤ 32) <;> cases hasS s wordsL <;> simp
    | false =>
      unfold innerN
      rw [hc]
      cases digitN (s[0]'hpos).toNat <;> cases decide (s.size ≤ 32) <;> cases hasS s wordsL <;> simp
def NaA (w : World) (s : ByteArray) (k : Nat) (b : Value) (wr : World) : Prop :=
  ∃ i : Nat, b = .int .i64 i ∧ i ≤ s.size ∧ k = s.size - i ∧ (s.data.toList.take i).all (fun c => innerN c.toNat) = true ∧ w = wr
set_option maxHeartbeats 2000000 in
set_option maxRecDepth 100000 in
theorem rName_any (s : ByteArray) (w : World) : Calls Tryd.prog 47 #[.string s] w fun e w' => e = .returned (.bool (nameB s)) ∧ Keep (fun _ => False) w w' := by
  have hw := word_any s w
  by_cases h0 : s.size = 0
  · have e : nameB s = false := by
      unfold nameB
      have : s.data.toList = [] := by
        apply List.eq_nil_of_length_eq_zero
        simpa using h0
      rw [this]
    rw [e]
    have d0 : ((s.size : Int) == 0) = true := by rw [beq_iff_eq]; omega
    clear e h0
    cases hasS s wordsL
    all_goals
      go_enter Tryd.func47, Tryd.ntmps47
      go_wp2_with (go_at_call 60; refine hw.mono ?_; rintro e w' ⟨rfl, hk⟩; have HK := Lib.hid hk; clear hk hw)
      go_ret
      exact ⟨rfl, HK.out⟩
  · have hpos : 0 < s.size := by omega
    have d0 : ((s.size : Int) == 0) = false := by rw [beq_eq_false_iff_ne]; omega
    rw [nameB_ref s hpos]
    generalize hwd : hasS s wordsL = wd at *
    generalize hall : s.data.toList.all (fun c => innerN c.toNat) = al at *
    have HA := Lib.hid hall
    clear hwd hall h0
    by_cases h32 : s.size ≤ 32
    · have d32 : decide (32 < (s.size : Int)) = false := by simp; omega
      have d32' : decide (32 < s.size) = false := by simp; omega
      have d32'' : decide (s.size ≤ 32) = true := by simpa using h32
      rw [d32'', Bool.true_and]
      cases wd with
      | true =>
        clear d32''
        go_enter Tryd.func47, Tryd.ntmps47
        go_wp2_with (go_at_call 60; refine hw.mono ?_; rintro e w' ⟨rfl, hk⟩; have HK := Lib.hid hk; clear hk hw)
        go_ret
        exact ⟨rfl, HK.out⟩
      | false =>
        rw [Bool.not_false, Bool.true_and]
        have hdg := fun w => rdigit_any (s[0]'hpos).toNat w
        have HDG := Lib.hid hdg
        clear hdg
        cases hd : digitN (s[0]'hpos).toNat with
        | true =>
          rw [hd] at HDG
          clear d32'' hd
          rw [Bool.not_true, Bool.false_and]
          go_enter Tryd.func47, Tryd.ntmps47
          go_wp2_with (first | (go_at_call 60; refine hw.mono ?_; rintro e w' ⟨rfl, hk⟩; have HK := Lib.hid hk; clear hk hw) | (go_at_call 61; refine (HDG.out _).mono ?_; rintro e w' ⟨rfl, rfl⟩))
          go_ret
          exact ⟨rfl, HK.out⟩
        | false =>
          rw [hd] at HDG
          clear d32'' hd
          rw [Bool.not_false, Bool.true_and]
          go_enter Tryd.func47, Tryd.ntmps47
          go_wp2_with (first | (go_at_call 60; refine hw.mono ?_; rintro e w1 ⟨rfl, hk⟩; have HK := Lib.hid hk; clear hk hw) | (go_at_call 61; refine (HDG.out _).mono ?_; rintro e w' ⟨rfl, rfl⟩))
          have h0 : Hid (NaA w1 s s.size (.int .i64 0) w1) := ⟨0, rfl, Nat.zero_le _, rfl, by simp, rfl⟩
          clear HDG
          go_loopg [4] s.size (NaA w1 s)
          case atStart => exact h0.out
          case round =>
            clear h0
            obtain ⟨i, rfl, hi, rfl, ha, rfl⟩ := hrel
            by_cases hlt : i < s.size
            · have hin := rletter_any (s[i]'hlt).toNat w1
              have hin2 := rdigit_any (s[i]'hlt).toNat w1
              cases hv : innerN (s[i]'hlt).toNat with
              | true =>
                have HC := Lib.hid (all_next (p := fun c => innerN c.toNat) (byte_get hlt) ha hv)
                unfold innerN at hv
                clear ha
                cases hl : letterN (s[i]'hlt).toNat with
                | true =>
                  rw [hl] at hin
                  clear hl hv
                  go_wp2_with (first | (go_at_call 62; refine hin.mono ?_; rintro e w' ⟨rfl, rfl⟩) | (go_at_call 61; refine hin2.mono ?_; rintro e w' ⟨rfl, rfl⟩))
                  go_roundg (s.size - (i + 1))
                  case measure => omega
                  case rel => exact ⟨i + 1, by go_num, by omega, rfl, HC.out, rfl⟩
                | false =>
                  rw [hl, Bool.false_or] at hv
                  rw [hl] at hin
                  rw [hv] at hin2
                  clear hl hv
                  go_wp2_with (first | (go_at_call 62; refine hin.mono ?_; rintro e w' ⟨rfl, rfl⟩) | (go_at_call 61; refine hin2.mono ?_; rintro e w' ⟨rfl, rfl⟩))
                  go_roundg (s.size - (i + 1))
                  case measure => omega
                  case rel => exact ⟨i + 1, by go_num, by omega, rfl, HC.out, rfl⟩
              | false =>
                have HC := Lib.hid (all_stop (p := fun c => innerN c.toNat) (byte_get hlt) hv)
                unfold innerN at hv
                rw [Bool.or_eq_false_iff] at hv
                rw [hv.1] at hin
                rw [hv.2] at hin2
                clear ha hv
                go_wp2_with (first | (go_at_call 62; refine hin.mono ?_; rintro e w' ⟨rfl, rfl⟩) | (go_at_call 61; refine hin2.mono ?_; rintro e w' ⟨rfl, rfl⟩))
                go_ret
                exact ⟨ret_bool (by rw [← HA.out, HC.out]), HK.out⟩
            · have hie : i = s.size := by omega
              subst hie
              rw [List.take_of_length_le (by simp)] at ha
              have HC := Lib.hid ha
              clear ha
              go_wp2_with fail
              go_ret
              exact ⟨ret_bool (by rw [← HA.out, HC.out]), HK.out⟩
    · have d32 : decide (32 < (s.size : Int)) = true := by simp; omega
      have d32' : decide (32 < s.size) = true := by simp; omega
      have d32'' : decide (s.size ≤ 32) = false := by simpa using h32
      rw [d32'', Bool.false_and]
      clear d32''
      cases wd
      all_goals
        go_enter Tryd.func47, Tryd.ntmps47
        go_wp2_with (go_at_call 60; refine hw.mono ?_; rintro e w' ⟨rfl, hk⟩; have HK := Lib.hid hk; clear hk hw)
        go_ret
        exact ⟨rfl, HK.out⟩
end Go.Proofs.YtomhhpjpmlpijaaDoor
