/-
  Walks: gradusref03's many, Size, high, Height, Tag. Conditions: none.
-/
import Derived.Test.YtomhhpjpmlpijaaDoorWHeight
namespace Go.Proofs.YtomhhpjpmlpijaaDoor
open Go.RowKit

def RmA (w : World) (ks : List Ty) (m : Nat) (k : Nat) (a b : Value) (wr : World) : Prop :=
  ∃ i n : Nat, a = .int .i64 n ∧ b = .int .i64 i ∧ i ≤ ks.length ∧ k = ks.length - i ∧ n = min (1 + sizeL (ks.take i)) m ∧ Keep (fun _ => False) w wr
set_option maxHeartbeats 2000000 in
theorem many_any {X : Nat → Prop} (t : Ty) : ∀ (w : World) (r : Tv) (m : Nat), 1 ≤ m → m ≤ 201 → TyV w X r t →
    Calls Tryd.prog 27 #[r.val, .int .i64 m] w fun e w' => e = .returned (.int .i64 (min t.size m : Nat)) ∧ Keep (fun _ => False) w w' := by
  induction t using Ty.ind with
  | h t ih =>
    intro w r m hm1 hm h
    have hnk : r.nk = t.kids.length := by obtain ⟨_, _, _, _, rs, h5, _⟩ := h.out; exact h5
    have hkb : t.kids.length ≤ 140737488355328 := by rw [← hnk]; exact h.out.1.2.2
    have HH := Lib.hid (And.intro h ih)
    obtain ⟨k, nm, An, nn, cn, Ak, nk, ck⟩ := r
    simp only at hnk
    subst hnk
    unfold Tv.val
    simp only
    clear h ih
    have a0 : At (w.alloc (.cells #[.int .i64 k, .string nm, .slice An nn cn, .slice Ak t.kids.length ck] 25)) w.heap.size 25 #[.int .i64 k, .string nm, .slice An nn cn, .slice Ak t.kids.length ck] := At.new _ _ _
    have hk0 : Keep (fun _ => False) w (w.alloc (.cells #[.int .i64 k, .string nm, .slice An nn cn, .slice Ak t.kids.length ck] 25)) := (Keep.refl _ w).alloc _
    go_enter Tryd.func27, Tryd.ntmps27
    go_wp2
    have HH' := Lib.hid (And.intro (HH.out.1.step hk0) HH.out.2)
    clear HH
    generalize (w.alloc (.cells #[.int .i64 k, .string nm, .slice An nn cn, .slice Ak t.kids.length ck] 25)) = w1 at *
    generalize w.heap.size = bx at *
    have h0 : Hid (RmA w1 t.kids m t.kids.length (.int .i64 1) (.int .i64 0) w1) := ⟨0, 1, rfl, rfl, Nat.zero_le _, rfl, by simp only [List.take_zero, sizeL]; omega, Keep.refl _ _⟩
    have H0 := Lib.hid (And.intro a0 hk0)
    clear a0 hk0
    go_loopg [5, 6] t.kids.length (RmA w1 t.kids m)
    case atStart => exact h0.out
    case round =>
      clear h0
      obtain ⟨i, n, rfl, rfl, hi, rfl, hn, hk⟩ := hrel
      have x3 := (hk.at_ H0.out.1 (fun x => x)).cell 3
      have hbx := (hk.at_ H0.out.1 (fun x => x)).lt
      have hnm : n ≤ m := by omega
      have HN := Lib.hid hn
      clear hn
      simp only [List.getElem?_toArray, List.getElem?_cons_succ, List.getElem?_cons_zero] at x3
      by_cases hlt : i < t.kids.length
      · have e1 : decide ((i : Int) < (t.kids.length : Int)) = true := by simp; omega
        have e1' : decide (i < t.kids.length) = true := by simp; omega
        by_cases hm0 : n < m
        · have e2 : decide ((n : Int) < (m : Int)) = true := by simp; omega
          have e2' : decide (n < m) = true := by simp; omega
          obtain ⟨kd, q, b, o, hkd, hq, rfl, hb, _, c0, c1, c2, c3⟩ := (HH'.out.1.step hk).kid (i := i) hlt
          have hc := HH'.out.2 kd (Ty.kid_lt (List.mem_of_getElem? hkd)) wr q (m - n) (by omega) (by omega) hq
          rw [show ((m - n : Nat) : Int) = (m : Int) - (n : Int) by omega] at hc
          unfold Tv.val at hc
          obtain ⟨z, hz⟩ : ∃ z, min kd.size (m - n) = z := ⟨_, rfl⟩
          rw [hz] at hc
          have hz1 : z ≤ m := by omega
          have HK := Lib.hid (And.intro hk (And.intro hkd hz))
          clear hk hq hkd hz
          go_wp2_with (go_at_call 27; refine hc.mono ?_; rintro e w' ⟨rfl, hk⟩; have HK2 := Lib.hid hk; clear hk hc)
          go_roundg (t.kids.length - (i + 1))
          case measure => omega
          case rel =>
            obtain ⟨hk, hkd, hz⟩ := HK.out
            have hn := HN.out
            refine ⟨i + 1, n + z, by go_num, by go_num, by omega, rfl, ?_, hk.trans HK2.out (fun _ _ x => x)⟩
            rw [sizeL_take _ _ _ hkd]
            omega
        · have e2 : decide ((n : Int) < (m : Int)) = false := by simp; omega
          have e2' : decide (n < m) = false := by simp; omega
          have HK := Lib.hid hk
          have hres : min t.size m = n := by
            have h1 := HN.out
            have h2 := sizeL_le t.kids i
            have := t.size_eq
            omega
          have HM := Lib.hid hres
          clear hk hres
          go_wp2_with fail
          go_ret
          exact ⟨ret_int (by have := HM.out; omega), H0.out.2.trans HK.out (fun _ _ x => x)⟩
      · have e1 : decide ((i : Int) < (t.kids.length : Int)) = false := by simp; omega
        have e1' : decide (i < t.kids.length) = false := by simp; omega
        have HK := Lib.hid hk
        have hres : min t.size m = n := by
          have h1 := HN.out
          rw [List.take_of_length_le (by omega)] at h1
          have := t.size_eq
          omega
        have HM := Lib.hid hres
        clear hk hres
        go_wp2_with fail
        go_ret
        exact ⟨ret_int (by have := HM.out; omega), H0.out.2.trans HK.out (fun _ _ x => x)⟩
set_option maxHeartbeats 400000 in
theorem rSize_any {X : Nat → Prop} {w : World} {r : Tv} {t : Ty} (h : TyV w X r t) :
    Calls Tryd.prog 17 #[r.val] w fun e w' => e = .returned (.int .i64 (min t.size 201 : Nat)) ∧ Keep (fun _ => False) w w' := by
  obtain ⟨k, nm, An, nn, cn, Ak, nk, ck⟩ := r
  have hc := many_any t (w.alloc (.cells #[.int .i64 k, .string nm, .slice An nn cn, .slice Ak nk ck] 25)) _ 201 (by omega) (by omega) (h.step ((Keep.refl _ w).alloc _))
  unfold Tv.val at hc ⊢
  simp only
  clear h
  go_enter Tryd.func17, Tryd.ntmps17
  go_wp2_with (go_at_call 27; refine hc.mono ?_; rintro e w' ⟨rfl, hk⟩; have HK := Lib.hid hk; clear hk hc)
  go_ret
  exact ⟨rfl, ((Keep.refl _ w).alloc _).trans HK.out (fun _ _ x => x)⟩

def RhA (w : World) (ks : List Ty) (m : Nat) (k : Nat) (a b : Value) (wr : World) : Prop :=
  ∃ i h : Nat, a = .int .i64 h ∧ b = .int .i64 i ∧ i ≤ ks.length ∧ k = ks.length - i ∧ h = min (htL (ks.take i)) m ∧ Keep (fun _ => False) w wr
set_option maxHeartbeats 2000000 in
theorem high_any {X : Nat → Prop} (t : Ty) : ∀ (w : World) (r : Tv) (m : Nat), 1 ≤ m → m ≤ 17 → TyV w X r t →
    Calls Tryd.prog 29 #[r.val, .int .i64 m] w fun e w' => e = .returned (.int .i64 (min t.ht m : Nat)) ∧ Keep (fun _ => False) w w' := by
  induction t using Ty.ind with
  | h t ih =>
    intro w r m hm1 hm17 h
    have hnk : r.nk = t.kids.length := by obtain ⟨_, _, _, _, rs, h5, _⟩ := h.out; exact h5
    have hkb : t.kids.length ≤ 140737488355328 := by rw [← hnk]; exact h.out.1.2.2
    have HH := Lib.hid (And.intro h ih)
    obtain ⟨k, nm, An, nn, cn, Ak, nk, ck⟩ := r
    simp only at hnk
    subst hnk
    unfold Tv.val
    simp only
    clear h ih
    by_cases hm : m = 1
    · subst hm
      have hr : min t.ht 1 = 1 := by have := t.ht_pos; omega
      rw [hr]
      clear hr hm1 hm17
      go_enter Tryd.func29, Tryd.ntmps29
      go_wp2
      go_ret
      exact ⟨rfl, (Keep.refl _ w).alloc _⟩
    · have d1 : decide ((m : Int) ≤ 1) = false := by simp; omega
      have a0 : At (w.alloc (.cells #[.int .i64 k, .string nm, .slice An nn cn, .slice Ak t.kids.length ck] 25)) w.heap.size 25 #[.int .i64 k, .string nm, .slice An nn cn, .slice Ak t.kids.length ck] := At.new _ _ _
      have hk0 : Keep (fun _ => False) w (w.alloc (.cells #[.int .i64 k, .string nm, .slice An nn cn, .slice Ak t.kids.length ck] 25)) := (Keep.refl _ w).alloc _
      go_enter Tryd.func29, Tryd.ntmps29
      go_wp2
      have HH' := Lib.hid (And.intro (HH.out.1.step hk0) HH.out.2)
      clear HH
      generalize (w.alloc (.cells #[.int .i64 k, .string nm, .slice An nn cn, .slice Ak t.kids.length ck] 25)) = w1 at *
      generalize w.heap.size = bx at *
      have h0 : Hid (RhA w1 t.kids (m - 1) t.kids.length (.int .i64 0) (.int .i64 0) w1) := ⟨0, 0, rfl, rfl, Nat.zero_le _, rfl, by simp [htL], Keep.refl _ _⟩
      have H0 := Lib.hid (And.intro a0 hk0)
      clear a0 hk0
      go_loopg [5, 6] t.kids.length (RhA w1 t.kids (m - 1))
      case atStart => exact h0.out
      case round =>
        clear h0
        obtain ⟨i, hh, rfl, rfl, hi, rfl, hs, hk⟩ := hrel
        have x3 := (hk.at_ H0.out.1 (fun x => x)).cell 3
        have hbx := (hk.at_ H0.out.1 (fun x => x)).lt
        simp only [List.getElem?_toArray, List.getElem?_cons_succ, List.getElem?_cons_zero] at x3
        by_cases hlt : i < t.kids.length
        · have e1 : decide ((i : Int) < (t.kids.length : Int)) = true := by simp; omega
          have e1' : decide (i < t.kids.length) = true := by simp; omega
          obtain ⟨kd, q, b, o, hkd, hq, rfl, hb, _, c0, c1, c2, c3⟩ := (HH'.out.1.step hk).kid (i := i) hlt
          have hc := HH'.out.2 kd (Ty.kid_lt (List.mem_of_getElem? hkd)) wr q (m - 1) (by omega) (by omega) hq
          rw [show ((m - 1 : Nat) : Int) = (m : Int) - 1 by omega] at hc
          unfold Tv.val at hc
          obtain ⟨z, hz⟩ : ∃ z, min kd.ht (m - 1) = z := ⟨_, rfl⟩
          rw [hz] at hc
          have hz17 : z ≤ 17 := by omega
          have hh17 : hh ≤ 17 := by omega
          have HS := Lib.hid (And.intro hs (And.intro hk (And.intro hkd hz)))
          clear hs hk hkd hq hz
          by_cases hgt : hh < z
          · have d3 : decide ((hh : Int) < (z : Int)) = true := by simp; omega
            have d3' : decide (hh < z) = true := by simp; omega
            go_wp2_with (go_at_call 29; refine hc.mono ?_; rintro e w' ⟨rfl, hk⟩; have HK := Lib.hid hk; clear hk hc)
            go_roundg (t.kids.length - (i + 1))
            case measure => omega
            case rel =>
              obtain ⟨hs, hk, hkd, hz⟩ := HS.out
              refine ⟨i + 1, z, rfl, by go_num, by omega, rfl, ?_, hk.trans HK.out (fun _ _ x => x)⟩
              rw [htL_ge _ _ _ hkd]
              omega
          · have d3 : decide ((hh : Int) < (z : Int)) = false := by simp; omega
            have d3' : decide (hh < z) = false := by simp; omega
            go_wp2_with (go_at_call 29; refine hc.mono ?_; rintro e w' ⟨rfl, hk⟩; have HK := Lib.hid hk; clear hk hc)
            go_roundg (t.kids.length - (i + 1))
            case measure => omega
            case rel =>
              obtain ⟨hs, hk, hkd, hz⟩ := HS.out
              refine ⟨i + 1, hh, rfl, by go_num, by omega, rfl, ?_, hk.trans HK.out (fun _ _ x => x)⟩
              rw [htL_ge _ _ _ hkd]
              omega
        · have e1 : decide ((i : Int) < (t.kids.length : Int)) = false := by simp; omega
          have e1' : decide (i < t.kids.length) = false := by simp; omega
          have hmm : min t.ht m = hh + 1 := by
            rw [List.take_of_length_le (by omega)] at hs
            have := t.ht_eq
            omega
          have hh17 : hh ≤ 17 := by omega
          have HM := Lib.hid (And.intro hmm hk)
          clear hmm hs hk
          go_wp2_with fail
          go_ret
          exact ⟨ret_int (by have := HM.out.1; omega), H0.out.2.trans HM.out.2 (fun _ _ x => x)⟩
set_option maxHeartbeats 400000 in
theorem rHeight_any {X : Nat → Prop} {w : World} {r : Tv} {t : Ty} (h : TyV w X r t) :
    Calls Tryd.prog 19 #[r.val] w fun e w' => e = .returned (.int .i64 (min t.ht 17 : Nat)) ∧ Keep (fun _ => False) w w' := by
  obtain ⟨k, nm, An, nn, cn, Ak, nk, ck⟩ := r
  have hc := high_any t (w.alloc (.cells #[.int .i64 k, .string nm, .slice An nn cn, .slice Ak nk ck] 25)) _ 17 (by omega) (by omega) (h.step ((Keep.refl _ w).alloc _))
  unfold Tv.val at hc ⊢
  simp only
  clear h
  go_enter Tryd.func19, Tryd.ntmps19
  go_wp2_with (go_at_call 29; refine hc.mono ?_; rintro e w' ⟨rfl, hk⟩; have HK := Lib.hid hk; clear hk hc)
  go_ret
  exact ⟨rfl, ((Keep.refl _ w).alloc _).trans HK.out (fun _ _ x => x)⟩
end Go.Proofs.YtomhhpjpmlpijaaDoor
