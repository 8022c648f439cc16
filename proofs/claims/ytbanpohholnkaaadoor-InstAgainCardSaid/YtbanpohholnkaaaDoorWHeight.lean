/-
  Walks: types.height, Height; graduslaw03.small. Conditions: none beyond what each says.
-/
import Derived.Test.YtbanpohholnkaaaDoorWSize
namespace Go.Proofs.YtbanpohholnkaaaDoor
open Go.RowKit

def HtA (w : World) (ks : List Ty) (m : Nat) (k : Nat) (a b : Value) (wr : World) : Prop :=
  ∃ i h : Nat, b = .int .i64 i ∧ a = .int .i64 h ∧ i ≤ ks.length ∧ k = ks.length - i ∧ h = min (htL (ks.take i)) m ∧ Keep (fun _ => False) w wr
set_option maxHeartbeats 2000000 in
theorem height_any {X : Nat → Prop} (t : Ty) : ∀ (w : World) (r : Tv) (m : Nat), 1 ≤ m → m ≤ 17 → TyV w X r t →
    Calls Tryd.prog 62 #[r.val, .int .i64 m] w fun e w' => e = .returned (.int .i64 (min t.ht m : Nat)) ∧ Keep (fun _ => False) w w' := by
  induction t using Ty.ind with
  | h t ih =>
    intro w r m hm1 hm17 h
    have hnk : r.nk = t.kids.length := by obtain ⟨_, _, _, _, rs, h5, _⟩ := h.out; exact h5
    have hkb : t.kids.length ≤ 140737488355328 := by rw [← hnk]; exact h.out.1.2.2
    have HH := Lib.hid (And.intro h ih)
    obtain ⟨k, nm, An, nn, cn, Ak, nk, ck⟩ := r
    simp only at hnk
    subst hnk
    unfold Tv.val
    simp only
    have h0 : Hid (HtA w t.kids (m - 1) t.kids.length (.int .i64 0) (.int .i64 0) (w.alloc (.cells #[.int .i64 k, .string nm, .slice An nn cn, .slice Ak t.kids.length ck] 25))) := ⟨0, 0, rfl, rfl, Nat.zero_le _, rfl, by simp [htL], (Keep.refl _ w).alloc _⟩
    clear h ih
    by_cases hm : m = 1
    · subst hm
      have hr : min t.ht 1 = 1 := by have := t.ht_pos; omega
      rw [hr]
      clear h0 hr hm1 hm17
      go_enter Tryd.func62, Tryd.ntmps62
      go_wp2
      go_ret
      exact ⟨rfl, (Keep.refl _ w).alloc _⟩
    · have d1 : ((m : Int) == 1) = false := by rw [beq_eq_false_iff_ne]; omega
      go_enter Tryd.func62, Tryd.ntmps62
      go_wp2
      go_loopg [5, 13] t.kids.length (HtA w t.kids (m - 1))
      case atStart => exact h0.out
      case round =>
        clear h0
        obtain ⟨i, hh, rfl, rfl, hi, rfl, hs, hk⟩ := hrel
        by_cases hlt : i < t.kids.length
        · obtain ⟨kd, q, b, o, hkd, hq, rfl, hb, _, c0, c1, c2, c3⟩ := (HH.out.1.step hk).kid (i := i) hlt
          have HI := HH.out.2 kd (Ty.kid_lt (List.mem_of_getElem? hkd))
          have hc := HI (wr.alloc (.cells #[.int .i64 q.k, .string q.nm, .slice q.An q.nn q.cn, .slice q.Ak q.nk q.ck] 25)) q (m - 1) (by omega) (by omega) (hq.step ((Keep.refl _ wr).alloc _))
          rw [show ((m - 1 : Nat) : Int) = (m : Int) - 1 by omega] at hc
          unfold Tv.val at hc
          obtain ⟨z, hz⟩ : ∃ z, min kd.ht (m - 1) = z := ⟨_, rfl⟩
          rw [hz] at hc
          have HS := Lib.hid (And.intro hs (And.intro hk (And.intro hkd hz)))
          clear hs hk hkd hq HI hz
          go_wp2_with (go_at_call 62; refine hc.mono ?_; rintro e w' ⟨rfl, hk⟩; have HK := Lib.hid hk; clear hk hc)
          all_goals go_roundg (t.kids.length - (i + 1))
          all_goals first
            | omega
            | (obtain ⟨hs, hk, hkd, hz⟩ := HS.out
               refine ⟨i + 1, _, by go_num, rfl, by omega, rfl, ?_, (hk.alloc _).trans HK.out (fun _ _ x => x)⟩
               rw [htL_ge _ _ _ hkd]
               omega)
        · have hmm : min t.ht m = hh + 1 := by
            rw [List.take_of_length_le (by omega)] at hs
            have := t.ht_eq
            omega
          have hh17 : hh ≤ 17 := by omega
          have HM := Lib.hid hmm
          clear hmm hs
          have HS := Lib.hid hk
          clear hk
          go_wp2
          go_ret
          exact ⟨ret_int (by have := HM.out; omega), HS.out⟩
set_option maxHeartbeats 400000 in
theorem Height_any {X : Nat → Prop} {w : World} {r : Tv} {t : Ty} (h : TyV w X r t) :
    Calls Tryd.prog 40 #[r.val] w fun e w' => e = .returned (.int .i64 (min t.ht 17 : Nat)) ∧ Keep (fun _ => False) w w' := by
  obtain ⟨k, nm, An, nn, cn, Ak, nk, ck⟩ := r
  have hc := height_any t (w.alloc (.cells #[.int .i64 k, .string nm, .slice An nn cn, .slice Ak nk ck] 25)) _ 17 (by omega) (by omega) (h.step ((Keep.refl _ w).alloc _))
  unfold Tv.val at hc ⊢
  simp only
  clear h
  go_enter Tryd.func40, Tryd.ntmps40
  go_wp2_with (go_at_call 62; refine hc.mono ?_; rintro e w' ⟨rfl, hk⟩; have HK := Lib.hid hk; clear hk hc)
  go_ret
  exact ⟨rfl, ((Keep.refl _ w).alloc _).trans HK.out (fun _ _ x => x)⟩

def SmA (w : World) (ks : List Ty) (M : Nat) (k : Nat) (a b : Value) (wr : World) : Prop :=
  ∃ i m : Nat, a = .int .i64 m ∧ b = .int .i64 i ∧ i ≤ ks.length ∧ k = ks.length - i ∧ m ≤ M ∧ Keep (fun _ => False) w wr
set_option maxHeartbeats 2000000 in
/-- small answers some number; not 0: few kids, few names. -/
theorem small_any {X : Nat → Prop} (t : Ty) : ∀ (w : World) (r : Tv) (m : Nat), 1 ≤ m → m ≤ 100000 → TyV w X r t →
    Calls Tryd.prog 32 #[r.val, .int .i64 m] w fun e w' => ∃ z : Nat, e = .returned (.int .i64 z) ∧ z ≤ m ∧ (z ≠ 0 → t.kids.length ≤ m ∧ t.names.length ≤ 1000) ∧ Keep (fun _ => False) w w' := by
  induction t using Ty.ind with
  | h t ih =>
    intro w r m hm1 hm h
    have hnk : r.nk = t.kids.length := by obtain ⟨_, _, _, _, rs, h5, _⟩ := h.out; exact h5
    have hkb : t.kids.length ≤ 140737488355328 := by rw [← hnk]; exact h.out.1.2.2
    have hnn : r.nn = t.names.length := h.out.2.2.1
    have HH := Lib.hid (And.intro h ih)
    obtain ⟨k, nm, An, nn, cn, Ak, nk, ck⟩ := r
    simp only at hnk hnn
    subst hnk
    subst hnn
    unfold Tv.val
    simp only
    clear h ih
    by_cases h1 : m < t.kids.length
    · have d1 : decide ((m : Int) < (t.kids.length : Int)) = true := by simp; omega
      have d1' : decide (m < t.kids.length) = true := by simp; omega
      go_enter Tryd.func32, Tryd.ntmps32
      go_wp2
      go_ret
      exact ⟨0, rfl, Nat.zero_le _, fun h => absurd rfl h, (Keep.refl _ w).alloc _⟩
    · have d1 : decide ((m : Int) < (t.kids.length : Int)) = false := by simp; omega
      have d1' : decide (m < t.kids.length) = false := by simp; omega
      by_cases h2 : 1000 < t.names.length
      · have d2 : decide (1000 < (t.names.length : Int)) = true := by simp; omega
        have d2' : decide (1000 < t.names.length) = true := by simp; omega
        go_enter Tryd.func32, Tryd.ntmps32
        go_wp2
        go_ret
        exact ⟨0, rfl, Nat.zero_le _, fun h => absurd rfl h, (Keep.refl _ w).alloc _⟩
      · have d2 : decide (1000 < (t.names.length : Int)) = false := by simp; omega
        have d2' : decide (1000 < t.names.length) = false := by simp; omega
        obtain ⟨M, rfl⟩ : ∃ M, m = M + 1 := ⟨m - 1, by omega⟩
        have a0 : At (w.alloc (.cells #[.int .i64 k, .string nm, .slice An t.names.length cn, .slice Ak t.kids.length ck] 25)) w.heap.size 25 #[.int .i64 k, .string nm, .slice An t.names.length cn, .slice Ak t.kids.length ck] := At.new _ _ _
        have hk0 : Keep (fun _ => False) w (w.alloc (.cells #[.int .i64 k, .string nm, .slice An t.names.length cn, .slice Ak t.kids.length ck] 25)) := (Keep.refl _ w).alloc _
        go_enter Tryd.func32, Tryd.ntmps32
        go_wp2
        have HH' := Lib.hid (And.intro (HH.out.1.step hk0) HH.out.2)
        clear HH
        generalize (w.alloc (.cells #[.int .i64 k, .string nm, .slice An t.names.length cn, .slice Ak t.kids.length ck] 25)) = w1 at *
        generalize w.heap.size = bx at *
        have h0 : Hid (SmA w1 t.kids M t.kids.length (.int .i64 M) (.int .i64 0) w1) := ⟨0, M, rfl, rfl, Nat.zero_le _, rfl, Nat.le_refl _, Keep.refl _ _⟩
        have H0 := Lib.hid (And.intro a0 hk0)
        clear a0 hk0
        go_loopg [1, 5] t.kids.length (SmA w1 t.kids M)
        case atStart => exact h0.out
        case round =>
          clear h0
          obtain ⟨i, m, rfl, rfl, hi, rfl, hmM, hk⟩ := hrel
          have x3 := (hk.at_ H0.out.1 (fun x => x)).cell 3
          have hbx := (hk.at_ H0.out.1 (fun x => x)).lt
          simp only [List.getElem?_toArray, List.getElem?_cons_succ, List.getElem?_cons_zero] at x3
          by_cases hlt : i < t.kids.length
          · have e1 : decide ((i : Int) < (t.kids.length : Int)) = true := by simp; omega
            have e1' : decide (i < t.kids.length) = true := by simp; omega
            by_cases hm0 : 0 < m
            · have e2 : decide (0 < (m : Int)) = true := by simp; omega
              have e2' : decide (0 < m) = true := by simp; omega
              obtain ⟨kd, q, b, o, hkd, hq, rfl, hb, _, c0, c1, c2, c3⟩ := (HH'.out.1.step hk).kid (i := i) hlt
              have hc := HH'.out.2 kd (Ty.kid_lt (List.mem_of_getElem? hkd)) wr q m hm0 (by omega) hq
              unfold Tv.val at hc
              have HK := Lib.hid hk
              clear hk hq hkd
              go_wp2_with (go_at_call 32; refine hc.mono ?_; rintro e w' ⟨z, rfl, hz, _, hk⟩; have HK2 := Lib.hid hk; clear hk hc)
              go_roundg (t.kids.length - (i + 1))
              case measure => omega
              case rel => exact ⟨i + 1, z, rfl, by go_num, by omega, rfl, by omega, HK.out.trans HK2.out (fun _ _ x => x)⟩
            · have e2 : decide (0 < (m : Int)) = false := by simp; omega
              have e2' : decide (0 < m) = false := by simp; omega
              have HK := Lib.hid hk
              clear hk
              go_wp2_with fail
              go_ret
              exact ⟨m, rfl, by omega, fun _ => by omega, H0.out.2.trans HK.out (fun _ _ x => x)⟩
          · have e1 : decide ((i : Int) < (t.kids.length : Int)) = false := by simp; omega
            have e1' : decide (i < t.kids.length) = false := by simp; omega
            have HK := Lib.hid hk
            clear hk
            go_wp2_with fail
            go_ret
            exact ⟨m, rfl, by omega, fun _ => by omega, H0.out.2.trans HK.out (fun _ _ x => x)⟩
end Go.Proofs.YtbanpohholnkaaaDoor
