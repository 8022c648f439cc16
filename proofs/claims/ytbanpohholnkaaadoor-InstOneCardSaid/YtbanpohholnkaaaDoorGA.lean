/-
  Walk: gradusref03.Norm. Conditions: none beyond what it says.
-/
import Derived.Test.YtbanpohholnkaaaDoorWHeight
import Derived.Test.YtbanpohholnkaaaDoorWSame
import Derived.Test.YtbanpohholnkaaaDoorWords
import Derived.Deep.RegionHeld3
import Derived.Test.YtbanpohholnkaaaDoorNorm
import Derived.Test.YtbanpohholnkaaaDoorRec
import Derived.Test.YtbanpohholnkaaaDoorNormB
import Derived.Test.YtbanpohholnkaaaDoorPLaw
import Derived.Test.YtbanpohholnkaaaDoorWNormF
namespace Go.Proofs.YtbanpohholnkaaaDoor
open Go.RowKit

def RmA (w : World) (ks : List Ty) (m : Nat) (k : Nat) (a b : Value) (wr : World) : Prop :=
  ∃ i n : Nat, a = .int .i64 n ∧ b = .int .i64 i ∧ i ≤ ks.length ∧ k = ks.length - i ∧ n = min (1 + sizeL (ks.take i)) m ∧ Keep (fun _ => False) w wr
set_option maxHeartbeats 2000000 in
theorem many_any {X : Nat → Prop} (t : Ty) : ∀ (w : World) (r : Tv) (m : Nat), 1 ≤ m → m ≤ 201 → TyV w X r t →
    Calls Tryd.prog 65 #[r.val, .int .i64 m] w fun e w' => e = .returned (.int .i64 (min t.size m : Nat)) ∧ Keep (fun _ => False) w w' := by
  induction t using Ty.ind with
  | h t ih =>
    intro w r m hm1 hm h
    have hnk : r.nk = t.kids.length := by obtain ⟨_, _, _, _, rs, h5, _⟩ := h.out; exact h5
    have hkb : t.kids.length ≤ 140737488355328 := by rw [← hnk]; exact h.out.1.2.2
    have HH := Lib.hid (And.intro h ih)
    obtain ⟨k, nm, An, nn, cn, Ak, nk, ck⟩ := r
    simp only at hnk
    subst hnk
    unfold Tv.val
    simp only
    clear h ih
    have a0 : At (w.alloc (.cells #[.int .i64 k, .string nm, .slice An nn cn, .slice Ak t.kids.length ck] 25)) w.heap.size 25 #[.int .i64 k, .string nm, .slice An nn cn, .slice Ak t.kids.length ck] := At.new _ _ _
    have hk0 : Keep (fun _ => False) w (w.alloc (.cells #[.int .i64 k, .string nm, .slice An nn cn, .slice Ak t.kids.length ck] 25)) := (Keep.refl _ w).alloc _
    go_enter Tryd.func65, Tryd.ntmps65
    go_wp2
    have HH' := Lib.hid (And.intro (HH.out.1.step hk0) HH.out.2)
    clear HH
    generalize (w.alloc (.cells #[.int .i64 k, .string nm, .slice An nn cn, .slice Ak t.kids.length ck] 25)) = w1 at *
    generalize w.heap.size = bx at *
    have h0 : Hid (RmA w1 t.kids m t.kids.length (.int .i64 1) (.int .i64 0) w1) := ⟨0, 1, rfl, rfl, Nat.zero_le _, rfl, by simp only [List.take_zero, sizeL]; omega, Keep.refl _ _⟩
    have H0 := Lib.hid (And.intro a0 hk0)
    clear a0 hk0
    go_loopg [5, 6] t.kids.length (RmA w1 t.kids m)
    case atStart => exact h0.out
    case round =>
      clear h0
      obtain ⟨i, n, rfl, rfl, hi, rfl, hn, hk⟩ := hrel
      have x3 := (hk.at_ H0.out.1 (fun x => x)).cell 3
      have hbx := (hk.at_ H0.out.1 (fun x => x)).lt
      have hnm : n ≤ m := by omega
      have HN := Lib.hid hn
      clear hn
      simp only [List.getElem?_toArray, List.getElem?_cons_succ, List.getElem?_cons_zero] at x3
      by_cases hlt : i < t.kids.length
      · have e1 : decide ((i : Int) < (t.kids.length : Int)) = true := by simp; omega
        have e1' : decide (i < t.kids.length) = true := by simp; omega
        by_cases hm0 : n < m
        · have e2 : decide ((n : Int) < (m : Int)) = true := by simp; omega
          have e2' : decide (n < m) = true := by simp; omega
          obtain ⟨kd, q, b, o, hkd, hq, rfl, hb, _, c0, c1, c2, c3⟩ := (HH'.out.1.step hk).kid (i := i) hlt
          have hc := HH'.out.2 kd (Ty.kid_lt (List.mem_of_getElem? hkd)) wr q (m - n) (by omega) (by omega) hq
          rw [show ((m - n : Nat) : Int) = (m : Int) - (n : Int) by omega] at hc
          unfold Tv.val at hc
          obtain ⟨z, hz⟩ : ∃ z, min kd.size (m - n) = z := ⟨_, rfl⟩
          rw [hz] at hc
          have hz1 : z ≤ m := by omega
          have HK := Lib.hid (And.intro hk (And.intro hkd hz))
          clear hk hq hkd hz
          go_wp2_with (go_at_call 65; refine hc.mono ?_; rintro e w' ⟨rfl, hk⟩; have HK2 := Lib.hid hk; clear hk hc)
          go_roundg (t.kids.length - (i + 1))
          case measure => omega
          case rel =>
            obtain ⟨hk, hkd, hz⟩ := HK.out
            have hn := HN.out
            refine ⟨i + 1, n + z, by go_num, by go_num, by omega, rfl, ?_, hk.trans HK2.out (fun _ _ x => x)⟩
            rw [sizeL_take _ _ _ hkd]
            omega
        · have e2 : decide ((n : Int) < (m : Int)) = false := by simp; omega
          have e2' : decide (n < m) = false := by simp; omega
          have HK := Lib.hid hk
          have hres : min t.size m = n := by
            have h1 := HN.out
            have h2 := sizeL_le t.kids i
            have := t.size_eq
            omega
          have HM := Lib.hid hres
          clear hk hres
          go_wp2_with fail
          go_ret
          exact ⟨ret_int (by have := HM.out; omega), H0.out.2.trans HK.out (fun _ _ x => x)⟩
      · have e1 : decide ((i : Int) < (t.kids.length : Int)) = false := by simp; omega
        have e1' : decide (i < t.kids.length) = false := by simp; omega
        have HK := Lib.hid hk
        have hres : min t.size m = n := by
          have h1 := HN.out
          rw [List.take_of_length_le (by omega)] at h1
          have := t.size_eq
          omega
        have HM := Lib.hid hres
        clear hk hres
        go_wp2_with fail
        go_ret
        exact ⟨ret_int (by have := HM.out; omega), H0.out.2.trans HK.out (fun _ _ x => x)⟩
set_option maxHeartbeats 400000 in
theorem rSize_any {X : Nat → Prop} {w : World} {r : Tv} {t : Ty} (h : TyV w X r t) :
    Calls Tryd.prog 43 #[r.val] w fun e w' => e = .returned (.int .i64 (min t.size 201 : Nat)) ∧ Keep (fun _ => False) w w' := by
  obtain ⟨k, nm, An, nn, cn, Ak, nk, ck⟩ := r
  have hc := many_any t (w.alloc (.cells #[.int .i64 k, .string nm, .slice An nn cn, .slice Ak nk ck] 25)) _ 201 (by omega) (by omega) (h.step ((Keep.refl _ w).alloc _))
  unfold Tv.val at hc ⊢
  simp only
  clear h
  go_enter Tryd.func43, Tryd.ntmps43
  go_wp2_with (go_at_call 65; refine hc.mono ?_; rintro e w' ⟨rfl, hk⟩; have HK := Lib.hid hk; clear hk hc)
  go_ret
  exact ⟨rfl, ((Keep.refl _ w).alloc _).trans HK.out (fun _ _ x => x)⟩

def RhA (w : World) (ks : List Ty) (m : Nat) (k : Nat) (a b : Value) (wr : World) : Prop :=
  ∃ i h : Nat, a = .int .i64 h ∧ b = .int .i64 i ∧ i ≤ ks.length ∧ k = ks.length - i ∧ h = min (htL (ks.take i)) m ∧ Keep (fun _ => False) w wr
set_option maxHeartbeats 2000000 in
theorem high_any {X : Nat → Prop} (t : Ty) : ∀ (w : World) (r : Tv) (m : Nat), 1 ≤ m → m ≤ 17 → TyV w X r t →
    Calls Tryd.prog 66 #[r.val, .int .i64 m] w fun e w' => e = .returned (.int .i64 (min t.ht m : Nat)) ∧ Keep (fun _ => False) w w' := by
  induction t using Ty.ind with
  | h t ih =>
    intro w r m hm1 hm17 h
    have hnk : r.nk = t.kids.length := by obtain ⟨_, _, _, _, rs, h5, _⟩ := h.out; exact h5
    have hkb : t.kids.length ≤ 140737488355328 := by rw [← hnk]; exact h.out.1.2.2
    have HH := Lib.hid (And.intro h ih)
    obtain ⟨k, nm, An, nn, cn, Ak, nk, ck⟩ := r
    simp only at hnk
    subst hnk
    unfold Tv.val
    simp only
    clear h ih
    by_cases hm : m = 1
    · subst hm
      have hr : min t.ht 1 = 1 := by have := t.ht_pos; omega
      rw [hr]
      clear hr hm1 hm17
      go_enter Tryd.func66, Tryd.ntmps66
      go_wp2
      go_ret
      exact ⟨rfl, (Keep.refl _ w).alloc _⟩
    · have d1 : decide ((m : Int) ≤ 1) = false := by simp; omega
      have a0 : At (w.alloc (.cells #[.int .i64 k, .string nm, .slice An nn cn, .slice Ak t.kids.length ck] 25)) w.heap.size 25 #[.int .i64 k, .string nm, .slice An nn cn, .slice Ak t.kids.length ck] := At.new _ _ _
      have hk0 : Keep (fun _ => False) w (w.alloc (.cells #[.int .i64 k, .string nm, .slice An nn cn, .slice Ak t.kids.length ck] 25)) := (Keep.refl _ w).alloc _
      go_enter Tryd.func66, Tryd.ntmps66
      go_wp2
      have HH' := Lib.hid (And.intro (HH.out.1.step hk0) HH.out.2)
      clear HH
      generalize (w.alloc (.cells #[.int .i64 k, .string nm, .slice An nn cn, .slice Ak t.kids.length ck] 25)) = w1 at *
      generalize w.heap.size = bx at *
      have h0 : Hid (RhA w1 t.kids (m - 1) t.kids.length (.int .i64 0) (.int .i64 0) w1) := ⟨0, 0, rfl, rfl, Nat.zero_le _, rfl, by simp [htL], Keep.refl _ _⟩
      have H0 := Lib.hid (And.intro a0 hk0)
      clear a0 hk0
      go_loopg [5, 6] t.kids.length (RhA w1 t.kids (m - 1))
      case atStart => exact h0.out
      case round =>
        clear h0
        obtain ⟨i, hh, rfl, rfl, hi, rfl, hs, hk⟩ := hrel
        have x3 := (hk.at_ H0.out.1 (fun x => x)).cell 3
        have hbx := (hk.at_ H0.out.1 (fun x => x)).lt
        simp only [List.getElem?_toArray, List.getElem?_cons_succ, List.getElem?_cons_zero] at x3
        by_cases hlt : i < t.kids.length
        · have e1 : decide ((i : Int) < (t.kids.length : Int)) = true := by simp; omega
          have e1' : decide (i < t.kids.length) = true := by simp; omega
          obtain ⟨kd, q, b, o, hkd, hq, rfl, hb, _, c0, c1, c2, c3⟩ := (HH'.out.1.step hk).kid (i := i) hlt
          have hc := HH'.out.2 kd (Ty.kid_lt (List.mem_of_getElem? hkd)) wr q (m - 1) (by omega) (by omega) hq
          rw [show ((m - 1 : Nat) : Int) = (m : Int) - 1 by omega] at hc
          unfold Tv.val at hc
          obtain ⟨z, hz⟩ : ∃ z, min kd.ht (m - 1) = z := ⟨_, rfl⟩
          rw [hz] at hc
          have hz17 : z ≤ 17 := by omega
          have hh17 : hh ≤ 17 := by omega
          have HS := Lib.hid (And.intro hs (And.intro hk (And.intro hkd hz)))
          clear hs hk hkd hq hz
          by_cases hgt : hh < z
          · have d3 : decide ((hh : Int) < (z : Int)) = true := by simp; omega
            have d3' : decide (hh < z) = true := by simp; omega
            go_wp2_with (go_at_call 66; refine hc.mono ?_; rintro e w' ⟨rfl, hk⟩; have HK := Lib.hid hk; clear hk hc)
            go_roundg (t.kids.length - (i + 1))
            case measure => omega
            case rel =>
              obtain ⟨hs, hk, hkd, hz⟩ := HS.out
              refine ⟨i + 1, z, rfl, by go_num, by omega, rfl, ?_, hk.trans HK.out (fun _ _ x => x)⟩
              rw [htL_ge _ _ _ hkd]
              omega
          · have d3 : decide ((hh : Int) < (z : Int)) = false := by simp; omega
            have d3' : decide (hh < z) = false := by simp; omega
            go_wp2_with (go_at_call 66; refine hc.mono ?_; rintro e w' ⟨rfl, hk⟩; have HK := Lib.hid hk; clear hk hc)
            go_roundg (t.kids.length - (i + 1))
            case measure => omega
            case rel =>
              obtain ⟨hs, hk, hkd, hz⟩ := HS.out
              refine ⟨i + 1, hh, rfl, by go_num, by omega, rfl, ?_, hk.trans HK.out (fun _ _ x => x)⟩
              rw [htL_ge _ _ _ hkd]
              omega
        · have e1 : decide ((i : Int) < (t.kids.length : Int)) = false := by simp; omega
          have e1' : decide (i < t.kids.length) = false := by simp; omega
          have hmm : min t.ht m = hh + 1 := by
            rw [List.take_of_length_le (by omega)] at hs
            have := t.ht_eq
            omega
          have hh17 : hh ≤ 17 := by omega
          have HM := Lib.hid (And.intro hmm hk)
          clear hmm hs hk
          go_wp2_with fail
          go_ret
          exact ⟨ret_int (by have := HM.out.1; omega), H0.out.2.trans HM.out.2 (fun _ _ x => x)⟩
set_option maxHeartbeats 400000 in
theorem rHeight_any {X : Nat → Prop} {w : World} {r : Tv} {t : Ty} (h : TyV w X r t) :
    Calls Tryd.prog 44 #[r.val] w fun e w' => e = .returned (.int .i64 (min t.ht 17 : Nat)) ∧ Keep (fun _ => False) w w' := by
  obtain ⟨k, nm, An, nn, cn, Ak, nk, ck⟩ := r
  have hc := high_any t (w.alloc (.cells #[.int .i64 k, .string nm, .slice An nn cn, .slice Ak nk ck] 25)) _ 17 (by omega) (by omega) (h.step ((Keep.refl _ w).alloc _))
  unfold Tv.val at hc ⊢
  simp only
  clear h
  go_enter Tryd.func44, Tryd.ntmps44
  go_wp2_with (go_at_call 66; refine hc.mono ?_; rintro e w' ⟨rfl, hk⟩; have HK := Lib.hid hk; clear hk hc)
  go_ret
  exact ⟨rfl, ((Keep.refl _ w).alloc _).trans HK.out (fun _ _ x => x)⟩
end Go.Proofs.YtbanpohholnkaaaDoor

namespace Go.Proofs.YtbanpohholnkaaaDoor
open Go.RowKit

set_option maxHeartbeats 1000000 in
theorem rTag_any {w : World} {X : Nat → Prop} {r : Tv} {t : Ty} (h : TyV w X r t) :
    Calls Tryd.prog 79 #[r.val] w fun e w' => e = .returned (.int .i64 (tagT t)) ∧ Keep (fun _ => False) w w' := by
  have hk := h.out.1.1
  obtain ⟨k, nm, An, nn, cn, Ak, nk, ck⟩ := r
  simp only at hk
  unfold Tv.val tagT
  rw [← hk]
  clear h hk
  simp only
  by_cases h1 : k < 1 ∨ 6 < k
  · rw [if_pos h1]
    have d1 : (k == 1) = false := by rw [beq_eq_false_iff_ne]; omega
    have d2 : (k == 2) = false := by rw [beq_eq_false_iff_ne]; omega
    have d3 : (k == 3) = false := by rw [beq_eq_false_iff_ne]; omega
    have d4 : (k == 4) = false := by rw [beq_eq_false_iff_ne]; omega
    have d5 : (k == 5) = false := by rw [beq_eq_false_iff_ne]; omega
    have d6 : (k == 6) = false := by rw [beq_eq_false_iff_ne]; omega
    go_enter Tryd.func79, Tryd.ntmps79
    go_wp2
    go_ret
    exact ⟨rfl, (Keep.refl _ w).alloc _⟩
  · rw [if_neg h1]
    have hc : k = 1 ∨ k = 2 ∨ k = 3 ∨ k = 4 ∨ k = 5 ∨ k = 6 := by omega
    clear h1
    rcases hc with rfl | rfl | rfl | rfl | rfl | rfl
    all_goals
      go_enter Tryd.func79, Tryd.ntmps79
      go_wp2
      go_ret
      exact ⟨rfl, (Keep.refl _ w).alloc _⟩
end Go.Proofs.YtbanpohholnkaaaDoor

namespace Go.Proofs.YtbanpohholnkaaaDoor
open Go.RowKit

def RsA (w : World) (l l' : List ByteArray) (n : Nat) (k : Nat) (b : Value) (wr : World) : Prop :=
  ∃ i : Nat, b = .int .i64 i ∧ i ≤ n ∧ k = n - i ∧ l.take i = l'.take i ∧ Keep (fun _ => False) w wr
def RsB (w : World) (l l' : List Ty) (n : Nat) (k : Nat) (b : Value) (wr : World) : Prop :=
  ∃ i : Nat, b = .int .i64 i ∧ i ≤ n ∧ k = n - i ∧ l.take i = l'.take i ∧ Keep (fun _ => False) w wr
set_option maxRecDepth 100000 in
set_option maxHeartbeats 4000000 in
theorem rSame_any {X Y : Nat → Prop} (a : Ty) : ∀ (b : Ty) (w : World) (r r' : Tv), TyV w X r a → TyV w Y r' b → Calls Tryd.prog 25 #[r.val, r'.val] w fun e w' => e = .returned (.bool (sameT a b)) ∧ Keep (fun _ => False) w w' := by
  induction a using Ty.ind with
  | h a ih =>
    intro b w r r' h h'
    have ha := h.out
    have hb := h'.out
    obtain ⟨k, nm, An, nn, cn, Ak, nk, ck⟩ := r
    obtain ⟨k', nm', An', nn', cn', Ak', nk', ck'⟩ := r'
    obtain ⟨⟨e1, e2, e3⟩, e4, e5, e6, rs, e7, e8, e9⟩ := ha
    obtain ⟨⟨f1, f2, f3⟩, f4, f5, f6, rs', f7, f8, f9⟩ := hb
    simp only at e1 e2 e3 e4 e5 e6 e7 e8 f1 f2 f3 f4 f5 f6 f7 f8
    have kw : Keep (fun _ => False) w ((w.alloc (.cells #[.int .i64 k, .string nm, .slice An nn cn, .slice Ak nk ck] 25)).alloc (.cells #[.int .i64 k', .string nm', .slice An' nn' cn', .slice Ak' nk' ck'] 25)) := ((Keep.refl _ w).alloc _).alloc _
    have hx : At ((w.alloc (.cells #[.int .i64 k, .string nm, .slice An nn cn, .slice Ak nk ck] 25)).alloc (.cells #[.int .i64 k', .string nm', .slice An' nn' cn', .slice Ak' nk' ck'] 25)) w.heap.size 25 #[.int .i64 k, .string nm, .slice An nn cn, .slice Ak nk ck] := (At.new _ _ _).alloc _
    have hy : At ((w.alloc (.cells #[.int .i64 k, .string nm, .slice An nn cn, .slice Ak nk ck] 25)).alloc (.cells #[.int .i64 k', .string nm', .slice An' nn' cn', .slice Ak' nk' ck'] 25)) (w.heap.size + 1) 25 #[.int .i64 k', .string nm', .slice An' nn' cn', .slice Ak' nk' ck'] := At.new_at (by simp)
    have hno : ¬ (k = k' ∧ nm = nm' ∧ a.names = b.names ∧ a.kids = b.kids) → sameT a b = false := fun h => same_no (by rw [← e1, ← f1, ← e4, ← f4]; exact h)
    have hyes : (k = k' ∧ nm = nm' ∧ a.names = b.names ∧ a.kids = b.kids) → sameT a b = true := fun h => same_parts.2 (by rw [← e1, ← f1, ← e4, ← f4]; exact h)
    have hnl : a.names.length = nn := e5.symm
    have hnl' : b.names.length = nn' := f5.symm
    have hkl : a.kids.length = nk := e7.symm
    have hkl' : b.kids.length = nk' := f7.symm
    have H := Lib.hid (And.intro hno (And.intro hyes (And.intro kw (And.intro hx (And.intro hy (And.intro (e6.keep kw (fun _ x => x.elim)) (And.intro (f6.keep kw (fun _ x => x.elim)) (And.intro (e8.keep kw (fun _ x => x.elim)) (And.intro (f8.keep kw (fun _ x => x.elim)) (And.intro (e9.step kw) (f9.step kw)))))))))))
    have HI := Lib.hid ih
    have HL := Lib.hid (And.intro hnl (And.intro hnl' (And.intro hkl hkl')))
    have x := hx.tcells
    have y := hy.tcells
    obtain ⟨xl, x0, x1, x2, x3⟩ := x
    obtain ⟨yl, y0, y1, y2, y3⟩ := y
    clear ih h h' hno hyes hx hy kw e1 e4 e5 e6 e7 e8 e9 f1 f2 f4 f5 f6 f7 f8 f9 hnl hnl' hkl hkl' f3
    unfold Tv.val
    simp only
    have fin : ∀ (v : Bool) (w' : World), sameT a b = v → Keep (fun _ => False) ((w.alloc (.cells #[.int .i64 k, .string nm, .slice An nn cn, .slice Ak nk ck] 25)).alloc (.cells #[.int .i64 k', .string nm', .slice An' nn' cn', .slice Ak' nk' ck'] 25)) w' → Ending.returned (.bool v) = .returned (.bool (sameT a b)) ∧ Keep (fun _ => False) w w' := fun v w' hv hk => ⟨by rw [hv], H.out.2.2.1.trans hk (fun _ _ x => x)⟩
    have FIN := Lib.hid fin
    clear fin
    by_cases hk : k = k'
    · subst hk
      have dk : (k == k) = true := by simp
      have dk' : (k != k) = false := by simp
      by_cases hnm : nm = nm'
      · subst hnm
        have dn := str_beq nm
        have dn' : (nm.toList != nm.toList) = false := by simp
        by_cases hnn : nn = nn'
        · subst hnn
          have dl : ((nn : Int) == (nn : Int)) = true := by simp
          have dl' : ((nn : Int) != (nn : Int)) = false := by simp
          by_cases hkk : nk = nk'
          · subst hkk
            have dm : ((nk : Int) == (nk : Int)) = true := by simp
            have dm' : ((nk : Int) != (nk : Int)) = false := by simp
            go_enter Tryd.func25, Tryd.ntmps25
            go_wp2_with fail
            clear xl x0 x1 x2 x3 yl y0 y1 y2 y3
            generalize ((w.alloc (.cells #[.int .i64 k, .string nm, .slice An nn cn, .slice Ak nk ck] 25)).alloc (.cells #[.int .i64 k, .string nm, .slice An' nn cn', .slice Ak' nk ck'] 25)) = w2 at *
            generalize w.heap.size = bx at *
            generalize bx + 1 = by_ at *
            have h0 : Hid (RsA w2 a.names b.names nn nn (.int .i64 0) w2) := ⟨0, rfl, Nat.zero_le _, rfl, rfl, Keep.refl _ _⟩
            go_loopg [5] nn (RsA w2 a.names b.names nn)
            case atStart => exact h0.out
            case round =>
              clear h0
              obtain ⟨i, rfl, hi, rfl, ht, hk⟩ := hrel
              have hS := And.intro (hk.at_ H.out.2.2.2.1 (fun x => x)).tcells (hk.at_ H.out.2.2.2.2.1 (fun x => x)).tcells
              obtain ⟨⟨xl, x0, x1, x2, x3⟩, ⟨yl, y0, y1, y2, y3⟩⟩ := hS
              have HK := Lib.hid (And.intro ht hk)
              clear ht
              by_cases hlt : i < nn
              · obtain ⟨s, hs⟩ : ∃ s, a.names[i]? = some s := ⟨_, List.getElem?_eq_getElem (by have := HL.out; omega)⟩
                obtain ⟨s', hs'⟩ : ∃ s', b.names[i]? = some s' := ⟨_, List.getElem?_eq_getElem (by have := HL.out; omega)⟩
                obtain ⟨p, o, rfl, hbz, _, c0⟩ := (H.out.2.2.2.2.2.1.keep hk (fun _ x => x.elim)).scell hlt hs
                obtain ⟨p', o', rfl, hbz', _, c0'⟩ := (H.out.2.2.2.2.2.2.1.keep hk (fun _ x => x.elim)).scell hlt hs'
                have HS := Lib.hid (And.intro hs hs')
                clear hk hs hs'
                by_cases he : s = s'
                · subst he
                  have hd := str_beq s
                  have hd' : (s.toList != s.toList) = false := by simp
                  go_wp2_with fail
                  go_quiet (fail)
                  go_wp2_with fail
                  go_roundg (nn - (i + 1))
                  case measure => omega
                  case rel => exact ⟨i + 1, by go_num, by omega, rfl, take_eq_succ HK.out.1 HS.out.1 HS.out.2 rfl, HK.out.2.drewN _⟩
                · have hd := str_bne he
                  have hd' : (s.toList != s'.toList) = true := by simp [bne, hd]
                  have hnx := H.out.1 (fun h => take_ne_at HS.out.1 HS.out.2 he h.2.2.1)
                  have HN := Lib.hid hnx
                  clear hnx
                  go_wp2_with fail
                  go_quiet (fail)
                  go_wp2_with fail
                  go_ret
                  exact FIN.out _ _ HN.out (HK.out.2.drewN _)
              · have hns : a.names = b.names := by
                  have h1 := HK.out.1
                  have := HL.out
                  rw [List.take_of_length_le (by omega), List.take_of_length_le (by omega)] at h1
                  exact h1
                have HNS := Lib.hid hns
                clear hns hk
                go_wp2_with fail
                clear xl x0 x1 x2 x3 yl y0 y1 y2 y3
                have h0 : Hid (RsB w2 a.kids b.kids nk nk (.int .i64 0) wr) := ⟨0, rfl, Nat.zero_le _, rfl, rfl, HK.out.2⟩
                go_loopg [6] nk (RsB w2 a.kids b.kids nk)
                case atStart => exact h0.out
                case round =>
                  clear h0 HK
                  obtain ⟨j, rfl, hj, rfl, ht, hk⟩ := hrel
                  have hS := And.intro (hk.at_ H.out.2.2.2.1 (fun x => x)).tcells (hk.at_ H.out.2.2.2.2.1 (fun x => x)).tcells
                  obtain ⟨⟨xl, x0, x1, x2, x3⟩, ⟨yl, y0, y1, y2, y3⟩⟩ := hS
                  have HK := Lib.hid (And.intro ht hk)
                  clear ht
                  by_cases hlt : j < nk
                  · obtain ⟨s, hs⟩ : ∃ s, a.kids[j]? = some s := ⟨_, List.getElem?_eq_getElem (by have := HL.out; omega)⟩
                    obtain ⟨s', hs'⟩ : ∃ s', b.kids[j]? = some s' := ⟨_, List.getElem?_eq_getElem (by have := HL.out; omega)⟩
                    obtain ⟨q, hq, hqv⟩ := (H.out.2.2.2.2.2.2.2.2.2.1.step hk).at_ hs
                    obtain ⟨q', hq', hqv'⟩ := (H.out.2.2.2.2.2.2.2.2.2.2.step hk).at_ hs'
                    obtain ⟨p, o, rfl, hbz, _, c0, c1, c2, c3⟩ := (H.out.2.2.2.2.2.2.2.1.keep hk (fun _ x => x.elim)).tcells hlt hq
                    obtain ⟨p', o', rfl, hbz', _, c0', c1', c2', c3'⟩ := (H.out.2.2.2.2.2.2.2.2.1.keep hk (fun _ x => x.elim)).tcells hlt hq'
                    have HC := HI.out s (Ty.kid_lt (List.mem_of_getElem? hs)) s' wr.drew q q' (hqv.step (Keep.refl _ wr).drew) (hqv'.step (Keep.refl _ wr).drew)
                    unfold Tv.val at HC
                    have HS := Lib.hid (And.intro hs hs')
                    clear hs hs' hq hq' hqv hqv'
                    have hsx : bx < wr.heap.size ∧ by_ < wr.heap.size ∧ wr.cell? ⟨bx, 3, none⟩ = some (.slice (some ⟨p, o, none⟩) nk ck) ∧ wr.cell? ⟨by_, 3, none⟩ = some (.slice (some ⟨p', o', none⟩) nk ck') ∧ p < wr.heap.size ∧ p' < wr.heap.size ∧ wr.cell? ⟨p, o + j * 4, none⟩ = some (.int .i64 q.k) ∧ wr.cell? ⟨p, o + j * 4 + 1, none⟩ = some (.string q.nm) ∧ wr.cell? ⟨p, o + j * 4 + 2, none⟩ = some (.slice q.An q.nn q.cn) ∧ wr.cell? ⟨p, o + j * 4 + 3, none⟩ = some (.slice q.Ak q.nk q.ck) ∧ wr.cell? ⟨p', o' + j * 4, none⟩ = some (.int .i64 q'.k) ∧ wr.cell? ⟨p', o' + j * 4 + 1, none⟩ = some (.string q'.nm) ∧ wr.cell? ⟨p', o' + j * 4 + 2, none⟩ = some (.slice q'.An q'.nn q'.cn) ∧ wr.cell? ⟨p', o' + j * 4 + 3, none⟩ = some (.slice q'.Ak q'.nk q'.ck) := ⟨xl, yl, x3, y3, hbz, hbz', c0, c1, c2, c3, c0', c1', c2', c3'⟩
                    have hsk : ∀ w', Keep (fun _ => False) wr.drew w' → bx < w'.heap.size ∧ by_ < w'.heap.size ∧ w'.cell? ⟨bx, 3, none⟩ = some (.slice (some ⟨p, o, none⟩) nk ck) ∧ w'.cell? ⟨by_, 3, none⟩ = some (.slice (some ⟨p', o', none⟩) nk ck') ∧ p < w'.heap.size ∧ p' < w'.heap.size ∧ w'.cell? ⟨p, o + j * 4, none⟩ = some (.int .i64 q.k) ∧ w'.cell? ⟨p, o + j * 4 + 1, none⟩ = some (.string q.nm) ∧ w'.cell? ⟨p, o + j * 4 + 2, none⟩ = some (.slice q.An q.nn q.cn) ∧ w'.cell? ⟨p, o + j * 4 + 3, none⟩ = some (.slice q.Ak q.nk q.ck) ∧ w'.cell? ⟨p', o' + j * 4, none⟩ = some (.int .i64 q'.k) ∧ w'.cell? ⟨p', o' + j * 4 + 1, none⟩ = some (.string q'.nm) ∧ w'.cell? ⟨p', o' + j * 4 + 2, none⟩ = some (.slice q'.An q'.nn q'.cn) ∧ w'.cell? ⟨p', o' + j * 4 + 3, none⟩ = some (.slice q'.Ak q'.nk q'.ck) := fun w' hk => by
                      have hz : wr.heap.size ≤ w'.heap.size := hk.size
                      exact ⟨by omega, by omega, hk.cell x3 (fun x => x), hk.cell y3 (fun x => x), by omega, by omega, hk.cell c0 (fun x => x), hk.cell c1 (fun x => x), hk.cell c2 (fun x => x), hk.cell c3 (fun x => x), hk.cell c0' (fun x => x), hk.cell c1' (fun x => x), hk.cell c2' (fun x => x), hk.cell c3' (fun x => x)⟩
                    have HSK := Lib.hid hsk
                    have j0 : (0 : Int) ≤ (j : Int) := by omega
                    have j1 : (j : Int) < (nk : Int) := by omega
                    have dlt : decide ((j : Int) < (nk : Int)) = true := by simp; omega
                    have dlt' : decide (j < nk) = true := by simp; omega
                    clear hsk hk
                    go_wp2_with fail
                    clear xl yl x3 y3 hbz hbz' c0 c1 c2 c3 c0' c1' c2' c3' x0 x1 x2 y0 y1 y2
                    by_cases he : s = s'
                    · subst he
                      rw [sameT_refl] at HC
                      go_region_held3 (fun w' => bx < w'.heap.size ∧ by_ < w'.heap.size ∧ w'.cell? ⟨bx, 3, none⟩ = some (.slice (some ⟨p, o, none⟩) nk ck) ∧ w'.cell? ⟨by_, 3, none⟩ = some (.slice (some ⟨p', o', none⟩) nk ck') ∧ p < w'.heap.size ∧ p' < w'.heap.size ∧ w'.cell? ⟨p, o + j * 4, none⟩ = some (.int .i64 q.k) ∧ w'.cell? ⟨p, o + j * 4 + 1, none⟩ = some (.string q.nm) ∧ w'.cell? ⟨p, o + j * 4 + 2, none⟩ = some (.slice q.An q.nn q.cn) ∧ w'.cell? ⟨p, o + j * 4 + 3, none⟩ = some (.slice q.Ak q.nk q.ck) ∧ w'.cell? ⟨p', o' + j * 4, none⟩ = some (.int .i64 q'.k) ∧ w'.cell? ⟨p', o' + j * 4 + 1, none⟩ = some (.string q'.nm) ∧ w'.cell? ⟨p', o' + j * 4 + 2, none⟩ = some (.slice q'.An q'.nn q'.cn) ∧ w'.cell? ⟨p', o' + j * 4 + 3, none⟩ = some (.slice q'.Ak q'.nk q'.ck))
                        (first | exact hsx | exact HSK.out _ HK2.out)
                        ((go_at_call 25; refine HC.mono ?_; rintro e w' ⟨rfl, hk⟩; have HK2 := Lib.hid hk; clear hk HC))
                      go_wp2_with fail
                      go_roundg (nk - (j + 1))
                      case measure => omega
                      case rel => exact ⟨j + 1, by go_num, by omega, rfl, take_eq_succ HK.out.1 HS.out.1 HS.out.2 rfl, HK.out.2.drew.trans HK2.out (fun _ _ x => x)⟩
                    · rw [sameT_ne he] at HC
                      have hnx := H.out.1 (fun h => take_ne_at HS.out.1 HS.out.2 he h.2.2.2)
                      have HN := Lib.hid hnx
                      clear hnx
                      go_region_held3 (fun w' => bx < w'.heap.size ∧ by_ < w'.heap.size ∧ w'.cell? ⟨bx, 3, none⟩ = some (.slice (some ⟨p, o, none⟩) nk ck) ∧ w'.cell? ⟨by_, 3, none⟩ = some (.slice (some ⟨p', o', none⟩) nk ck') ∧ p < w'.heap.size ∧ p' < w'.heap.size ∧ w'.cell? ⟨p, o + j * 4, none⟩ = some (.int .i64 q.k) ∧ w'.cell? ⟨p, o + j * 4 + 1, none⟩ = some (.string q.nm) ∧ w'.cell? ⟨p, o + j * 4 + 2, none⟩ = some (.slice q.An q.nn q.cn) ∧ w'.cell? ⟨p, o + j * 4 + 3, none⟩ = some (.slice q.Ak q.nk q.ck) ∧ w'.cell? ⟨p', o' + j * 4, none⟩ = some (.int .i64 q'.k) ∧ w'.cell? ⟨p', o' + j * 4 + 1, none⟩ = some (.string q'.nm) ∧ w'.cell? ⟨p', o' + j * 4 + 2, none⟩ = some (.slice q'.An q'.nn q'.cn) ∧ w'.cell? ⟨p', o' + j * 4 + 3, none⟩ = some (.slice q'.Ak q'.nk q'.ck))
                        (first | exact hsx | exact HSK.out _ HK2.out)
                        ((go_at_call 25; refine HC.mono ?_; rintro e w' ⟨rfl, hk⟩; have HK2 := Lib.hid hk; clear hk HC))
                      go_wp2_with fail
                      go_ret
                      exact FIN.out _ _ HN.out (HK.out.2.drew.trans HK2.out (fun _ _ x => x))
                  · have hks : a.kids = b.kids := by
                      have h1 := HK.out.1
                      have := HL.out
                      rw [List.take_of_length_le (by omega), List.take_of_length_le (by omega)] at h1
                      exact h1
                    have hyy := H.out.2.1 ⟨by simp, by simp, HNS.out, hks⟩
                    have HY := Lib.hid hyy
                    clear hks hyy hk
                    go_wp2_with fail
                    go_ret
                    exact FIN.out _ _ HY.out HK.out.2
          · have dm : ((nk : Int) == (nk' : Int)) = false := by rw [beq_eq_false_iff_ne]; omega
            have dm' : ((nk : Int) != (nk' : Int)) = true := by simp [bne, dm]
            have HN := Lib.hid (H.out.1 (fun h => by have := HL.out; have := congrArg List.length h.2.2.2; omega))
            go_enter Tryd.func25, Tryd.ntmps25
            go_wp2_with fail
            go_ret
            exact FIN.out _ _ HN.out (Keep.refl _ _)
        · have dl : ((nn : Int) == (nn' : Int)) = false := by rw [beq_eq_false_iff_ne]; omega
          have dl' : ((nn : Int) != (nn' : Int)) = true := by simp [bne, dl]
          have HN := Lib.hid (H.out.1 (fun h => by have := HL.out; have := congrArg List.length h.2.2.1; omega))
          go_enter Tryd.func25, Tryd.ntmps25
          go_wp2_with fail
          go_ret
          exact FIN.out _ _ HN.out (Keep.refl _ _)
      · have dn := str_bne hnm
        have dn' : (nm.toList != nm'.toList) = true := by simp [bne, dn]
        have HN := Lib.hid (H.out.1 (fun h => hnm h.2.1))
        go_enter Tryd.func25, Tryd.ntmps25
        go_wp2_with fail
        go_ret
        exact FIN.out _ _ HN.out (Keep.refl _ _)
    · have dk : (k == k') = false := by simp [hk]
      have dk' : (k != k') = true := by simp [bne, dk]
      have HN := Lib.hid (H.out.1 (fun h => hk h.1))
      go_enter Tryd.func25, Tryd.ntmps25
      go_wp2_with fail
      go_ret
      exact FIN.out _ _ HN.out (Keep.refl _ _)
end Go.Proofs.YtbanpohholnkaaaDoor

namespace Go.Proofs.YtbanpohholnkaaaDoor
open Go.RowKit

set_option maxHeartbeats 1000000 in
set_option maxRecDepth 100000 in
theorem rWords_any (w : World) : Calls Tryd.prog 101 #[] w fun e w' => e = .returned (.slice (some ⟨w.heap.size, 0, none⟩) 25 25) ∧ w' = w.alloc (.cells (strs wordsL).toArray 9) := by
  go_enter Tryd.func101, Tryd.ntmps101
  go_wp2_with fail
  go_ret
  exact ⟨rfl, rfl⟩
def WdA (w : World) (s : ByteArray) (k : Nat) (b : Value) (wr : World) : Prop :=
  ∃ i : Nat, b = .int .i64 i ∧ i ≤ 25 ∧ k = 25 - i ∧ (∀ x ∈ wordsL.take i, x ≠ s) ∧ w = wr
set_option maxHeartbeats 1000000 in
set_option maxRecDepth 100000 in
theorem word_any (s : ByteArray) (w : World) : Calls Tryd.prog 88 #[.string s] w fun e w' => e = .returned (.bool (hasS s wordsL)) ∧ Keep (fun _ => False) w w' := by
  have hw := rWords_any w
  have hA := At.new w 9 (strs wordsL).toArray
  have hk : Keep (fun _ => False) w (w.alloc (.cells (strs wordsL).toArray 9)) := (Keep.refl _ w).alloc _
  have H := Lib.hid (And.intro hA hk)
  have hl : wordsL.length = 25 := rfl
  clear hA hk
  generalize wordsL = L at *
  have HL := Lib.hid hl
  clear hl
  generalize (w.alloc (.cells (strs L).toArray 9)) = w1 at *
  generalize w.heap.size = bx at *
  go_enter Tryd.func88, Tryd.ntmps88
  go_wp2_with (go_at_call 101; refine hw.mono ?_; rintro e w2 ⟨rfl, hww⟩; obtain rfl : w1 = w2 := hww.symm)
  have h0 : Hid (∃ i : Nat, (Value.int .i64 0) = .int .i64 i ∧ i ≤ 25 ∧ 25 = 25 - i ∧ (∀ x ∈ L.take i, x ≠ s) ∧ w1 = w1) := ⟨0, rfl, Nat.zero_le _, rfl, by simp, rfl⟩
  go_loopg [4] 25 (fun k b wr => ∃ i : Nat, b = .int .i64 i ∧ i ≤ 25 ∧ k = 25 - i ∧ (∀ x ∈ L.take i, x ≠ s) ∧ w1 = wr)
  case atStart => exact h0.out
  case round =>
    clear h0
    obtain ⟨i, rfl, hi, rfl, ht, rfl⟩ := hrel
    have hbl := H.out.1.lt
    by_cases hlt : i < 25
    · obtain ⟨x, hx⟩ : ∃ x, L[i]? = some x := ⟨_, List.getElem?_eq_getElem (by have := HL.out; omega)⟩
      have c0 := H.out.1.cell i
      rw [show (strs L).toArray[i]? = some (.string x) by simp [strs, hx]] at c0
      have HX := Lib.hid (And.intro ht hx)
      clear ht hx
      by_cases he : x = s
      · subst he
        have hd := str_beq x
        have hyes : hasS x L = true := hasS_iff.2 (List.mem_of_getElem? HX.out.2)
        have HY := Lib.hid hyes
        clear hyes
        go_wp2_with fail
        go_ret
        exact ⟨ret_bool HY.out.symm, H.out.2⟩
      · have hd := str_bne he
        go_wp2_with fail
        go_roundg (25 - (i + 1))
        case measure => omega
        case rel =>
          refine ⟨i + 1, by go_num, by omega, rfl, fun y hy => ?_, rfl⟩
          rw [List.take_add_one, HX.out.2] at hy
          rcases List.mem_append.1 hy with hy | hy
          · exact HX.out.1 y hy
          · have : y = x := by simpa using hy
            subst this
            exact he
    · have hno : hasS s L = false := by
        cases h' : hasS s L with
        | false => rfl
        | true =>
          have := hasS_iff.1 h'
          rw [List.take_of_length_le (by have := HL.out; omega)] at ht
          exact absurd rfl (ht s this)
      have HY := Lib.hid hno
      clear hno ht
      go_wp2_with fail
      go_ret
      exact ⟨ret_bool HY.out.symm, H.out.2⟩
theorem letter_digit (n : Nat) (h : letterN n = true) : digitN n = false := by
  unfold letterN at h
  unfold digitN
  simp only [Bool.or_eq_true, Bool.and_eq_true, decide_eq_true_eq] at h
  cases h1 : decide (48 ≤ n) && decide (n ≤ 57) with
  | false => rfl
  | true =>
    simp only [Bool.and_eq_true, decide_eq_true_eq] at h1
    omega
theorem nameB_ref (s : ByteArray) (hpos : 0 < s.size) : nameB s = (decide (s.size ≤ 32) && (!hasS s wordsL && (!digitN (s[0]'hpos).toNat && s.data.toList.all (fun c => innerN c.toNat)))) := by
  have h0 := byte_get hpos
  unfold nameB
  cases hl : s.data.toList with
  | nil => rw [hl] at h0; simp at h0
  | cons c l =>
    rw [hl] at h0
    simp only [List.getElem?_cons_zero, Option.some.injEq] at h0
    subst h0
    simp only [List.all_cons]
    cases hc : letterN (s[0]'hpos).toNat with
    | true =>
      rw [letter_digit _ hc]
      cases decide (s.size ≤ 32) <;> cases hasS s wordsL <;> simp
    | false =>
      unfold innerN
      rw [hc]
      cases digitN (s[0]'hpos).toNat <;> cases decide (s.size ≤ 32) <;> cases hasS s wordsL <;> simp
def NaA (w : World) (s : ByteArray) (k : Nat) (b : Value) (wr : World) : Prop :=
  ∃ i : Nat, b = .int .i64 i ∧ i ≤ s.size ∧ k = s.size - i ∧ (s.data.toList.take i).all (fun c => innerN c.toNat) = true ∧ w = wr
set_option maxHeartbeats 2000000 in
set_option maxRecDepth 100000 in
theorem rName_any (s : ByteArray) (w : World) : Calls Tryd.prog 78 #[.string s] w fun e w' => e = .returned (.bool (nameB s)) ∧ Keep (fun _ => False) w w' := by
  have hw := word_any s w
  by_cases h0 : s.size = 0
  · have e : nameB s = false := by
      unfold nameB
      have : s.data.toList = [] := by
        apply List.eq_nil_of_length_eq_zero
        simpa using h0
      rw [this]
    rw [e]
    have d0 : ((s.size : Int) == 0) = true := by rw [beq_iff_eq]; omega
    clear e h0
    cases hasS s wordsL
    all_goals
      go_enter Tryd.func78, Tryd.ntmps78
      go_wp2_with (go_at_call 88; refine hw.mono ?_; rintro e w' ⟨rfl, hk⟩; have HK := Lib.hid hk; clear hk hw)
      go_ret
      exact ⟨rfl, HK.out⟩
  · have hpos : 0 < s.size := by omega
    have d0 : ((s.size : Int) == 0) = false := by rw [beq_eq_false_iff_ne]; omega
    rw [nameB_ref s hpos]
    generalize hwd : hasS s wordsL = wd at *
    generalize hall : s.data.toList.all (fun c => innerN c.toNat) = al at *
    have HA := Lib.hid hall
    clear hwd hall h0
    by_cases h32 : s.size ≤ 32
    · have d32 : decide (32 < (s.size : Int)) = false := by simp; omega
      have d32' : decide (32 < s.size) = false := by simp; omega
      have d32'' : decide (s.size ≤ 32) = true := by simpa using h32
      rw [d32'', Bool.true_and]
      cases wd with
      | true =>
        clear d32''
        go_enter Tryd.func78, Tryd.ntmps78
        go_wp2_with (go_at_call 88; refine hw.mono ?_; rintro e w' ⟨rfl, hk⟩; have HK := Lib.hid hk; clear hk hw)
        go_ret
        exact ⟨rfl, HK.out⟩
      | false =>
        rw [Bool.not_false, Bool.true_and]
        have hdg := fun w => rdigit_any (s[0]'hpos).toNat w
        have HDG := Lib.hid hdg
        clear hdg
        cases hd : digitN (s[0]'hpos).toNat with
        | true =>
          rw [hd] at HDG
          clear d32'' hd
          rw [Bool.not_true, Bool.false_and]
          go_enter Tryd.func78, Tryd.ntmps78
          go_wp2_with (first | (go_at_call 88; refine hw.mono ?_; rintro e w' ⟨rfl, hk⟩; have HK := Lib.hid hk; clear hk hw) | (go_at_call 89; refine (HDG.out _).mono ?_; rintro e w' ⟨rfl, rfl⟩))
          go_ret
          exact ⟨rfl, HK.out⟩
        | false =>
          rw [hd] at HDG
          clear d32'' hd
          rw [Bool.not_false, Bool.true_and]
          go_enter Tryd.func78, Tryd.ntmps78
          go_wp2_with (first | (go_at_call 88; refine hw.mono ?_; rintro e w1 ⟨rfl, hk⟩; have HK := Lib.hid hk; clear hk hw) | (go_at_call 89; refine (HDG.out _).mono ?_; rintro e w' ⟨rfl, rfl⟩))
          have h0 : Hid (NaA w1 s s.size (.int .i64 0) w1) := ⟨0, rfl, Nat.zero_le _, rfl, by simp, rfl⟩
          clear HDG
          go_loopg [4] s.size (NaA w1 s)
          case atStart => exact h0.out
          case round =>
            clear h0
            obtain ⟨i, rfl, hi, rfl, ha, rfl⟩ := hrel
            by_cases hlt : i < s.size
            · have hin := rletter_any (s[i]'hlt).toNat w1
              have hin2 := rdigit_any (s[i]'hlt).toNat w1
              cases hv : innerN (s[i]'hlt).toNat with
              | true =>
                have HC := Lib.hid (all_next (p := fun c => innerN c.toNat) (byte_get hlt) ha hv)
                unfold innerN at hv
                clear ha
                cases hl : letterN (s[i]'hlt).toNat with
                | true =>
                  rw [hl] at hin
                  clear hl hv
                  go_wp2_with (first | (go_at_call 90; refine hin.mono ?_; rintro e w' ⟨rfl, rfl⟩) | (go_at_call 89; refine hin2.mono ?_; rintro e w' ⟨rfl, rfl⟩))
                  go_roundg (s.size - (i + 1))
                  case measure => omega
                  case rel => exact ⟨i + 1, by go_num, by omega, rfl, HC.out, rfl⟩
                | false =>
                  rw [hl, Bool.false_or] at hv
                  rw [hl] at hin
                  rw [hv] at hin2
                  clear hl hv
                  go_wp2_with (first | (go_at_call 90; refine hin.mono ?_; rintro e w' ⟨rfl, rfl⟩) | (go_at_call 89; refine hin2.mono ?_; rintro e w' ⟨rfl, rfl⟩))
                  go_roundg (s.size - (i + 1))
                  case measure => omega
                  case rel => exact ⟨i + 1, by go_num, by omega, rfl, HC.out, rfl⟩
              | false =>
                have HC := Lib.hid (all_stop (p := fun c => innerN c.toNat) (byte_get hlt) hv)
                unfold innerN at hv
                rw [Bool.or_eq_false_iff] at hv
                rw [hv.1] at hin
                rw [hv.2] at hin2
                clear ha hv
                go_wp2_with (first | (go_at_call 90; refine hin.mono ?_; rintro e w' ⟨rfl, rfl⟩) | (go_at_call 89; refine hin2.mono ?_; rintro e w' ⟨rfl, rfl⟩))
                go_ret
                exact ⟨ret_bool (by rw [← HA.out, HC.out]), HK.out⟩
            · have hie : i = s.size := by omega
              subst hie
              rw [List.take_of_length_le (by simp)] at ha
              have HC := Lib.hid ha
              clear ha
              go_wp2_with fail
              go_ret
              exact ⟨ret_bool (by rw [← HA.out, HC.out]), HK.out⟩
    · have d32 : decide (32 < (s.size : Int)) = true := by simp; omega
      have d32' : decide (32 < s.size) = true := by simp; omega
      have d32'' : decide (s.size ≤ 32) = false := by simpa using h32
      rw [d32'', Bool.false_and]
      clear d32''
      cases wd
      all_goals
        go_enter Tryd.func78, Tryd.ntmps78
        go_wp2_with (go_at_call 88; refine hw.mono ?_; rintro e w' ⟨rfl, hk⟩; have HK := Lib.hid hk; clear hk hw)
        go_ret
        exact ⟨rfl, HK.out⟩
end Go.Proofs.YtbanpohholnkaaaDoor

namespace Go.Proofs.YtbanpohholnkaaaDoor
open Go.RowKit

theorem insF_at {x : Ft} : ∀ {l : List Ft} {k : Nat}, (∀ (j : Nat) (y : Ft), j < k → l[j]? = some y → ltS y.1 x.1 = true) → (∀ y, l[k]? = some y → ltS y.1 x.1 = false) → k ≤ l.length → insF x l = l.take k ++ x :: l.drop k
  | [], k, _, _, hk => by
    have : k = 0 := by simpa using hk
    subst this
    rfl
  | y :: l, 0, _, h2, _ => by
    have := h2 y rfl
    simp [insF, this]
  | y :: l, k + 1, h1, h2, hk => by
    have := h1 0 y (by omega) rfl
    rw [insF, if_pos this, insF_at (k := k) (fun j z hj hz => h1 (j + 1) z (by omega) (by simpa using hz)) (fun z hz => h2 z (by simpa using hz)) (by simpa using hk)]
    rfl
structure RecI (names : List ByteArray) (kids : List Ty) (i : Nat) (l : List Ft) : Prop where
  strict : Strict l
  perm : l.Perm ((names.zip kids).take i)
  ok : ∀ s ∈ names.take i, nameB s = true
theorem RecI.zero (names : List ByteArray) (kids : List Ty) : RecI names kids 0 [] := ⟨List.Pairwise.nil, by simp, by simp⟩
theorem RecI.len {names : List ByteArray} {kids : List Ty} {i : Nat} {l : List Ft} (h : RecI names kids i l) (hl : names.length = kids.length) (hi : i ≤ names.length) : l.length = i := by
  have := h.perm.length_eq
  simp only [List.length_take, List.length_zip] at this
  omega
theorem RecI.fin {names : List ByteArray} {kids : List Ty} {l : List Ft} (h : RecI names kids names.length l) (hl : names.length = kids.length) (h16 : names.length ≤ 16) : recT names kids = some (recOf l) := by
  refine recT_some hl h16 ?_ ?_ h.strict
  · rw [List.all_eq_true]
    intro s hs
    exact h.ok s (by simpa using hs)
  · have := h.perm
    rwa [List.take_of_length_le (by simp; omega)] at this
theorem RecI.names {names : List ByteArray} {kids : List Ty} {i : Nat} {l : List Ft} (h : RecI names kids i l) {y : Ft} (hy : y ∈ l) : ∃ q, q < i ∧ names[q]? = some y.1 := by
  have h1 := h.perm.mem_iff.1 hy
  obtain ⟨q, hq⟩ := List.getElem?_of_mem h1
  rw [List.getElem?_take] at hq
  split at hq
  · rename_i hqi
    refine ⟨q, hqi, ?_⟩
    have := List.getElem?_zip_eq_some.1 hq
    exact this.1
  · cases hq
theorem RecI.dup {names : List ByteArray} {kids : List Ty} {i : Nat} {l : List Ft} (h : RecI names kids i l) {y : Ft} {s : ByteArray} (hy : y ∈ l) (hs : names[i]? = some s) (e : y.1 = s) : recT names kids = none := by
  refine recT_none (.inr (.inr (.inr fun hnd => ?_)))
  obtain ⟨q, hq, hn⟩ := h.names hy
  have hi := (List.getElem?_eq_some_iff.1 hs).1
  have := (List.pairwise_iff_getElem.1 hnd) q i (by omega) hi hq
  rw [(List.getElem?_eq_some_iff.1 hn).2, (List.getElem?_eq_some_iff.1 hs).2] at this
  exact this e
theorem RecI.bad {names : List ByteArray} {kids : List Ty} {i : Nat} {s : ByteArray} (hs : names[i]? = some s) (e : nameB s = false) : recT names kids = none :=
  recT_none (.inr (.inr (.inl ⟨s, List.mem_of_getElem? hs, e⟩)))
theorem RecI.step {names : List ByteArray} {kids : List Ty} {i k : Nat} {l : List Ft} {s : ByteArray} {t : Ty} (h : RecI names kids i l) (hs : names[i]? = some s) (ht : kids[i]? = some t) (hn : nameB s = true) (hk : k ≤ l.length)
    (h1 : ∀ (j : Nat) (y : Ft), j < k → l[j]? = some y → ltS y.1 s = true) (h2 : ∀ y, l[k]? = some y → ltS y.1 s = false ∧ y.1 ≠ s) : RecI names kids (i + 1) (l.take k ++ (s, t) :: l.drop k) := by
  have he : insF (s, t) l = l.take k ++ (s, t) :: l.drop k := insF_at h1 (fun y hy => (h2 y hy).1) hk
  have hne : ∀ y ∈ l, y.1 ≠ (s, t).1 := by
    intro y hy e
    obtain ⟨q, hq⟩ := List.getElem?_of_mem hy
    rcases Nat.lt_trichotomy q k with hlt | rfl | hgt
    · have := h1 q y hlt hq
      rw [e, ltS_irrefl] at this
      cases this
    · exact (h2 y hq).2 e
    · have hql := (List.getElem?_eq_some_iff.1 hq).1
      obtain ⟨z, hz⟩ : ∃ z, l[k]? = some z := ⟨_, List.getElem?_eq_getElem (by omega)⟩
      have hzy : ltS z.1 y.1 = true := by
        have := (List.pairwise_iff_getElem.1 h.strict) k q (by omega) hql hgt
        rw [(List.getElem?_eq_some_iff.1 hz).2, (List.getElem?_eq_some_iff.1 hq).2] at this
        exact this
      have h3 := (h2 z hz).1
      rw [e] at hzy
      simp only at hzy
      rw [hzy] at h3
      cases h3
  have hzip : (names.zip kids)[i]? = some (s, t) := List.getElem?_zip_eq_some.2 ⟨hs, ht⟩
  refine ⟨?_, ?_, ?_⟩
  · rw [← he]
    exact insF_strict _ _ h.strict hne
  · rw [← he, List.take_add_one, hzip]
    exact (insF_perm _ _).trans (((h.perm.cons _)).trans (List.perm_append_comm (l₁ := [(s, t)])))
  · intro x hx
    rw [List.take_add_one, hs] at hx
    rcases List.mem_append.1 hx with hx | hx
    · exact h.ok x hx
    · have : x = s := by simpa using hx
      rw [this]; exact hn
theorem Rd.cutL {w : World} {X : Nat → Prop} {size n c j : Nat} {A : Option Addr} {xs : List Value} (h : Rd w X size (.slice A n c) n xs) (hj : j ≤ n) : Rd w X size (.slice A j c) j (xs.take (j * size)) := by
  obtain ⟨hl, A', c', hv, hc, hr⟩ := h
  simp only [Value.slice.injEq, true_and] at hv
  obtain ⟨rfl, rfl⟩ := hv
  have hm : j * size ≤ n * size := Nat.mul_le_mul_right _ hj
  refine ⟨by rw [List.length_take]; omega, A, c, rfl, by omega, fun h0 => ?_⟩
  obtain ⟨b, o, hA, hb, hX, hcell⟩ := hr (by omega)
  exact ⟨b, o, hA, hb, hX, fun q hq => by rw [hcell q (by omega), List.getElem?_take, if_pos hq]⟩
theorem Rd.cutR {w : World} {X : Nat → Prop} {size n c j : Nat} {A : Option Addr} {xs : List Value} (h : Rd w X size (.slice A n c) n xs) (hj : j ≤ n) : Rd w X size (.slice (if c = j then A else A.map (·.add (j * size))) (n - j) (c - j)) (n - j) (xs.drop (j * size)) := by
  obtain ⟨hl, A', c', hv, hc, hr⟩ := h
  simp only [Value.slice.injEq, true_and] at hv
  obtain ⟨rfl, rfl⟩ := hv
  have hm : (n - j) * size = n * size - j * size := Nat.sub_mul _ _ _
  have hm2 : j * size ≤ n * size := Nat.mul_le_mul_right _ hj
  refine ⟨by rw [List.length_drop]; omega, _, c - j, rfl, by omega, fun h0 => ?_⟩
  obtain ⟨b, o, rfl, hb, hX, hcell⟩ := hr (by omega)
  refine ⟨b, o + j * size, ?_, hb, hX, fun q hq => ?_⟩
  · rw [if_neg (by omega)]
    simp [Addr_lit]
  · rw [Nat.add_assoc, hcell _ (by omega), List.getElem?_drop]
theorem Rd.of_at {w : World} {X : Nat → Prop} {size n c b : Nat} {e : TypeId} {cs : Array Value} (h : At w b e cs) (hX : ¬ X b) (hs : cs.size = n * size) (hn : n ≤ c) : Rd w X size (.slice (some ⟨b, 0, none⟩) n c) n cs.toList :=
  ⟨by simpa using hs, _, _, rfl, hn, fun _ => ⟨b, 0, rfl, h.lt, hX, fun j _ => by rw [Nat.zero_add, h.cell]; simp⟩⟩
end Go.Proofs.YtbanpohholnkaaaDoor

namespace Go.Proofs.YtbanpohholnkaaaDoor
open Go.RowKit

/-- A row that was made since a world. -/
structure App (wb w : World) (e : TypeId) (size : Nat) (v : Value) (n : Nat) (xs : List Value) : Prop where
  own : w.ownsRow 0 e size v n xs
  keep : Keep (fun _ => False) wb w
  new : ∀ g, v.ownBlock = some g → wb.heap.size ≤ g
theorem App.next {wb w w0 w' : World} {e : TypeId} {size n m : Nat} {v v' : Value} {xs ys : List Value} (h : App wb w e size v n xs) (h0 : Keep (fun _ => False) w w0) (ho : w'.ownsRow 0 e size v' m ys) (hk : Keep (fun k => v.ownBlock = some k) w0 w') (hn : ∀ g, v'.ownBlock = some g → v.ownBlock = some g ∨ w0.heap.size ≤ g) : App wb w' e size v' m ys :=
  ⟨ho, (h.keep.trans h0 (fun _ _ x => x)).weak hk (fun i hi => h.new i hi), fun g hg => by
    rcases hn g hg with hg | hg
    · exact h.new g hg
    · have := h.keep.size; have := h0.size; omega⟩
theorem App.off {wb w w' : World} {e : TypeId} {size n : Nat} {v : Value} {xs : List Value} {X : Nat → Prop} (h : App wb w e size v n xs) (hk : Keep X w w') (hX : ∀ g, X g → wb.heap.size ≤ g) (hv : ∀ g, v.ownBlock = some g → ¬ X g) : App wb w' e size v n xs :=
  ⟨hk.own h.own hv, h.keep.weak hk hX, h.new⟩
theorem ins_strs {l : List Ft} {j : Nat} {s : ByteArray} {t : Ty} : ([] ++ (strs (l.map (·.1))).take (j * 1) ++ [.string s]) ++ (strs (l.map (·.1))).drop (j * 1) = strs ((l.take j ++ (s, t) :: l.drop j).map (·.1)) := by
  simp [strs, List.map_take, List.map_drop]
theorem tflat_take (rs : List Tv) (j : Nat) : (tflat rs).take (j * 4) = tflat (rs.take j) := by
  induction rs generalizing j with
  | nil => simp [tflat]
  | cons r rs ih =>
    cases j with
    | zero => simp [tflat]
    | succ j =>
      have e : (j + 1) * 4 = j * 4 + 1 + 1 + 1 + 1 := by omega
      rw [tflat_cons, e, List.take_succ_cons, tflat_cons, ← ih]
      simp [Tv.vals]
theorem tflat_drop (rs : List Tv) (j : Nat) : (tflat rs).drop (j * 4) = tflat (rs.drop j) := by
  induction rs generalizing j with
  | nil => simp [tflat]
  | cons r rs ih =>
    cases j with
    | zero => simp [tflat]
    | succ j =>
      have e : (j + 1) * 4 = j * 4 + 1 + 1 + 1 + 1 := by omega
      rw [tflat_cons, e, List.drop_succ_cons, ← ih]
      simp [Tv.vals]
theorem ins_kids {rs : List Tv} {j : Nat} {q : Tv} : ([] ++ (tflat rs).take (j * 4) ++ q.vals) ++ (tflat rs).drop (j * 4) = tflat (rs.take j ++ q :: rs.drop j) := by
  rw [tflat_take, tflat_drop, tflat_append, tflat_cons]
  simp
structure RrR (w1 wr : World) (Z : Nat → Prop) (names : List ByteArray) (kids : List Ty) (i tb : Nat) (l : List Ft) (A A' : Option Addr) (c c' : Nat) (rs : List Tv) : Prop where
  keep : Keep (fun g => g = tb) w1 wr
  box : At wr tb 25 #[.int .i64 5, .string ⟨#[]⟩, .slice A i c, .slice A' i c']
  nms : Rd wr Z 1 (.slice A i c) i (strs (l.map (·.1)))
  kds : Rd wr Z 4 (.slice A' i c') i (tflat rs)
  tys : TysV wr Z rs (l.map (·.2))
  inv : RecI names kids i l
def RrA (w1 : World) (Z : Nat → Prop) (names : List ByteArray) (kids : List Ty) (n tb : Nat) (k : Nat) (b : Value) (wr : World) : Prop :=
  ∃ (i : Nat) (l : List Ft) (A A' : Option Addr) (c c' : Nat) (rs : List Tv), b = .int .i64 i ∧ i ≤ n ∧ k = n - i ∧ RrR w1 wr Z names kids i tb l A A' c c' rs
theorem RrR.step {w1 wr w' : World} {Z : Nat → Prop} {names : List ByteArray} {kids : List Ty} {i tb : Nat} {l : List Ft} {A A' : Option Addr} {c c' : Nat} {rs : List Tv} (h : RrR w1 wr Z names kids i tb l A A' c c' rs) (k : Keep (fun _ => False) wr w') : RrR w1 w' Z names kids i tb l A A' c c' rs :=
  ⟨h.keep.trans k (fun _ _ x => x.elim), k.at_ h.box (fun x => x), h.nms.keep k (fun _ x => x.elim), h.kds.keep k (fun _ x => x.elim), h.tys.step k, h.inv⟩
theorem gen_w {P : Program} {c : Code} {Q : Exit → Act → World → Prop} {a : Act} {w : World} (h : ∀ W, W = w → c.wp P Q a W) : c.wp P Q a w := h w rfl
theorem At.keepN {w : World} {b : Nat} {e : TypeId} {cs : Array Value} {n : Nat} (h : At w b e cs) : At (w.drewN n) b e cs := ((Keep.refl (fun _ => False) w).drewN n).at_ h (fun x => x)
theorem Rd.none_ {w : World} {X : Nat → Prop} {size m c : Nat} {A : Option Addr} {ys : List Value} (h : m = 0) (hy : ys = []) : Rd w X size (.slice A m c) m ys := by
  subst h hy
  exact ⟨by simp, A, c, rfl, Nat.zero_le _, fun h => absurd h (by omega)⟩
theorem Rd.cutS {w : World} {X : Nat → Prop} {size n c j b o o' : Nat} {xs : List Value} (h : Rd w X size (.slice (some ⟨b, o, none⟩) n c) n xs) (hj : j < n) (ho : o' = o + j * size) : Rd w X size (.slice (some ⟨b, o', none⟩) (n - j) (c - j)) (n - j) (xs.drop (j * size)) := by
  subst ho
  have hc : n ≤ c := by obtain ⟨_, A0, c0, hv0, hc0, _⟩ := h; simp only [Value.slice.injEq, true_and] at hv0; omega
  have := h.cutR (j := j) (by omega)
  rw [if_neg (by omega)] at this
  simpa [Addr_lit] using this
theorem zero_cut {l : List Ft} {rs : List Tv} {i j : Nat} (h1 : j ≤ i) (h2 : i ≤ j) (hl : l.length = i) (hr : rs.length = i) : i - j = 0 ∧ (strs (l.map (·.1))).drop (j * 1) = [] ∧ (tflat rs).drop (j * 4) = [] :=
  ⟨by omega, List.drop_of_length_le (by rw [strs_length, List.length_map]; omega), List.drop_of_length_le (by rw [tflat_length]; omega)⟩
theorem RecI.fin' {names : List ByteArray} {kids : List Ty} {l : List Ft} {i : Nat} (h : RecI names kids i l) (hi : names.length = i) (hl : names.length = kids.length) (h16 : names.length ≤ 16) : recT names kids = some (recOf l) := by
  subst hi
  exact h.fin hl h16
def RiA (w2 : World) (l : List Ft) (s : ByteArray) (n : Nat) (k : Nat) (b : Value) (wr : World) : Prop :=
  ∃ j : Nat, b = .int .i64 j ∧ j ≤ n ∧ k = n - j ∧ (∀ (q : Nat) (y : Ft), q < j → l[q]? = some y → ltS y.1 s = true) ∧ Keep (fun _ => False) w2 wr
/-- The fields behind a round. -/
theorem RrR.put {w1 wr wb w5 w6 : World} {Z : Nat → Prop} {names : List ByteArray} {kids : List Ty} {i j tb : Nat} {l : List Ft} {A A' A3 A6 : Option Addr} {c c' c3 c6 : Nat} {rs : List Tv} {s : ByteArray} {kd : Ty} {q : Tv}
    (h : RrR w1 wr Z names kids i tb l A A' c c' rs) (hb : Keep (fun _ => False) wr wb) (hZ : ∀ g, Z g → g < w1.heap.size) (hq : TyV w1 Z q kd) (hs : names[i]? = some s) (ht : kids[i]? = some kd) (hn : nameB s = true) (hj : j ≤ l.length)
    (h1 : ∀ (q : Nat) (y : Ft), q < j → l[q]? = some y → ltS y.1 s = true) (h2 : ∀ y, l[j]? = some y → ltS y.1 s = false ∧ y.1 ≠ s) (hZt : Z tb)
    (hA : App wb w5 9 1 (.slice A3 (i + 1) c3) (i + 1) (strs ((l.take j ++ (s, kd) :: l.drop j).map (·.1)))) (hB : App wb w5 25 4 (.slice A6 (i + 1) c6) (i + 1) (tflat (rs.take j ++ q :: rs.drop j)))
    (he : w6 = (w5.setCell ⟨tb, 2, none⟩ (.slice A3 (i + 1) c3)).setCell ⟨tb, 3, none⟩ (.slice A6 (i + 1) c6)) :
    RrR w1 w6 Z names kids (i + 1) tb (l.take j ++ (s, kd) :: l.drop j) A3 A6 c3 c6 (rs.take j ++ q :: rs.drop j) := by
  have hz1 := h.keep.size
  have hz2 := hb.size
  have hkb := hb.trans hA.keep (fun _ _ x => x)
  have hst : Keep (fun g => g = tb) w5 w6 := by
    rw [he]
    exact Keep.setCell (X := fun g => g = tb) (p := ⟨tb, 3, none⟩) (Keep.setCell (X := fun g => g = tb) (p := ⟨tb, 2, none⟩) (Keep.refl _ w5) (.inl rfl) _) (.inl rfl) _
  have hk1 : Keep (fun g => g = tb) w1 w5 := h.keep.trans hkb (fun _ _ x => x.elim)
  have hk6 : Keep (fun g => g = tb) w1 w6 := hk1.trans hst (fun _ _ x => x)
  have hbx : At w6 tb 25 #[.int .i64 5, .string ⟨#[]⟩, .slice A3 (i + 1) c3, .slice A6 (i + 1) c6] := by
    rw [he]
    exact ((hkb.at_ h.box (fun x => x)).set 2 _).set 3 _
  have hnew : ∀ {g : Nat}, wb.heap.size ≤ g → ¬ Z g := fun {g} hg hz => by
    have := hZ g hz
    omega
  have hne : ∀ {g : Nat}, wb.heap.size ≤ g → ¬ g = tb := fun {g} hg e => by
    have := h.box.lt
    omega
  refine ⟨hk6, hbx, Rd.of_own (hst.own hA.own (fun g hg => hne (hA.new g hg))) (fun g hg => hnew (hA.new g hg)), Rd.of_own (hst.own hB.own (fun g hg => hne (hB.new g hg))) (fun g hg => hnew (hB.new g hg)), ?_, h.inv.step hs ht hn hj h1 h2⟩
  have e : (l.take j ++ (s, kd) :: l.drop j).map (·.2) = (l.map (·.2)).take j ++ kd :: (l.map (·.2)).drop j := by simp [List.map_take, List.map_drop]
  rw [e]
  have hty : TysV w6 Z rs (l.map (·.2)) := (h.tys.step hkb).keep hst (fun _ _ hg => by rw [hg]; exact hZt) (fun _ _ hz => hz)
  have hqq : TyV w6 Z q kd := hq.keep hk6 (fun _ _ hg => by rw [hg]; exact hZt) (fun _ _ hz => hz)
  exact (hty.take j).append ⟨hqq, hty.drop j⟩
theorem row_ne {w : World} {e e' : TypeId} {size size' n n' g : Nat} {v v' : Value} {xs ys : List Value} (h : w.ownsRow 0 e size v n xs) (h' : w.ownsRow 0 e' size' v' n' ys) (hne : e ≠ e') (hg : v.ownBlock = some g) (hg' : v'.ownBlock = some g) : False := by
  rcases own_cases h' with ⟨rfl, _, _⟩ | ⟨g', cap, rfl, _, _⟩
  · simp [Value.ownBlock] at hg'
  · simp only [Value.ownBlock, Option.some.injEq] at hg'
    subst hg'
    exact own_own h h' hne hg
set_option maxRecDepth 100000 in
set_option maxHeartbeats 16000000 in
set_option pp.deepTerms true in
set_option pp.deepTerms.threshold 100000 in
set_option pp.maxSteps 1000000 in
theorem rrec_any {w : World} {X : Nat → Prop} (hX : ∀ i, X i → i < w.heap.size) {An Ak : Option Addr} {n m cn ck : Nat} {names : List ByteArray} {kids : List Ty} {rs : List Tv} (hb : n ≤ 140737488355328) (hb' : m ≤ 140737488355328)
    (h : Rd w X 1 (.slice An n cn) n (strs names)) (h' : Rd w X 4 (.slice Ak m ck) m (tflat rs)) (hv : TysV w X rs kids) :
    Calls Tryd.prog 67 #[.slice An n cn, .slice Ak m ck] w fun e w' => OptP X (recT names kids) e w' ∧ Keep (fun _ => False) w w' := by
  have hn := h.slen
  have hm : kids.length = m := by rw [← hv.len, h'.nlen]
  have k1 : Keep (fun _ => False) w ((w.alloc (.cells #[.int .i64 0, .string ⟨#[]⟩, .slice none 0 0, .slice none 0 0] 25)).alloc (.cells #[.int .i64 5, .string ⟨#[]⟩, .slice none 0 0, .slice none 0 0] 25)) := ((Keep.refl _ w).alloc _).alloc _
  have r1 : At ((w.alloc (.cells #[.int .i64 0, .string ⟨#[]⟩, .slice none 0 0, .slice none 0 0] 25)).alloc (.cells #[.int .i64 5, .string ⟨#[]⟩, .slice none 0 0, .slice none 0 0] 25)) w.heap.size 25 #[.int .i64 0, .string ⟨#[]⟩, .slice none 0 0, .slice none 0 0] := (At.new _ _ _).alloc _
  have t1 : At ((w.alloc (.cells #[.int .i64 0, .string ⟨#[]⟩, .slice none 0 0, .slice none 0 0] 25)).alloc (.cells #[.int .i64 5, .string ⟨#[]⟩, .slice none 0 0, .slice none 0 0] 25)) (w.heap.size + 1) 25 #[.int .i64 5, .string ⟨#[]⟩, .slice none 0 0, .slice none 0 0] := At.new_at (by simp)
  have hZ : ∀ g, (X g ∨ g = w.heap.size ∨ g = w.heap.size + 1) → g < ((w.alloc (.cells #[.int .i64 0, .string ⟨#[]⟩, .slice none 0 0, .slice none 0 0] 25)).alloc (.cells #[.int .i64 5, .string ⟨#[]⟩, .slice none 0 0, .slice none 0 0] 25)).heap.size := fun g hg => by
    rcases hg with hg | rfl | rfl
    · exact Nat.lt_of_lt_of_le (hX g hg) k1.size
    · exact r1.lt
    · exact t1.lt
  have hmono : ∀ i, i < w.heap.size → (X i ∨ i = w.heap.size ∨ i = w.heap.size + 1) → X i := fun i hi hx => by
    rcases hx with hx | hx | hx
    · exact hx
    · omega
    · omega
  have hnm : Rd ((w.alloc (.cells #[.int .i64 0, .string ⟨#[]⟩, .slice none 0 0, .slice none 0 0] 25)).alloc (.cells #[.int .i64 5, .string ⟨#[]⟩, .slice none 0 0, .slice none 0 0] 25)) (fun g => X g ∨ g = w.heap.size ∨ g = w.heap.size + 1) 1 (.slice An n cn) n (strs names) := (h.mono (Y := fun g => X g ∨ g = w.heap.size ∨ g = w.heap.size + 1) hmono).keep k1 (fun _ x => x.elim)
  have hkd : Rd ((w.alloc (.cells #[.int .i64 0, .string ⟨#[]⟩, .slice none 0 0, .slice none 0 0] 25)).alloc (.cells #[.int .i64 5, .string ⟨#[]⟩, .slice none 0 0, .slice none 0 0] 25)) (fun g => X g ∨ g = w.heap.size ∨ g = w.heap.size + 1) 4 (.slice Ak m ck) m (tflat rs) := (h'.mono (Y := fun g => X g ∨ g = w.heap.size ∨ g = w.heap.size + 1) hmono).keep k1 (fun _ x => x.elim)
  have hty : TysV ((w.alloc (.cells #[.int .i64 0, .string ⟨#[]⟩, .slice none 0 0, .slice none 0 0] 25)).alloc (.cells #[.int .i64 5, .string ⟨#[]⟩, .slice none 0 0, .slice none 0 0] 25)) (fun g => X g ∨ g = w.heap.size ∨ g = w.heap.size + 1) rs kids := hv.keep k1 (fun _ _ x => x.elim) hmono
  have H := Lib.hid (And.intro k1 (And.intro r1 (And.intro t1 (And.intro hZ (And.intro hnm (And.intro hkd (And.intro hty hX)))))))
  have HN := Lib.hid (And.intro hn hm)
  clear hX h h' hv k1 r1 t1 hZ hmono hnm hkd hty
  by_cases hnm : n = m
  · subst hnm
    have d1 : ((n : Int) == (n : Int)) = true := by simp
    have d1' : ((n : Int) != (n : Int)) = false := by simp
    by_cases h16 : 16 < n
    · have d2 : decide (16 < (n : Int)) = true := by simp; omega
      have d2' : decide (16 < n) = true := by simp; omega
      have hno : recT names kids = none := recT_none (.inr (.inl (by omega)))
      have HNO := Lib.hid hno
      clear hno hn hm
      go_enter Tryd.func67, Tryd.ntmps67
      go_upto_region 3 with fail
      obtain ⟨rl, r0, r1, r2, r3⟩ := H.out.2.1.tcells
      obtain ⟨tl, t0, t1, t2, t3⟩ := H.out.2.2.1.tcells
      have rf := H.out.2.1.frozen
      have rf0 := rf 0
      have rf1 := rf 1
      have rf2 := rf 2
      have rf3 := rf 3
      clear rf
      have HF := Lib.hid (And.intro H.out.1 H.out.2.1)
      clear H
      generalize ((w.alloc (.cells #[.int .i64 0, .string ⟨#[]⟩, .slice none 0 0, .slice none 0 0] 25)).alloc (.cells #[.int .i64 5, .string ⟨#[]⟩, .slice none 0 0, .slice none 0 0] 25)) = w1 at *
      go_wp2_with fail
      (try simp only [Exit.inBlock, Exit.then])
      refine bodyPost_ret (ret_cell rfl rfl ((((HF.out.2.set 0 _).set 1 _).set 2 _).set 3 _)) rfl ?_
      exact ⟨OptP.no HNO.out ⟨5, ⟨#[]⟩, none, 0, 0, none, 0, 0⟩, Keep.set4 HF.out.1 (.inr (Nat.le_refl _)) _ _ _ _⟩
    · have d2 : decide (16 < (n : Int)) = false := by simp; omega
      have d2' : decide (16 < n) = false := by simp; omega
      have hn16 : n ≤ 16 := by omega
      clear h16
      have h0 : Hid (RrA ((w.alloc (.cells #[.int .i64 0, .string ⟨#[]⟩, .slice none 0 0, .slice none 0 0] 25)).alloc (.cells #[.int .i64 5, .string ⟨#[]⟩, .slice none 0 0, .slice none 0 0] 25)) (fun g => X g ∨ g = w.heap.size ∨ g = w.heap.size + 1) names kids n (w.heap.size + 1) n (.int .i64 0) ((w.alloc (.cells #[.int .i64 0, .string ⟨#[]⟩, .slice none 0 0, .slice none 0 0] 25)).alloc (.cells #[.int .i64 5, .string ⟨#[]⟩, .slice none 0 0, .slice none 0 0] 25))) := ⟨0, [], none, none, 0, 0, [], rfl, Nat.zero_le _, rfl, Keep.refl _ _, H.out.2.2.1, Rd.nil _ _ 1, Rd.nil _ _ 4, trivial, RecI.zero names kids⟩
      go_enter Tryd.func67, Tryd.ntmps67
      go_wp2_with fail
      generalize ((w.alloc (.cells #[.int .i64 0, .string ⟨#[]⟩, .slice none 0 0, .slice none 0 0] 25)).alloc (.cells #[.int .i64 5, .string ⟨#[]⟩, .slice none 0 0, .slice none 0 0] 25)) = w1 at *
      generalize hre : w.heap.size = rb at *
      generalize hte : rb + 1 = tb at *
      have HRE := Lib.hid (And.intro hre hte)
      clear hre hte
      go_loopg [7] n (RrA w1 (fun g => X g ∨ g = rb ∨ g = tb) names kids n tb)
      case atStart => exact h0.out
      case round =>
        clear h0
        obtain ⟨i, l, A, A', c, c', rs', rfl, hi, rfl, hR⟩ := hrel
        have hll : l.length = i := hR.inv.len (by omega) (by omega)
        have hic : i ≤ c := by obtain ⟨_, A0, c0, hv0, hc0, _⟩ := hR.nms; simp only [Value.slice.injEq, true_and] at hv0; omega
        have hic' : i ≤ c' := by obtain ⟨_, A0, c0, hv0, hc0, _⟩ := hR.kds; simp only [Value.slice.injEq, true_and] at hv0; omega
        by_cases hlt : i < n
        · obtain ⟨s, hs⟩ : ∃ s, names[i]? = some s := ⟨_, List.getElem?_eq_getElem (by omega)⟩
          obtain ⟨kd, hkd⟩ : ∃ kd, kids[i]? = some kd := ⟨_, List.getElem?_eq_getElem (by omega)⟩
          obtain ⟨⟨qk, qnm, qAn, qnn, qcn, qAk, qnk, qck⟩, hq, hqv⟩ := H.out.2.2.2.2.2.2.1.at_ hkd
          have hkw : Keep (fun _ => False) wr wr := Keep.refl _ _
          have hZtb : ∀ g, (g = tb) → (X g ∨ g = rb ∨ g = tb) := fun g hg => .inr (.inr hg)
          obtain ⟨b, o, hAn, hbz, hbX, c0⟩ := (H.out.2.2.2.2.1.keep hR.keep (fun g hg => .inr (.inr hg))).scell hlt hs
          obtain ⟨b', o', hAk, hbz', hbX', e0, e1, e2, e3⟩ := (H.out.2.2.2.2.2.1.keep hR.keep (fun g hg => .inr (.inr hg))).tcells hlt hq
          simp only at e0 e1 e2 e3
          subst hAn hAk
          have hnmc := rName_any s wr
          have HR := Lib.hid (And.intro hR (And.intro hs (And.intro hkd (And.intro hqv (And.intro hbX hbX')))))
          obtain ⟨tl, t0, t1, t2, t3⟩ := hR.box.tcells
          clear hR hs hkd hqv hq hkw hbX hbX' t0 t1 t3 tl t2
          cases hnb : nameB s with
          | false =>
            rw [hnb] at hnmc
            have HNO := Lib.hid (RecI.bad (kids := kids) HR.out.2.1 hnb)
            clear hnb
            go_wp2_with (go_at_call 78; refine hnmc.mono ?_; rintro e w2 ⟨rfl, hk2⟩; have H2 := Lib.hid hk2; clear hk2 hnmc)
            have h0 : Hid (RiA w2 l s i i (.int .i64 0) w2) := ⟨0, rfl, Nat.zero_le _, rfl, fun q y hq _ => absurd hq (by omega), Keep.refl _ _⟩
            go_loopg [9] i (RiA w2 l s i)
            case atStart => exact h0.out
            case round =>
              clear h0
              obtain ⟨j, rfl, hj, rfl, hless, hk3⟩ := hrel
              have k3 := H2.out.trans hk3 (fun _ _ x => x)
              have k3h := Lib.hid k3
              have hR3 := HR.out.1.step k3
              have hRa := Lib.hid (hR3.keep.at_ H.out.2.1 (fun e => by have := HRE.out; omega))
              have HKW := Lib.hid (H.out.1.weak hR3.keep (fun g hg => by have := HRE.out; omega))
              obtain ⟨tl, t0, t1, t2, t3⟩ := hR3.box.tcells
              have c0' := k3.cell c0 (fun x => x)
              have hbz3 := Nat.lt_of_lt_of_le hbz k3.size
              have j0 : (0 : Int) ≤ (j : Int) := by omega
              have i0 : (0 : Int) ≤ (i : Int) := by omega
              have i1 : (i : Int) < (n : Int) := by omega
              by_cases hjl : j < i
              · obtain ⟨y, hy⟩ : ∃ y, l[j]? = some y := ⟨_, List.getElem?_eq_getElem (by omega)⟩
                obtain ⟨yb, yo, hA, ybz, ybX, yc⟩ := hR3.nms.scell hjl (show (l.map (·.1))[j]? = some y.1 by simp [hy])
                subst hA
                obtain ⟨kq, hkq⟩ : ∃ kq, rs'[j]? = some kq := ⟨_, List.getElem?_eq_getElem (by have := hR3.kds.nlen; omega)⟩
                obtain ⟨kb, ko, hA', _⟩ := hR3.kds.tcells hjl hkq
                subst hA'
                clear hkq
                have HS := Lib.hid (And.intro hless (And.intro hk3 (And.intro hR3 hy)))
                have j1 : (j : Int) < (i : Int) := by omega
                have dj : decide ((j : Int) < (i : Int)) = true := by simp; omega
                have dj' : decide (j < i) = true := by simp; omega
                have hlb := ltS_bytes y.1 s
                clear hless hk3 hR3 k3 ybX hy
                obtain ⟨ys, hys⟩ : ∃ ys, y.1 = ys := ⟨_, rfl⟩
                rw [hys] at yc hlb
                have HY := Lib.hid hys
                clear hys
                cases hlts : ltS ys s with
                | true =>
                  rw [hlts] at hlb
                  have HLT := Lib.hid hlts
                  clear hlts
                  go_wp2_with fail
                  go_quiet (fail)
                  go_wp2_with fail
                  go_roundg (i - (j + 1))
                  case measure => omega
                  case rel =>
                    refine ⟨j + 1, by go_num, by omega, rfl, fun q z hq hz => ?_, HS.out.2.1.drewN _⟩
                    by_cases hqj : q < j
                    · exact HS.out.1 q z hqj hz
                    · have : q = j := by omega
                      subst this
                      have hzy : z = y := Option.some.inj (hz.symm.trans HS.out.2.2.2)
                      rw [hzy, HY.out]
                      exact HLT.out
                | false =>
                  rw [hlts] at hlb
                  have HLT := Lib.hid hlts
                  clear hlts
                  obtain ⟨rl, r0, r1, r2, r3⟩ := hRa.out.tcells
                  have rf0 := hRa.out.frozen 0
                  have rf1 := hRa.out.frozen 1
                  have rf2 := hRa.out.frozen 2
                  have rf3 := hRa.out.frozen 3
                  go_wp2_with fail
                  go_quiet (fail)
                  go_wp2_with fail
                  go_quiet (fail)
                  go_wp2_with fail
                  (try simp only [Exit.inBlock, Exit.then])
                  refine bodyPost_ret (ret_cell rfl rfl (((((At.keepN hRa.out).set 0 _).set 1 _).set 2 _).set 3 _)) rfl ?_
                  exact ⟨OptP.no HNO.out ⟨5, ⟨#[]⟩, _, _, _, _, _, _⟩, Keep.set4 (HKW.out.drewN _) (.inr (by have := HRE.out; omega)) _ _ _ _⟩
              · have hje : j = i := by omega
                have HS := Lib.hid (And.intro hless (And.intro hk3 (And.intro hR3 hje)))
                have dj : decide ((j : Int) < (i : Int)) = false := by simp; omega
                have dj' : decide (j < i) = false := by simp; omega
                clear hless hk3 hR3 k3 hje
                obtain ⟨rl, r0, r1, r2, r3⟩ := hRa.out.tcells
                have rf0 := hRa.out.frozen 0
                have rf1 := hRa.out.frozen 1
                have rf2 := hRa.out.frozen 2
                have rf3 := hRa.out.frozen 3
                go_wp2_with fail
                go_quiet (fail)
                go_wp2_with fail
                go_quiet (fail)
                go_wp2_with fail
                (try simp only [Exit.inBlock, Exit.then])
                refine bodyPost_ret (ret_cell rfl rfl (((((At.keepN hRa.out).set 0 _).set 1 _).set 2 _).set 3 _)) rfl ?_
                exact ⟨OptP.no HNO.out ⟨5, ⟨#[]⟩, _, _, _, _, _, _⟩, Keep.set4 (HKW.out.drewN _) (.inr (by have := HRE.out; omega)) _ _ _ _⟩
          | true =>
            rw [hnb] at hnmc
            have HNB := Lib.hid hnb
            clear hnb
            go_wp2_with (go_at_call 78; refine hnmc.mono ?_; rintro e w2 ⟨rfl, hk2⟩; have H2 := Lib.hid hk2; clear hk2 hnmc)
            have h0 : Hid (RiA w2 l s i i (.int .i64 0) w2) := ⟨0, rfl, Nat.zero_le _, rfl, fun q y hq _ => absurd hq (by omega), Keep.refl _ _⟩
            go_loopg [9] i (RiA w2 l s i)
            case atStart => exact h0.out
            case round =>
              clear h0
              obtain ⟨j, rfl, hj, rfl, hless, hk3⟩ := hrel
              have k3 := H2.out.trans hk3 (fun _ _ x => x)
              have k3h := Lib.hid k3
              have hR3 := HR.out.1.step k3
              have hRa := Lib.hid (hR3.keep.at_ H.out.2.1 (fun e => by have := HRE.out; omega))
              have HKW := Lib.hid (H.out.1.weak hR3.keep (fun g hg => by have := HRE.out; omega))
              obtain ⟨tl, t0, t1, t2, t3⟩ := hR3.box.tcells
              have c0' := k3.cell c0 (fun x => x)
              have hbz3 := Nat.lt_of_lt_of_le hbz k3.size
              have j0 : (0 : Int) ≤ (j : Int) := by omega
              have i0 : (0 : Int) ≤ (i : Int) := by omega
              have i1 : (i : Int) < (n : Int) := by omega
              by_cases hjl : j < i
              · obtain ⟨y, hy⟩ : ∃ y, l[j]? = some y := ⟨_, List.getElem?_eq_getElem (by omega)⟩
                obtain ⟨yb, yo, hA, ybz, ybX, yc⟩ := hR3.nms.scell hjl (show (l.map (·.1))[j]? = some y.1 by simp [hy])
                subst hA
                obtain ⟨kq, hkq⟩ : ∃ kq, rs'[j]? = some kq := ⟨_, List.getElem?_eq_getElem (by have := hR3.kds.nlen; omega)⟩
                obtain ⟨kb, ko, hA', _⟩ := hR3.kds.tcells hjl hkq
                subst hA'
                clear hkq
                have HS := Lib.hid (And.intro hless (And.intro hk3 (And.intro hR3 hy)))
                have j1 : (j : Int) < (i : Int) := by omega
                have dj : decide ((j : Int) < (i : Int)) = true := by simp; omega
                have dj' : decide (j < i) = true := by simp; omega
                have hlb := ltS_bytes y.1 s
                clear hless hk3 hR3 k3 ybX hy
                obtain ⟨ys, hys⟩ : ∃ ys, y.1 = ys := ⟨_, rfl⟩
                rw [hys] at yc hlb
                have HY := Lib.hid hys
                clear hys
                cases hlts : ltS ys s with
                | true =>
                  rw [hlts] at hlb
                  have HLT := Lib.hid hlts
                  clear hlts
                  go_wp2_with fail
                  go_quiet (fail)
                  go_wp2_with fail
                  go_roundg (i - (j + 1))
                  case measure => omega
                  case rel =>
                    refine ⟨j + 1, by go_num, by omega, rfl, fun q z hq hz => ?_, HS.out.2.1.drewN _⟩
                    by_cases hqj : q < j
                    · exact HS.out.1 q z hqj hz
                    · have : q = j := by omega
                      subst this
                      have hzy : z = y := Option.some.inj (hz.symm.trans HS.out.2.2.2)
                      rw [hzy, HY.out]
                      exact HLT.out
                | false =>
                  rw [hlts] at hlb
                  have HLT := Lib.hid hlts
                  clear hlts
                  by_cases he : ys = s
                  · subst he
                    have hd := str_beq ys
                    have HNO := Lib.hid (HR.out.1.inv.dup (List.mem_of_getElem? HS.out.2.2.2) HR.out.2.1 HY.out)
                    obtain ⟨rl, r0, r1, r2, r3⟩ := hRa.out.tcells
                    have rf0 := hRa.out.frozen 0
                    have rf1 := hRa.out.frozen 1
                    have rf2 := hRa.out.frozen 2
                    have rf3 := hRa.out.frozen 3
                    go_wp2_with fail
                    go_quiet (fail)
                    go_wp2_with fail
                    go_quiet (fail)
                    go_wp2_with fail
                    (try simp only [Exit.inBlock, Exit.then])
                    refine bodyPost_ret (ret_cell rfl rfl (((((At.keepN hRa.out).set 0 _).set 1 _).set 2 _).set 3 _)) rfl ?_
                    exact ⟨OptP.no HNO.out ⟨5, ⟨#[]⟩, _, _, _, _, _, _⟩, Keep.set4 (HKW.out.drewN _) (.inr (by have := HRE.out; omega)) _ _ _ _⟩
                  · have hd := str_bne he
                    have HNE := Lib.hid he
                    clear he
                    go_wp2_with fail
                    go_quiet (fail)
                    go_wp2_with fail
                    go_quiet (fail)
                    go_upto_region 13 with fail
                    refine gen_w ?_
                    intro wq hwq
                    have kq : Keep (fun _ => False) wr wq := by rw [hwq]; repeat (first | exact Keep.refl _ _ | refine Keep.drewN ?_ _ | refine Keep.drew ?_)
                    clear hwq
                    have HI := Lib.hid (And.intro (HS.out.2.2.1.step kq) (And.intro (kq.cell c0' (fun x => x)) (And.intro (Nat.lt_of_lt_of_le hbz3 kq.size) (And.intro ((k3h.out.trans kq (fun _ _ x => x)).cell e0 (fun x => x)) (And.intro ((k3h.out.trans kq (fun _ _ x => x)).cell e1 (fun x => x)) (And.intro ((k3h.out.trans kq (fun _ _ x => x)).cell e2 (fun x => x)) (And.intro ((k3h.out.trans kq (fun _ _ x => x)).cell e3 (fun x => x)) (Nat.lt_of_lt_of_le hbz' (k3h.out.trans kq (fun _ _ x => x)).size))))))))
                    have HKQ := Lib.hid kq
                    obtain ⟨xl, x0, x1, x2, x3⟩ := HI.out.1.box.tcells
                    clear kq
                    go_wp2_with (first
                      | (at_builtin; refine wpList_app_rd rfl (.const (.slice none 0 0)) (.tmp 79) 22 rfl E9 (.slice none 0 0) 0 [] rfl (World.ownsRow_nil _ 0 9 1) (.slice (some ⟨yb, yo, none⟩) j c) j ((strs (l.map (·.1))).take (j * 1)) rfl (HI.out.1.nms.cutL (Nat.le_of_lt hjl)) (fun u hu => strs_one _ u (List.mem_of_mem_take hu)) (by omega) (by decide) ?_; intro v1 w1' ho hk hn; rw [show 0 + j = j by omega] at ho; have A1 := App.next (w := wq) ⟨World.ownsRow_nil _ 0 9 1, Keep.refl _ _, fun g hg => by simp [Value.ownBlock] at hg⟩ (Keep.refl _ _) ho hk hn; have n1 := A1.keep.cell HI.out.2.1 (fun x => x); have nl := Nat.lt_of_lt_of_le HI.out.2.2.1 A1.keep.size; have A1 := Lib.hid A1; clear ho hk hn xl x0 x1 x2 x3)
                      | (at_builtin; refine wpList_app_rd rfl (.tmp 81) (.tmp 86) 22 rfl E9 v1 j ([] ++ (strs (l.map (·.1))).take (j * 1)) rfl (A1.out.own.alloc _) (.slice (some ⟨w1'.heap.size, 0, none⟩) 1 1) 1 [.string s] rfl (Rd.of_at (X := fun _ => False) (At.new w1' 9 #[.string s]) (fun x => x) rfl (Nat.le_refl _)) (by simp [Value.oneCell']) (by omega) (by decide) ?_; intro v2 w2' ho hk hn; have A2 := App.next A1.out ((Keep.refl _ w1').alloc _) ho hk hn; obtain ⟨xl, x0, x1, x2, x3⟩ := (A2.keep.at_ HI.out.1.box (fun x => x)).tcells; have A2 := Lib.hid A2; clear ho hk hn n1 nl)
                      | (at_builtin; refine wpList_app_rd rfl (.tmp 88) (.tmp 92) 22 rfl E9 v2 (j + 1) ([] ++ (strs (l.map (·.1))).take (j * 1) ++ [.string s]) rfl A2.out.own (.slice (some ⟨yb, yo + j, none⟩) (i - j) (c - j)) (i - j) ((strs (l.map (·.1))).drop (j * 1)) (by rfl) ((HI.out.1.nms.cutS (o' := yo + j) hjl (by omega)).keep (Y := fun _ => False) A2.out.keep (fun _ x => x.elim)) (fun u hu => strs_one _ u (List.mem_of_mem_drop hu)) (by omega) (by decide) ?_; intro v3 w3' ho hk hn; rw [show j + 1 + (i - j) = i + 1 by omega, ins_strs (t := kd)] at ho; have A3 := App.next A2.out (Keep.refl _ _) ho hk hn; obtain ⟨N3, c3, rfl⟩ := own_slice A3.own; obtain ⟨xl, x0, x1, x2, x3⟩ := (A3.keep.at_ HI.out.1.box (fun x => x)).tcells; have A3 := Lib.hid A3; clear ho hk hn)
                      | (at_builtin; refine wpList_app_rd rfl (.const (.slice none 0 0)) (.tmp 97) 23 rfl E25 (.slice none 0 0) 0 [] rfl (World.ownsRow_nil _ 0 25 4) (.slice (some ⟨kb, ko, none⟩) j c') j ((tflat rs').take (j * 4)) rfl ((HI.out.1.kds.cutL (Nat.le_of_lt hjl)).keep (Y := fun _ => False) A3.out.keep (fun _ x => x.elim)) (fun u hu => tflat_one _ u (List.mem_of_mem_take hu)) (by omega) (by decide) ?_; intro v4 w4' ho hk hn; rw [show 0 + j = j by omega] at ho; have B4 := App.next (wb := wq) (w := w3') ⟨World.ownsRow_nil _ 0 25 4, A3.out.keep, fun g hg => by simp [Value.ownBlock] at hg⟩ (Keep.refl _ _) ho hk hn; have A4 := Lib.hid (A3.out.off (hk.mono (Y := fun _ => False) (fun _ _ hx => by simp [Value.ownBlock] at hx)) (fun _ x => x.elim) (fun _ _ x => x)); have n0 := B4.keep.cell HI.out.2.2.2.1 (fun x => x); have n1 := B4.keep.cell HI.out.2.2.2.2.1 (fun x => x); have n2 := B4.keep.cell HI.out.2.2.2.2.2.1 (fun x => x); have n3 := B4.keep.cell HI.out.2.2.2.2.2.2.1 (fun x => x); have nl := Nat.lt_of_lt_of_le HI.out.2.2.2.2.2.2.2 B4.keep.size; have B4 := Lib.hid B4; clear ho hk hn xl x0 x1 x2 x3)
                      | (at_builtin; refine wpList_app_rd rfl (.tmp 99) (.tmp 104) 23 rfl E25 v4 j ([] ++ (tflat rs').take (j * 4)) rfl (B4.out.own.alloc _) (.slice (some ⟨w4'.heap.size, 0, none⟩) 1 1) 1 [.int .i64 qk, .string qnm, .slice qAn qnn qcn, .slice qAk qnk qck] rfl (Rd.of_at (X := fun _ => False) (At.new w4' 25 #[.int .i64 qk, .string qnm, .slice qAn qnn qcn, .slice qAk qnk qck]) (fun x => x) rfl (Nat.le_refl _)) (by simp [Value.oneCell']) (by omega) (by decide) ?_; intro v5 w5' ho hk hn; have B5 := App.next B4.out ((Keep.refl _ w4').alloc _) ho hk hn; have A5 := Lib.hid ((A4.out.off ((Keep.refl (fun _ => False) w4').alloc (.cells #[.int .i64 qk, .string qnm, .slice qAn qnn qcn, .slice qAk qnk qck] 25)) (fun _ x => x.elim) (fun _ _ x => x)).off hk (fun g hg => B4.out.new g hg) (fun g hg hx => row_ne A4.out.own B4.out.own (by decide) hg hx)); obtain ⟨xl, x0, x1, x2, x3⟩ := (B5.keep.at_ HI.out.1.box (fun x => x)).tcells; have B5 := Lib.hid B5; clear ho hk hn n0 n1 n2 n3 nl)
                      | (at_builtin; refine wpList_app_rd rfl (.tmp 106) (.tmp 110) 23 rfl E25 v5 (j + 1) ([] ++ (tflat rs').take (j * 4) ++ [.int .i64 qk, .string qnm, .slice qAn qnn qcn, .slice qAk qnk qck]) rfl B5.out.own (.slice (some ⟨kb, ko + j * 4, none⟩) (i - j) (c' - j)) (i - j) ((tflat rs').drop (j * 4)) (by rfl) ((HI.out.1.kds.cutS (o' := ko + j * 4) hjl rfl).keep (Y := fun _ => False) B5.out.keep (fun _ x => x.elim)) (fun u hu => tflat_one _ u (List.mem_of_mem_drop hu)) (by omega) (by decide) ?_; intro v6 w6' ho hk hn; rw [show j + 1 + (i - j) = i + 1 by omega, show ([.int .i64 qk, .string qnm, .slice qAn qnn qcn, .slice qAk qnk qck] : List Value) = Tv.vals ⟨qk, qnm, qAn, qnn, qcn, qAk, qnk, qck⟩ from rfl, ins_kids] at ho; have B6 := App.next B5.out (Keep.refl _ _) ho hk hn; have A6 := Lib.hid (A5.out.off hk (fun g hg => B5.out.new g hg) (fun g hg hx => row_ne A5.out.own B5.out.own (by decide) hg hx)); obtain ⟨N6, c6, rfl⟩ := own_slice B6.own; clear xl x0 x1 x2 x3; have bx := B6.keep.at_ HI.out.1.box (fun x => x); obtain ⟨xl, x0, x1, x2, x3⟩ := bx.tcells; have f2 := bx.frozen 2; have f3 := bx.frozen 3; have B6 := Lib.hid B6; clear ho hk hn bx))
                    go_roundg (n - (i + 1))
                    case measure => omega
                    case rel =>
                      exact ⟨i + 1, _, N3, N6, c3, c6, _, by go_num, by omega, rfl, HR.out.1.put ((k3h.out).trans HKQ.out (fun _ _ x => x)) H.out.2.2.2.1 HR.out.2.2.2.1 HR.out.2.1 HR.out.2.2.1 HNB.out (by omega) HS.out.1 (fun z hz => by have hzy : z = y := Option.some.inj (hz.symm.trans HS.out.2.2.2); rw [hzy, HY.out]; exact ⟨HLT.out, HNE.out⟩) (.inr (.inr rfl)) A6.out B6.out rfl⟩
              · have hje : j = i := by omega
                have HS := Lib.hid (And.intro hless (And.intro hk3 (And.intro hR3 hje)))
                have dj : decide ((j : Int) < (i : Int)) = false := by simp; omega
                have dj' : decide (j < i) = false := by simp; omega
                clear hless hk3 hR3 k3 hje
                by_cases hcj : c = j
                · obtain rfl : j = c := hcj.symm
                  by_cases hcj' : c' = j
                  · obtain rfl : j = c' := hcj'.symm
                    have hjle : j ≤ i := by omega
                    have HM0 := Lib.hid (zero_cut (l := l) (rs := rs') hjle (show i ≤ j by omega) hll (show rs'.length = i from HS.out.2.2.1.kds.nlen))
                    go_wp2_with fail
                    go_quiet (fail)
                    go_wp2_with fail
                    go_quiet (fail)
                    go_upto_region 13 with fail
                    refine gen_w ?_
                    intro wq hwq
                    have kq : Keep (fun _ => False) wr wq := by rw [hwq]; repeat (first | exact Keep.refl _ _ | refine Keep.drewN ?_ _ | refine Keep.drew ?_)
                    clear hwq
                    have HI := Lib.hid (And.intro (HS.out.2.2.1.step kq) (And.intro (kq.cell c0' (fun x => x)) (And.intro (Nat.lt_of_lt_of_le hbz3 kq.size) (And.intro ((k3h.out.trans kq (fun _ _ x => x)).cell e0 (fun x => x)) (And.intro ((k3h.out.trans kq (fun _ _ x => x)).cell e1 (fun x => x)) (And.intro ((k3h.out.trans kq (fun _ _ x => x)).cell e2 (fun x => x)) (And.intro ((k3h.out.trans kq (fun _ _ x => x)).cell e3 (fun x => x)) (Nat.lt_of_lt_of_le hbz' (k3h.out.trans kq (fun _ _ x => x)).size))))))))
                    have HKQ := Lib.hid kq
                    obtain ⟨xl, x0, x1, x2, x3⟩ := HI.out.1.box.tcells
                    clear kq
                    go_wp2_with (first
                      | (at_builtin; refine wpList_app_rd rfl (.const (.slice none 0 0)) (.tmp 79) 22 rfl E9 (.slice none 0 0) 0 [] rfl (World.ownsRow_nil _ 0 9 1) (.slice A j j) j ((strs (l.map (·.1))).take (j * 1)) rfl (HI.out.1.nms.cutL hjle) (fun u hu => strs_one _ u (List.mem_of_mem_take hu)) (by omega) (by decide) ?_; intro v1 w1' ho hk hn; rw [show 0 + j = j by omega] at ho; have A1 := App.next (w := wq) ⟨World.ownsRow_nil _ 0 9 1, Keep.refl _ _, fun g hg => by simp [Value.ownBlock] at hg⟩ (Keep.refl _ _) ho hk hn; have n1 := A1.keep.cell HI.out.2.1 (fun x => x); have nl := Nat.lt_of_lt_of_le HI.out.2.2.1 A1.keep.size; have A1 := Lib.hid A1; clear ho hk hn xl x0 x1 x2 x3)
                      | (at_builtin; refine wpList_app_rd rfl (.tmp 81) (.tmp 86) 22 rfl E9 v1 j ([] ++ (strs (l.map (·.1))).take (j * 1)) rfl (A1.out.own.alloc _) (.slice (some ⟨w1'.heap.size, 0, none⟩) 1 1) 1 [.string s] rfl (Rd.of_at (X := fun _ => False) (At.new w1' 9 #[.string s]) (fun x => x) rfl (Nat.le_refl _)) (by simp [Value.oneCell']) (by omega) (by decide) ?_; intro v2 w2' ho hk hn; have A2 := App.next A1.out ((Keep.refl _ w1').alloc _) ho hk hn; obtain ⟨xl, x0, x1, x2, x3⟩ := (A2.keep.at_ HI.out.1.box (fun x => x)).tcells; have A2 := Lib.hid A2; clear ho hk hn n1 nl)
                      | (at_builtin; refine wpList_app_rd rfl (.tmp 88) (.tmp 92) 22 rfl E9 v2 (j + 1) ([] ++ (strs (l.map (·.1))).take (j * 1) ++ [.string s]) rfl A2.out.own (.slice A 0 0) 0 ((strs (l.map (·.1))).drop (j * 1)) (by rfl) (Rd.none_ (X := fun _ => False) rfl HM0.out.2.1) (fun u hu => strs_one _ u (List.mem_of_mem_drop hu)) (by omega) (by decide) ?_; intro v3 w3' ho hk hn; rw [show j + 1 + 0 = i + 1 by omega, ins_strs (t := kd)] at ho; have A3 := App.next A2.out (Keep.refl _ _) ho hk hn; obtain ⟨N3, c3, rfl⟩ := own_slice A3.own; obtain ⟨xl, x0, x1, x2, x3⟩ := (A3.keep.at_ HI.out.1.box (fun x => x)).tcells; have A3 := Lib.hid A3; clear ho hk hn)
                      | (at_builtin; refine wpList_app_rd rfl (.const (.slice none 0 0)) (.tmp 97) 23 rfl E25 (.slice none 0 0) 0 [] rfl (World.ownsRow_nil _ 0 25 4) (.slice A' j j) j ((tflat rs').take (j * 4)) rfl ((HI.out.1.kds.cutL hjle).keep (Y := fun _ => False) A3.out.keep (fun _ x => x.elim)) (fun u hu => tflat_one _ u (List.mem_of_mem_take hu)) (by omega) (by decide) ?_; intro v4 w4' ho hk hn; rw [show 0 + j = j by omega] at ho; have B4 := App.next (wb := wq) (w := w3') ⟨World.ownsRow_nil _ 0 25 4, A3.out.keep, fun g hg => by simp [Value.ownBlock] at hg⟩ (Keep.refl _ _) ho hk hn; have A4 := Lib.hid (A3.out.off (hk.mono (Y := fun _ => False) (fun _ _ hx => by simp [Value.ownBlock] at hx)) (fun _ x => x.elim) (fun _ _ x => x)); have n0 := B4.keep.cell HI.out.2.2.2.1 (fun x => x); have n1 := B4.keep.cell HI.out.2.2.2.2.1 (fun x => x); have n2 := B4.keep.cell HI.out.2.2.2.2.2.1 (fun x => x); have n3 := B4.keep.cell HI.out.2.2.2.2.2.2.1 (fun x => x); have nl := Nat.lt_of_lt_of_le HI.out.2.2.2.2.2.2.2 B4.keep.size; have B4 := Lib.hid B4; clear ho hk hn xl x0 x1 x2 x3)
                      | (at_builtin; refine wpList_app_rd rfl (.tmp 99) (.tmp 104) 23 rfl E25 v4 j ([] ++ (tflat rs').take (j * 4)) rfl (B4.out.own.alloc _) (.slice (some ⟨w4'.heap.size, 0, none⟩) 1 1) 1 [.int .i64 qk, .string qnm, .slice qAn qnn qcn, .slice qAk qnk qck] rfl (Rd.of_at (X := fun _ => False) (At.new w4' 25 #[.int .i64 qk, .string qnm, .slice qAn qnn qcn, .slice qAk qnk qck]) (fun x => x) rfl (Nat.le_refl _)) (by simp [Value.oneCell']) (by omega) (by decide) ?_; intro v5 w5' ho hk hn; have B5 := App.next B4.out ((Keep.refl _ w4').alloc _) ho hk hn; have A5 := Lib.hid ((A4.out.off ((Keep.refl (fun _ => False) w4').alloc (.cells #[.int .i64 qk, .string qnm, .slice qAn qnn qcn, .slice qAk qnk qck] 25)) (fun _ x => x.elim) (fun _ _ x => x)).off hk (fun g hg => B4.out.new g hg) (fun g hg hx => row_ne A4.out.own B4.out.own (by decide) hg hx)); obtain ⟨xl, x0, x1, x2, x3⟩ := (B5.keep.at_ HI.out.1.box (fun x => x)).tcells; have B5 := Lib.hid B5; clear ho hk hn n0 n1 n2 n3 nl)
                      | (at_builtin; refine wpList_app_rd rfl (.tmp 106) (.tmp 110) 23 rfl E25 v5 (j + 1) ([] ++ (tflat rs').take (j * 4) ++ [.int .i64 qk, .string qnm, .slice qAn qnn qcn, .slice qAk qnk qck]) rfl B5.out.own (.slice A' 0 0) 0 ((tflat rs').drop (j * 4)) (by rfl) (Rd.none_ (X := fun _ => False) rfl HM0.out.2.2) (fun u hu => tflat_one _ u (List.mem_of_mem_drop hu)) (by omega) (by decide) ?_; intro v6 w6' ho hk hn; rw [show j + 1 + 0 = i + 1 by omega, show ([.int .i64 qk, .string qnm, .slice qAn qnn qcn, .slice qAk qnk qck] : List Value) = Tv.vals ⟨qk, qnm, qAn, qnn, qcn, qAk, qnk, qck⟩ from rfl, ins_kids] at ho; have B6 := App.next B5.out (Keep.refl _ _) ho hk hn; have A6 := Lib.hid (A5.out.off hk (fun g hg => B5.out.new g hg) (fun g hg hx => row_ne A5.out.own B5.out.own (by decide) hg hx)); obtain ⟨N6, c6, rfl⟩ := own_slice B6.own; clear xl x0 x1 x2 x3; have bx := B6.keep.at_ HI.out.1.box (fun x => x); obtain ⟨xl, x0, x1, x2, x3⟩ := bx.tcells; have f2 := bx.frozen 2; have f3 := bx.frozen 3; have B6 := Lib.hid B6; clear ho hk hn bx))
                    go_roundg (n - (i + 1))
                    case measure => omega
                    case rel =>
                      exact ⟨i + 1, _, N3, N6, c3, c6, _, by go_num, by omega, rfl, HR.out.1.put ((k3h.out).trans HKQ.out (fun _ _ x => x)) H.out.2.2.2.1 HR.out.2.2.2.1 HR.out.2.1 HR.out.2.2.1 HNB.out (by omega) HS.out.1 (fun z hz => by have := (List.getElem?_eq_some_iff.1 hz).1; have := HS.out.2.2.2; omega) (.inr (.inr rfl)) A6.out B6.out rfl⟩
                  · skip
                    have hjle : j ≤ i := by omega
                    have HM0 := Lib.hid (zero_cut (l := l) (rs := rs') hjle (show i ≤ j by omega) hll (show rs'.length = i from HS.out.2.2.1.kds.nlen))
                    go_wp2_with fail
                    go_quiet (fail)
                    go_wp2_with fail
                    go_quiet (fail)
                    go_upto_region 13 with fail
                    refine gen_w ?_
                    intro wq hwq
                    have kq : Keep (fun _ => False) wr wq := by rw [hwq]; repeat (first | exact Keep.refl _ _ | refine Keep.drewN ?_ _ | refine Keep.drew ?_)
                    clear hwq
                    have HI := Lib.hid (And.intro (HS.out.2.2.1.step kq) (And.intro (kq.cell c0' (fun x => x)) (And.intro (Nat.lt_of_lt_of_le hbz3 kq.size) (And.intro ((k3h.out.trans kq (fun _ _ x => x)).cell e0 (fun x => x)) (And.intro ((k3h.out.trans kq (fun _ _ x => x)).cell e1 (fun x => x)) (And.intro ((k3h.out.trans kq (fun _ _ x => x)).cell e2 (fun x => x)) (And.intro ((k3h.out.trans kq (fun _ _ x => x)).cell e3 (fun x => x)) (Nat.lt_of_lt_of_le hbz' (k3h.out.trans kq (fun _ _ x => x)).size))))))))
                    have HKQ := Lib.hid kq
                    obtain ⟨xl, x0, x1, x2, x3⟩ := HI.out.1.box.tcells
                    clear kq
                    go_wp2_with (first
                      | (at_builtin; refine wpList_app_rd rfl (.const (.slice none 0 0)) (.tmp 79) 22 rfl E9 (.slice none 0 0) 0 [] rfl (World.ownsRow_nil _ 0 9 1) (.slice A j j) j ((strs (l.map (·.1))).take (j * 1)) rfl (HI.out.1.nms.cutL hjle) (fun u hu => strs_one _ u (List.mem_of_mem_take hu)) (by omega) (by decide) ?_; intro v1 w1' ho hk hn; rw [show 0 + j = j by omega] at ho; have A1 := App.next (w := wq) ⟨World.ownsRow_nil _ 0 9 1, Keep.refl _ _, fun g hg => by simp [Value.ownBlock] at hg⟩ (Keep.refl _ _) ho hk hn; have n1 := A1.keep.cell HI.out.2.1 (fun x => x); have nl := Nat.lt_of_lt_of_le HI.out.2.2.1 A1.keep.size; have A1 := Lib.hid A1; clear ho hk hn xl x0 x1 x2 x3)
                      | (at_builtin; refine wpList_app_rd rfl (.tmp 81) (.tmp 86) 22 rfl E9 v1 j ([] ++ (strs (l.map (·.1))).take (j * 1)) rfl (A1.out.own.alloc _) (.slice (some ⟨w1'.heap.size, 0, none⟩) 1 1) 1 [.string s] rfl (Rd.of_at (X := fun _ => False) (At.new w1' 9 #[.string s]) (fun x => x) rfl (Nat.le_refl _)) (by simp [Value.oneCell']) (by omega) (by decide) ?_; intro v2 w2' ho hk hn; have A2 := App.next A1.out ((Keep.refl _ w1').alloc _) ho hk hn; obtain ⟨xl, x0, x1, x2, x3⟩ := (A2.keep.at_ HI.out.1.box (fun x => x)).tcells; have A2 := Lib.hid A2; clear ho hk hn n1 nl)
                      | (at_builtin; refine wpList_app_rd rfl (.tmp 88) (.tmp 92) 22 rfl E9 v2 (j + 1) ([] ++ (strs (l.map (·.1))).take (j * 1) ++ [.string s]) rfl A2.out.own (.slice A 0 0) 0 ((strs (l.map (·.1))).drop (j * 1)) (by rfl) (Rd.none_ (X := fun _ => False) rfl HM0.out.2.1) (fun u hu => strs_one _ u (List.mem_of_mem_drop hu)) (by omega) (by decide) ?_; intro v3 w3' ho hk hn; rw [show j + 1 + 0 = i + 1 by omega, ins_strs (t := kd)] at ho; have A3 := App.next A2.out (Keep.refl _ _) ho hk hn; obtain ⟨N3, c3, rfl⟩ := own_slice A3.own; obtain ⟨xl, x0, x1, x2, x3⟩ := (A3.keep.at_ HI.out.1.box (fun x => x)).tcells; have A3 := Lib.hid A3; clear ho hk hn)
                      | (at_builtin; refine wpList_app_rd rfl (.const (.slice none 0 0)) (.tmp 97) 23 rfl E25 (.slice none 0 0) 0 [] rfl (World.ownsRow_nil _ 0 25 4) (.slice A' j c') j ((tflat rs').take (j * 4)) rfl ((HI.out.1.kds.cutL hjle).keep (Y := fun _ => False) A3.out.keep (fun _ x => x.elim)) (fun u hu => tflat_one _ u (List.mem_of_mem_take hu)) (by omega) (by decide) ?_; intro v4 w4' ho hk hn; rw [show 0 + j = j by omega] at ho; have B4 := App.next (wb := wq) (w := w3') ⟨World.ownsRow_nil _ 0 25 4, A3.out.keep, fun g hg => by simp [Value.ownBlock] at hg⟩ (Keep.refl _ _) ho hk hn; have A4 := Lib.hid (A3.out.off (hk.mono (Y := fun _ => False) (fun _ _ hx => by simp [Value.ownBlock] at hx)) (fun _ x => x.elim) (fun _ _ x => x)); have n0 := B4.keep.cell HI.out.2.2.2.1 (fun x => x); have n1 := B4.keep.cell HI.out.2.2.2.2.1 (fun x => x); have n2 := B4.keep.cell HI.out.2.2.2.2.2.1 (fun x => x); have n3 := B4.keep.cell HI.out.2.2.2.2.2.2.1 (fun x => x); have nl := Nat.lt_of_lt_of_le HI.out.2.2.2.2.2.2.2 B4.keep.size; have B4 := Lib.hid B4; clear ho hk hn xl x0 x1 x2 x3)
                      | (at_builtin; refine wpList_app_rd rfl (.tmp 99) (.tmp 104) 23 rfl E25 v4 j ([] ++ (tflat rs').take (j * 4)) rfl (B4.out.own.alloc _) (.slice (some ⟨w4'.heap.size, 0, none⟩) 1 1) 1 [.int .i64 qk, .string qnm, .slice qAn qnn qcn, .slice qAk qnk qck] rfl (Rd.of_at (X := fun _ => False) (At.new w4' 25 #[.int .i64 qk, .string qnm, .slice qAn qnn qcn, .slice qAk qnk qck]) (fun x => x) rfl (Nat.le_refl _)) (by simp [Value.oneCell']) (by omega) (by decide) ?_; intro v5 w5' ho hk hn; have B5 := App.next B4.out ((Keep.refl _ w4').alloc _) ho hk hn; have A5 := Lib.hid ((A4.out.off ((Keep.refl (fun _ => False) w4').alloc (.cells #[.int .i64 qk, .string qnm, .slice qAn qnn qcn, .slice qAk qnk qck] 25)) (fun _ x => x.elim) (fun _ _ x => x)).off hk (fun g hg => B4.out.new g hg) (fun g hg hx => row_ne A4.out.own B4.out.own (by decide) hg hx)); obtain ⟨xl, x0, x1, x2, x3⟩ := (B5.keep.at_ HI.out.1.box (fun x => x)).tcells; have B5 := Lib.hid B5; clear ho hk hn n0 n1 n2 n3 nl)
                      | (at_builtin; refine wpList_app_rd rfl (.tmp 106) (.tmp 110) 23 rfl E25 v5 (j + 1) ([] ++ (tflat rs').take (j * 4) ++ [.int .i64 qk, .string qnm, .slice qAn qnn qcn, .slice qAk qnk qck]) rfl B5.out.own (.slice (Option.map (fun x => x.add (j * 4)) A') 0 (c' - j)) 0 ((tflat rs').drop (j * 4)) (by rfl) (Rd.none_ (X := fun _ => False) rfl HM0.out.2.2) (fun u hu => tflat_one _ u (List.mem_of_mem_drop hu)) (by omega) (by decide) ?_; intro v6 w6' ho hk hn; rw [show j + 1 + 0 = i + 1 by omega, show ([.int .i64 qk, .string qnm, .slice qAn qnn qcn, .slice qAk qnk qck] : List Value) = Tv.vals ⟨qk, qnm, qAn, qnn, qcn, qAk, qnk, qck⟩ from rfl, ins_kids] at ho; have B6 := App.next B5.out (Keep.refl _ _) ho hk hn; have A6 := Lib.hid (A5.out.off hk (fun g hg => B5.out.new g hg) (fun g hg hx => row_ne A5.out.own B5.out.own (by decide) hg hx)); obtain ⟨N6, c6, rfl⟩ := own_slice B6.own; clear xl x0 x1 x2 x3; have bx := B6.keep.at_ HI.out.1.box (fun x => x); obtain ⟨xl, x0, x1, x2, x3⟩ := bx.tcells; have f2 := bx.frozen 2; have f3 := bx.frozen 3; have B6 := Lib.hid B6; clear ho hk hn bx))
                    go_roundg (n - (i + 1))
                    case measure => omega
                    case rel =>
                      exact ⟨i + 1, _, N3, N6, c3, c6, _, by go_num, by omega, rfl, HR.out.1.put ((k3h.out).trans HKQ.out (fun _ _ x => x)) H.out.2.2.2.1 HR.out.2.2.2.1 HR.out.2.1 HR.out.2.2.1 HNB.out (by omega) HS.out.1 (fun z hz => by have := (List.getElem?_eq_some_iff.1 hz).1; have := HS.out.2.2.2; omega) (.inr (.inr rfl)) A6.out B6.out rfl⟩
                · skip
                  by_cases hcj' : c' = j
                  · obtain rfl : j = c' := hcj'.symm
                    have hjle : j ≤ i := by omega
                    have HM0 := Lib.hid (zero_cut (l := l) (rs := rs') hjle (show i ≤ j by omega) hll (show rs'.length = i from HS.out.2.2.1.kds.nlen))
                    go_wp2_with fail
                    go_quiet (fail)
                    go_wp2_with fail
                    go_quiet (fail)
                    go_upto_region 13 with fail
                    refine gen_w ?_
                    intro wq hwq
                    have kq : Keep (fun _ => False) wr wq := by rw [hwq]; repeat (first | exact Keep.refl _ _ | refine Keep.drewN ?_ _ | refine Keep.drew ?_)
                    clear hwq
                    have HI := Lib.hid (And.intro (HS.out.2.2.1.step kq) (And.intro (kq.cell c0' (fun x => x)) (And.intro (Nat.lt_of_lt_of_le hbz3 kq.size) (And.intro ((k3h.out.trans kq (fun _ _ x => x)).cell e0 (fun x => x)) (And.intro ((k3h.out.trans kq (fun _ _ x => x)).cell e1 (fun x => x)) (And.intro ((k3h.out.trans kq (fun _ _ x => x)).cell e2 (fun x => x)) (And.intro ((k3h.out.trans kq (fun _ _ x => x)).cell e3 (fun x => x)) (Nat.lt_of_lt_of_le hbz' (k3h.out.trans kq (fun _ _ x => x)).size))))))))
                    have HKQ := Lib.hid kq
                    obtain ⟨xl, x0, x1, x2, x3⟩ := HI.out.1.box.tcells
                    clear kq
                    go_wp2_with (first
                      | (at_builtin; refine wpList_app_rd rfl (.const (.slice none 0 0)) (.tmp 79) 22 rfl E9 (.slice none 0 0) 0 [] rfl (World.ownsRow_nil _ 0 9 1) (.slice A j c) j ((strs (l.map (·.1))).take (j * 1)) rfl (HI.out.1.nms.cutL hjle) (fun u hu => strs_one _ u (List.mem_of_mem_take hu)) (by omega) (by decide) ?_; intro v1 w1' ho hk hn; rw [show 0 + j = j by omega] at ho; have A1 := App.next (w := wq) ⟨World.ownsRow_nil _ 0 9 1, Keep.refl _ _, fun g hg => by simp [Value.ownBlock] at hg⟩ (Keep.refl _ _) ho hk hn; have n1 := A1.keep.cell HI.out.2.1 (fun x => x); have nl := Nat.lt_of_lt_of_le HI.out.2.2.1 A1.keep.size; have A1 := Lib.hid A1; clear ho hk hn xl x0 x1 x2 x3)
                      | (at_builtin; refine wpList_app_rd rfl (.tmp 81) (.tmp 86) 22 rfl E9 v1 j ([] ++ (strs (l.map (·.1))).take (j * 1)) rfl (A1.out.own.alloc _) (.slice (some ⟨w1'.heap.size, 0, none⟩) 1 1) 1 [.string s] rfl (Rd.of_at (X := fun _ => False) (At.new w1' 9 #[.string s]) (fun x => x) rfl (Nat.le_refl _)) (by simp [Value.oneCell']) (by omega) (by decide) ?_; intro v2 w2' ho hk hn; have A2 := App.next A1.out ((Keep.refl _ w1').alloc _) ho hk hn; obtain ⟨xl, x0, x1, x2, x3⟩ := (A2.keep.at_ HI.out.1.box (fun x => x)).tcells; have A2 := Lib.hid A2; clear ho hk hn n1 nl)
                      | (at_builtin; refine wpList_app_rd rfl (.tmp 88) (.tmp 92) 22 rfl E9 v2 (j + 1) ([] ++ (strs (l.map (·.1))).take (j * 1) ++ [.string s]) rfl A2.out.own (.slice (Option.map (fun x => x.add j) A) 0 (c - j)) 0 ((strs (l.map (·.1))).drop (j * 1)) (by rfl) (Rd.none_ (X := fun _ => False) rfl HM0.out.2.1) (fun u hu => strs_one _ u (List.mem_of_mem_drop hu)) (by omega) (by decide) ?_; intro v3 w3' ho hk hn; rw [show j + 1 + 0 = i + 1 by omega, ins_strs (t := kd)] at ho; have A3 := App.next A2.out (Keep.refl _ _) ho hk hn; obtain ⟨N3, c3, rfl⟩ := own_slice A3.own; obtain ⟨xl, x0, x1, x2, x3⟩ := (A3.keep.at_ HI.out.1.box (fun x => x)).tcells; have A3 := Lib.hid A3; clear ho hk hn)
                      | (at_builtin; refine wpList_app_rd rfl (.const (.slice none 0 0)) (.tmp 97) 23 rfl E25 (.slice none 0 0) 0 [] rfl (World.ownsRow_nil _ 0 25 4) (.slice A' j j) j ((tflat rs').take (j * 4)) rfl ((HI.out.1.kds.cutL hjle).keep (Y := fun _ => False) A3.out.keep (fun _ x => x.elim)) (fun u hu => tflat_one _ u (List.mem_of_mem_take hu)) (by omega) (by decide) ?_; intro v4 w4' ho hk hn; rw [show 0 + j = j by omega] at ho; have B4 := App.next (wb := wq) (w := w3') ⟨World.ownsRow_nil _ 0 25 4, A3.out.keep, fun g hg => by simp [Value.ownBlock] at hg⟩ (Keep.refl _ _) ho hk hn; have A4 := Lib.hid (A3.out.off (hk.mono (Y := fun _ => False) (fun _ _ hx => by simp [Value.ownBlock] at hx)) (fun _ x => x.elim) (fun _ _ x => x)); have n0 := B4.keep.cell HI.out.2.2.2.1 (fun x => x); have n1 := B4.keep.cell HI.out.2.2.2.2.1 (fun x => x); have n2 := B4.keep.cell HI.out.2.2.2.2.2.1 (fun x => x); have n3 := B4.keep.cell HI.out.2.2.2.2.2.2.1 (fun x => x); have nl := Nat.lt_of_lt_of_le HI.out.2.2.2.2.2.2.2 B4.keep.size; have B4 := Lib.hid B4; clear ho hk hn xl x0 x1 x2 x3)
                      | (at_builtin; refine wpList_app_rd rfl (.tmp 99) (.tmp 104) 23 rfl E25 v4 j ([] ++ (tflat rs').take (j * 4)) rfl (B4.out.own.alloc _) (.slice (some ⟨w4'.heap.size, 0, none⟩) 1 1) 1 [.int .i64 qk, .string qnm, .slice qAn qnn qcn, .slice qAk qnk qck] rfl (Rd.of_at (X := fun _ => False) (At.new w4' 25 #[.int .i64 qk, .string qnm, .slice qAn qnn qcn, .slice qAk qnk qck]) (fun x => x) rfl (Nat.le_refl _)) (by simp [Value.oneCell']) (by omega) (by decide) ?_; intro v5 w5' ho hk hn; have B5 := App.next B4.out ((Keep.refl _ w4').alloc _) ho hk hn; have A5 := Lib.hid ((A4.out.off ((Keep.refl (fun _ => False) w4').alloc (.cells #[.int .i64 qk, .string qnm, .slice qAn qnn qcn, .slice qAk qnk qck] 25)) (fun _ x => x.elim) (fun _ _ x => x)).off hk (fun g hg => B4.out.new g hg) (fun g hg hx => row_ne A4.out.own B4.out.own (by decide) hg hx)); obtain ⟨xl, x0, x1, x2, x3⟩ := (B5.keep.at_ HI.out.1.box (fun x => x)).tcells; have B5 := Lib.hid B5; clear ho hk hn n0 n1 n2 n3 nl)
                      | (at_builtin; refine wpList_app_rd rfl (.tmp 106) (.tmp 110) 23 rfl E25 v5 (j + 1) ([] ++ (tflat rs').take (j * 4) ++ [.int .i64 qk, .string qnm, .slice qAn qnn qcn, .slice qAk qnk qck]) rfl B5.out.own (.slice A' 0 0) 0 ((tflat rs').drop (j * 4)) (by rfl) (Rd.none_ (X := fun _ => False) rfl HM0.out.2.2) (fun u hu => tflat_one _ u (List.mem_of_mem_drop hu)) (by omega) (by decide) ?_; intro v6 w6' ho hk hn; rw [show j + 1 + 0 = i + 1 by omega, show ([.int .i64 qk, .string qnm, .slice qAn qnn qcn, .slice qAk qnk qck] : List Value) = Tv.vals ⟨qk, qnm, qAn, qnn, qcn, qAk, qnk, qck⟩ from rfl, ins_kids] at ho; have B6 := App.next B5.out (Keep.refl _ _) ho hk hn; have A6 := Lib.hid (A5.out.off hk (fun g hg => B5.out.new g hg) (fun g hg hx => row_ne A5.out.own B5.out.own (by decide) hg hx)); obtain ⟨N6, c6, rfl⟩ := own_slice B6.own; clear xl x0 x1 x2 x3; have bx := B6.keep.at_ HI.out.1.box (fun x => x); obtain ⟨xl, x0, x1, x2, x3⟩ := bx.tcells; have f2 := bx.frozen 2; have f3 := bx.frozen 3; have B6 := Lib.hid B6; clear ho hk hn bx))
                    go_roundg (n - (i + 1))
                    case measure => omega
                    case rel =>
                      exact ⟨i + 1, _, N3, N6, c3, c6, _, by go_num, by omega, rfl, HR.out.1.put ((k3h.out).trans HKQ.out (fun _ _ x => x)) H.out.2.2.2.1 HR.out.2.2.2.1 HR.out.2.1 HR.out.2.2.1 HNB.out (by omega) HS.out.1 (fun z hz => by have := (List.getElem?_eq_some_iff.1 hz).1; have := HS.out.2.2.2; omega) (.inr (.inr rfl)) A6.out B6.out rfl⟩
                  · skip
                    have hjle : j ≤ i := by omega
                    have HM0 := Lib.hid (zero_cut (l := l) (rs := rs') hjle (show i ≤ j by omega) hll (show rs'.length = i from HS.out.2.2.1.kds.nlen))
                    go_wp2_with fail
                    go_quiet (fail)
                    go_wp2_with fail
                    go_quiet (fail)
                    go_upto_region 13 with fail
                    refine gen_w ?_
                    intro wq hwq
                    have kq : Keep (fun _ => False) wr wq := by rw [hwq]; repeat (first | exact Keep.refl _ _ | refine Keep.drewN ?_ _ | refine Keep.drew ?_)
                    clear hwq
                    have HI := Lib.hid (And.intro (HS.out.2.2.1.step kq) (And.intro (kq.cell c0' (fun x => x)) (And.intro (Nat.lt_of_lt_of_le hbz3 kq.size) (And.intro ((k3h.out.trans kq (fun _ _ x => x)).cell e0 (fun x => x)) (And.intro ((k3h.out.trans kq (fun _ _ x => x)).cell e1 (fun x => x)) (And.intro ((k3h.out.trans kq (fun _ _ x => x)).cell e2 (fun x => x)) (And.intro ((k3h.out.trans kq (fun _ _ x => x)).cell e3 (fun x => x)) (Nat.lt_of_lt_of_le hbz' (k3h.out.trans kq (fun _ _ x => x)).size))))))))
                    have HKQ := Lib.hid kq
                    obtain ⟨xl, x0, x1, x2, x3⟩ := HI.out.1.box.tcells
                    clear kq
                    go_wp2_with (first
                      | (at_builtin; refine wpList_app_rd rfl (.const (.slice none 0 0)) (.tmp 79) 22 rfl E9 (.slice none 0 0) 0 [] rfl (World.ownsRow_nil _ 0 9 1) (.slice A j c) j ((strs (l.map (·.1))).take (j * 1)) rfl (HI.out.1.nms.cutL hjle) (fun u hu => strs_one _ u (List.mem_of_mem_take hu)) (by omega) (by decide) ?_; intro v1 w1' ho hk hn; rw [show 0 + j = j by omega] at ho; have A1 := App.next (w := wq) ⟨World.ownsRow_nil _ 0 9 1, Keep.refl _ _, fun g hg => by simp [Value.ownBlock] at hg⟩ (Keep.refl _ _) ho hk hn; have n1 := A1.keep.cell HI.out.2.1 (fun x => x); have nl := Nat.lt_of_lt_of_le HI.out.2.2.1 A1.keep.size; have A1 := Lib.hid A1; clear ho hk hn xl x0 x1 x2 x3)
                      | (at_builtin; refine wpList_app_rd rfl (.tmp 81) (.tmp 86) 22 rfl E9 v1 j ([] ++ (strs (l.map (·.1))).take (j * 1)) rfl (A1.out.own.alloc _) (.slice (some ⟨w1'.heap.size, 0, none⟩) 1 1) 1 [.string s] rfl (Rd.of_at (X := fun _ => False) (At.new w1' 9 #[.string s]) (fun x => x) rfl (Nat.le_refl _)) (by simp [Value.oneCell']) (by omega) (by decide) ?_; intro v2 w2' ho hk hn; have A2 := App.next A1.out ((Keep.refl _ w1').alloc _) ho hk hn; obtain ⟨xl, x0, x1, x2, x3⟩ := (A2.keep.at_ HI.out.1.box (fun x => x)).tcells; have A2 := Lib.hid A2; clear ho hk hn n1 nl)
                      | (at_builtin; refine wpList_app_rd rfl (.tmp 88) (.tmp 92) 22 rfl E9 v2 (j + 1) ([] ++ (strs (l.map (·.1))).take (j * 1) ++ [.string s]) rfl A2.out.own (.slice (Option.map (fun x => x.add j) A) (i - j) (c - j)) (i - j) ((strs (l.map (·.1))).drop (j * 1)) (by rfl) (Rd.none_ (X := fun _ => False) HM0.out.1 HM0.out.2.1) (fun u hu => strs_one _ u (List.mem_of_mem_drop hu)) (by omega) (by decide) ?_; intro v3 w3' ho hk hn; rw [show j + 1 + (i - j) = i + 1 by omega, ins_strs (t := kd)] at ho; have A3 := App.next A2.out (Keep.refl _ _) ho hk hn; obtain ⟨N3, c3, rfl⟩ := own_slice A3.own; obtain ⟨xl, x0, x1, x2, x3⟩ := (A3.keep.at_ HI.out.1.box (fun x => x)).tcells; have A3 := Lib.hid A3; clear ho hk hn)
                      | (at_builtin; refine wpList_app_rd rfl (.const (.slice none 0 0)) (.tmp 97) 23 rfl E25 (.slice none 0 0) 0 [] rfl (World.ownsRow_nil _ 0 25 4) (.slice A' j c') j ((tflat rs').take (j * 4)) rfl ((HI.out.1.kds.cutL hjle).keep (Y := fun _ => False) A3.out.keep (fun _ x => x.elim)) (fun u hu => tflat_one _ u (List.mem_of_mem_take hu)) (by omega) (by decide) ?_; intro v4 w4' ho hk hn; rw [show 0 + j = j by omega] at ho; have B4 := App.next (wb := wq) (w := w3') ⟨World.ownsRow_nil _ 0 25 4, A3.out.keep, fun g hg => by simp [Value.ownBlock] at hg⟩ (Keep.refl _ _) ho hk hn; have A4 := Lib.hid (A3.out.off (hk.mono (Y := fun _ => False) (fun _ _ hx => by simp [Value.ownBlock] at hx)) (fun _ x => x.elim) (fun _ _ x => x)); have n0 := B4.keep.cell HI.out.2.2.2.1 (fun x => x); have n1 := B4.keep.cell HI.out.2.2.2.2.1 (fun x => x); have n2 := B4.keep.cell HI.out.2.2.2.2.2.1 (fun x => x); have n3 := B4.keep.cell HI.out.2.2.2.2.2.2.1 (fun x => x); have nl := Nat.lt_of_lt_of_le HI.out.2.2.2.2.2.2.2 B4.keep.size; have B4 := Lib.hid B4; clear ho hk hn xl x0 x1 x2 x3)
                      | (at_builtin; refine wpList_app_rd rfl (.tmp 99) (.tmp 104) 23 rfl E25 v4 j ([] ++ (tflat rs').take (j * 4)) rfl (B4.out.own.alloc _) (.slice (some ⟨w4'.heap.size, 0, none⟩) 1 1) 1 [.int .i64 qk, .string qnm, .slice qAn qnn qcn, .slice qAk qnk qck] rfl (Rd.of_at (X := fun _ => False) (At.new w4' 25 #[.int .i64 qk, .string qnm, .slice qAn qnn qcn, .slice qAk qnk qck]) (fun x => x) rfl (Nat.le_refl _)) (by simp [Value.oneCell']) (by omega) (by decide) ?_; intro v5 w5' ho hk hn; have B5 := App.next B4.out ((Keep.refl _ w4').alloc _) ho hk hn; have A5 := Lib.hid ((A4.out.off ((Keep.refl (fun _ => False) w4').alloc (.cells #[.int .i64 qk, .string qnm, .slice qAn qnn qcn, .slice qAk qnk qck] 25)) (fun _ x => x.elim) (fun _ _ x => x)).off hk (fun g hg => B4.out.new g hg) (fun g hg hx => row_ne A4.out.own B4.out.own (by decide) hg hx)); obtain ⟨xl, x0, x1, x2, x3⟩ := (B5.keep.at_ HI.out.1.box (fun x => x)).tcells; have B5 := Lib.hid B5; clear ho hk hn n0 n1 n2 n3 nl)
                      | (at_builtin; refine wpList_app_rd rfl (.tmp 106) (.tmp 110) 23 rfl E25 v5 (j + 1) ([] ++ (tflat rs').take (j * 4) ++ [.int .i64 qk, .string qnm, .slice qAn qnn qcn, .slice qAk qnk qck]) rfl B5.out.own (.slice (Option.map (fun x => x.add (j * 4)) A') (i - j) (c' - j)) (i - j) ((tflat rs').drop (j * 4)) (by rfl) (Rd.none_ (X := fun _ => False) HM0.out.1 HM0.out.2.2) (fun u hu => tflat_one _ u (List.mem_of_mem_drop hu)) (by omega) (by decide) ?_; intro v6 w6' ho hk hn; rw [show j + 1 + (i - j) = i + 1 by omega, show ([.int .i64 qk, .string qnm, .slice qAn qnn qcn, .slice qAk qnk qck] : List Value) = Tv.vals ⟨qk, qnm, qAn, qnn, qcn, qAk, qnk, qck⟩ from rfl, ins_kids] at ho; have B6 := App.next B5.out (Keep.refl _ _) ho hk hn; have A6 := Lib.hid (A5.out.off hk (fun g hg => B5.out.new g hg) (fun g hg hx => row_ne A5.out.own B5.out.own (by decide) hg hx)); obtain ⟨N6, c6, rfl⟩ := own_slice B6.own; clear xl x0 x1 x2 x3; have bx := B6.keep.at_ HI.out.1.box (fun x => x); obtain ⟨xl, x0, x1, x2, x3⟩ := bx.tcells; have f2 := bx.frozen 2; have f3 := bx.frozen 3; have B6 := Lib.hid B6; clear ho hk hn bx))
                    go_roundg (n - (i + 1))
                    case measure => omega
                    case rel =>
                      exact ⟨i + 1, _, N3, N6, c3, c6, _, by go_num, by omega, rfl, HR.out.1.put ((k3h.out).trans HKQ.out (fun _ _ x => x)) H.out.2.2.2.1 HR.out.2.2.2.1 HR.out.2.1 HR.out.2.2.1 HNB.out (by omega) HS.out.1 (fun z hz => by have := (List.getElem?_eq_some_iff.1 hz).1; have := HS.out.2.2.2; omega) (.inr (.inr rfl)) A6.out B6.out rfl⟩
        · have hie : i = n := by omega
          subst hie
          have HF := Lib.hid (And.intro hR (And.intro (hR.keep.at_ H.out.2.1 (fun e => by have := HRE.out; omega)) (H.out.1.weak hR.keep (fun g hg => by have := HRE.out; omega))))
          obtain ⟨tl, t0, t1, t2, t3⟩ := hR.box.tcells
          obtain ⟨rl, r0, r1, r2, r3⟩ := HF.out.2.1.tcells
          have rf0 := HF.out.2.1.frozen 0
          have rf1 := HF.out.2.1.frozen 1
          have rf2 := HF.out.2.1.frozen 2
          have rf3 := HF.out.2.1.frozen 3
          clear hR
          go_wp2_with fail
          (try simp only [Exit.inBlock, Exit.then])
          refine bodyPost_ret (ret_cell rfl rfl ((((HF.out.2.1.set 0 _).set 1 _).set 2 _).set 3 _)) rfl ?_
          have hs4 := Keep.set4 (Keep.refl (fun g => g = rb) wr) (.inl rfl) (.int .i64 5) (.string ⟨#[]⟩) (.slice A i c) (.slice A' i c')
          have hnb16 : i ≤ 140737488355328 := by omega
          have hl2 : (l.map (·.1)).length = i := by simp [hll]
          have hl3 : (l.map (·.2)).length = i := by simp [hll]
          have hty : TyV _ X ⟨5, ⟨#[]⟩, A, i, c, A', i, c'⟩ (recOf l) := (TyV.mk (t := recOf l) (X := (fun g => X g ∨ g = rb ∨ g = tb)) ⟨rfl, hnb16, hnb16⟩ rfl hl2.symm HF.out.1.nms hl3.symm HF.out.1.kds HF.out.1.tys).keep hs4 (fun _ _ hg => by rw [hg]; exact .inr (.inl rfl)) (fun _ _ hx => .inl hx)
          exact ⟨OptP.yes (HF.out.1.inv.fin' (by omega) (by omega) (by omega)) hty, HF.out.2.2.weak hs4 (fun g hg => by have := HRE.out; omega)⟩
  · have d1 : ((n : Int) == (m : Int)) = false := by rw [beq_eq_false_iff_ne]; omega
    have d1' : ((n : Int) != (m : Int)) = true := by simp [bne, d1]
    have hno : recT names kids = none := recT_none (.inl (by omega))
    have HNO := Lib.hid hno
    clear hno hn hm
    go_enter Tryd.func67, Tryd.ntmps67
    go_upto_region 3 with fail
    obtain ⟨rl, r0, r1, r2, r3⟩ := H.out.2.1.tcells
    obtain ⟨tl, t0, t1, t2, t3⟩ := H.out.2.2.1.tcells
    have rf := H.out.2.1.frozen
    have rf0 := rf 0
    have rf1 := rf 1
    have rf2 := rf 2
    have rf3 := rf 3
    clear rf
    have HF := Lib.hid (And.intro H.out.1 H.out.2.1)
    clear H
    generalize ((w.alloc (.cells #[.int .i64 0, .string ⟨#[]⟩, .slice none 0 0, .slice none 0 0] 25)).alloc (.cells #[.int .i64 5, .string ⟨#[]⟩, .slice none 0 0, .slice none 0 0] 25)) = w1 at *
    go_wp2_with fail
    (try simp only [Exit.inBlock, Exit.then])
    refine bodyPost_ret (ret_cell rfl rfl ((((HF.out.2.set 0 _).set 1 _).set 2 _).set 3 _)) rfl ?_
    exact ⟨OptP.no HNO.out ⟨5, ⟨#[]⟩, none, 0, 0, none, 0, 0⟩, Keep.set4 HF.out.1 (.inr (Nat.le_refl _)) _ _ _ _⟩
end Go.Proofs.YtbanpohholnkaaaDoor

namespace Go.Proofs.YtbanpohholnkaaaDoor

structure UTb (L : List Ty) (tg : Nat) (K : List Ty) : Prop where
  rise : Rise K
  mem : ∀ x, x ∈ K ↔ x ∈ L ∧ 0 ≤ tagT x ∧ tagT x < tg
  eq : ∀ x ∈ L, ∀ y ∈ L, tagT x = tagT y → 0 ≤ tagT x → tagT x < tg → x = y
  nz : tg = 0 ∨ ∀ x ∈ L, x.kind ≠ 0
structure UT (L : List Ty) (tg i : Nat) (had : Bool) (K' : List Ty) : Prop where
  base : ∃ K, UTb L tg K ∧ (had = false → K' = K ∧ ∀ x ∈ L.take i, tagT x ≠ tg) ∧ (had = true → ∃ x0, K' = K ++ [x0] ∧ x0 ∈ L ∧ tagT x0 = tg ∧ ∀ x ∈ L.take i, tagT x = tg → x = x0)
  nz : ∀ x ∈ L.take i, x.kind ≠ 0
theorem take_next {L : List Ty} {i : Nat} {x y : Ty} (h : L[i]? = some x) (hy : y ∈ L.take (i + 1)) : y ∈ L.take i ∨ y = x := by
  rw [List.take_add_one, h] at hy
  simpa using hy
theorem UT.start (L : List Ty) : UT L 0 0 false [] :=
  ⟨⟨[], ⟨⟨by simp, List.Pairwise.nil⟩, fun x => ⟨by simp, fun h => by omega⟩, fun x _ y _ _ _ h => by omega, .inl rfl⟩, fun _ => ⟨rfl, by simp⟩, by simp⟩, by simp⟩
theorem UT.skip {L K : List Ty} {tg i : Nat} {had : Bool} {x : Ty} (h : UT L tg i had K) (hx : L[i]? = some x) (h0 : x.kind ≠ 0) (ht : tagT x ≠ tg) : UT L tg (i + 1) had K := by
  obtain ⟨⟨B, hb, h1, h2⟩, h3⟩ := h
  refine ⟨⟨B, hb, fun e => ⟨(h1 e).1, fun y hy => ?_⟩, fun e => ?_⟩, fun y hy => ?_⟩
  · rcases take_next hx hy with hy | rfl
    · exact (h1 e).2 y hy
    · exact ht
  · obtain ⟨x0, a, b, c, d⟩ := h2 e
    refine ⟨x0, a, b, c, fun y hy hty => ?_⟩
    rcases take_next hx hy with hy | rfl
    · exact d y hy hty
    · exact absurd hty ht
  · rcases take_next hx hy with hy | rfl
    · exact h3 y hy
    · exact h0
theorem UT.first {L K : List Ty} {tg i : Nat} {x : Ty} (h : UT L tg i false K) (hx : L[i]? = some x) (h0 : x.kind ≠ 0) (ht : tagT x = tg) : UT L tg (i + 1) true (K ++ [x]) := by
  obtain ⟨⟨B, hb, h1, h2⟩, h3⟩ := h
  obtain ⟨rfl, hn⟩ := h1 rfl
  refine ⟨⟨K, hb, by simp, fun _ => ⟨x, rfl, List.mem_of_getElem? hx, ht, fun y hy hty => ?_⟩⟩, fun y hy => ?_⟩
  · rcases take_next hx hy with hy | rfl
    · exact absurd hty (hn y hy)
    · rfl
  · rcases take_next hx hy with hy | rfl
    · exact h3 y hy
    · exact h0
theorem UT.again {L K : List Ty} {tg i : Nat} {x : Ty} (h : UT L tg i true K) (hx : L[i]? = some x) (h0 : x.kind ≠ 0) {K0 : List Ty} (hl : K = K0 ++ [x]) : UT L tg (i + 1) true K := by
  obtain ⟨⟨B, hb, h1, h2⟩, h3⟩ := h
  obtain ⟨x0, a, b, c, d⟩ := h2 rfl
  have he : x = x0 := by
    have h5 : (K0 ++ [x]).getLast? = (B ++ [x0]).getLast? := by rw [← hl, ← a]
    simpa using h5
  subst he
  refine ⟨⟨B, hb, by simp, fun _ => ⟨x, a, b, c, fun y hy hty => ?_⟩⟩, fun y hy => ?_⟩
  · rcases take_next hx hy with hy | rfl
    · exact d y hy hty
    · rfl
  · rcases take_next hx hy with hy | rfl
    · exact h3 y hy
    · exact h0
theorem UT.last {L K : List Ty} {tg i : Nat} (h : UT L tg i true K) : ∃ K0 x0, K = K0 ++ [x0] ∧ x0 ∈ L ∧ tagT x0 = tg := by
  obtain ⟨⟨B, hb, h1, h2⟩, h3⟩ := h
  obtain ⟨x0, a, b, c, d⟩ := h2 rfl
  exact ⟨B, x0, a, b, c⟩
theorem UT.next {L K : List Ty} {tg : Nat} {had : Bool} (h : UT L tg L.length had K) : UT L (tg + 1) 0 false K := by
  obtain ⟨⟨B, hb, h1, h2⟩, h3⟩ := h
  rw [List.take_length] at h1 h2 h3
  cases had with
  | false =>
    obtain ⟨rfl, hn⟩ := h1 rfl
    refine ⟨⟨K, ⟨hb.rise, fun x => ⟨fun hx => ?_, fun ⟨a, b, c⟩ => ?_⟩, fun x hx y hy e h0 hl => ?_, .inr h3⟩, fun _ => ⟨rfl, by simp⟩, by simp⟩, by simp⟩
    · obtain ⟨a, b, c⟩ := (hb.mem x).1 hx
      exact ⟨a, b, by omega⟩
    · have := hn x a
      exact (hb.mem x).2 ⟨a, b, by omega⟩
    · have := hn x hx
      exact hb.eq x hx y hy e h0 (by omega)
  | true =>
    obtain ⟨x0, rfl, hm, ht, hu⟩ := h2 rfl
    refine ⟨⟨B ++ [x0], ⟨⟨fun x hx => ?_, List.pairwise_append.2 ⟨hb.rise.2, List.pairwise_singleton _ _, fun a ha b hb' => ?_⟩⟩, fun x => ⟨fun hx => ?_, fun ⟨a, b, c⟩ => ?_⟩, fun x hx y hy e h0 hl => ?_, .inr h3⟩, fun _ => ⟨rfl, by simp⟩, by simp⟩, by simp⟩
    · rcases List.mem_append.1 hx with hx | hx
      · exact hb.rise.1 x hx
      · rw [List.mem_singleton.1 hx, ht]
        omega
    · rw [List.mem_singleton.1 hb', ht]
      exact ((hb.mem a).1 ha).2.2
    · rcases List.mem_append.1 hx with hx | hx
      · obtain ⟨a, b, c⟩ := (hb.mem x).1 hx
        exact ⟨a, b, by omega⟩
      · rw [List.mem_singleton.1 hx, ht]
        exact ⟨hm, by omega, by omega⟩
    · by_cases hc : tagT x = tg
      · rw [hu x a hc]
        simp
      · exact List.mem_append_left _ ((hb.mem x).2 ⟨a, b, by omega⟩)
    · by_cases hc : tagT x = tg
      · rw [hu x hx hc, hu y hy (by omega)]
      · exact hb.eq x hx y hy e h0 (by omega)
theorem rise_len : ∀ (K : List Ty) (lo n : Int), K.Pairwise (fun x y => tagT x < tagT y) → (∀ x ∈ K, lo ≤ tagT x ∧ tagT x < n) → (K.length : Int) ≤ n - lo ∨ K = []
  | [], _, _, _, _ => .inr rfl
  | a :: K, lo, n, h, hm => by
    obtain ⟨h1, h2⟩ := List.pairwise_cons.1 h
    have ha := hm a List.mem_cons_self
    left
    rcases rise_len K (lo + 1) n h2 (fun x hx => ⟨by have := h1 x hx; omega, (hm x (List.mem_cons_of_mem _ hx)).2⟩) with h3 | h3
    · rw [List.length_cons]
      omega
    · subst h3
      simp
      omega
theorem UT.len {L K : List Ty} {tg i : Nat} {had : Bool} (h : UT L tg i had K) : K.length ≤ tg + 1 := by
  obtain ⟨⟨B, hb, h1, h2⟩, h3⟩ := h
  have hB : B.length ≤ tg := by
    rcases rise_len B 0 tg hb.rise.2 (fun x hx => ((hb.mem x).1 hx).2) with h4 | h4
    · omega
    · subst h4
      simp
  cases had with
  | false =>
    obtain ⟨rfl, _⟩ := h1 rfl
    omega
  | true =>
    obtain ⟨x0, rfl, _⟩ := h2 rfl
    simp
    exact hB
theorem UT.len0 {L K : List Ty} {tg i : Nat} (h : UT L tg i false K) : K.length ≤ tg := by
  obtain ⟨⟨B, hb, h1, h2⟩, h3⟩ := h
  obtain ⟨rfl, _⟩ := h1 rfl
  rcases rise_len K 0 tg hb.rise.2 (fun x hx => ((hb.mem x).1 hx).2) with h4 | h4
  · omega
  · subst h4
    simp
theorem flat_tag {kids : List Ty} (hk : ∀ k ∈ kids, NF k) {x : Ty} (hx : x ∈ flatU kids) (h0 : x.kind ≠ 0) : 0 ≤ tagT x ∧ tagT x < 6 := by
  have hn := NF.kinds (NF.flat hk x hx)
  have h6 : x.kind = 7 → 0 ≤ tagT x := fun h7 => by
    unfold flatU at hx
    obtain ⟨k, hkm, hxk⟩ := List.mem_flatMap.1 hx
    by_cases hk7 : k.kind = 7
    · rw [if_pos hk7] at hxk
      exact (NF.uni (hk k hkm) hk7).2.2.2.1 x hxk
    · rw [if_neg hk7] at hxk
      exact absurd (List.mem_singleton.1 hxk ▸ h7) hk7
  by_cases h7 : x.kind = 7
  · have := h6 h7
    rw [tagT_out (.inr (by omega))] at this
    omega
  · unfold tagT
    rw [if_neg (by omega)]
    omega
theorem UT.fin {kids K : List Ty} (hk : ∀ k ∈ kids, NF k) (h : UT (flatU kids) 6 0 false K) : uniT kids = uniOf K := by
  obtain ⟨⟨B, hb, h1, h2⟩, h3⟩ := h
  obtain ⟨rfl, _⟩ := h1 rfl
  have hnz : ∀ x ∈ flatU kids, x.kind ≠ 0 := hb.nz.resolve_left (by omega)
  have htg : ∀ x ∈ flatU kids, 0 ≤ tagT x ∧ tagT x < 6 := fun x hx => flat_tag hk hx (hnz x hx)
  obtain ⟨K', hr, hm, he⟩ := uniT_yes (kids := kids) ⟨fun x hx => (htg x hx).1, fun x hx y hy e => hb.eq x hx y hy e (htg x hx).1 (by have := (htg x hx).2; omega)⟩
  rw [he, hr.unique hb.rise fun x => (hm x).trans ⟨fun hx => (hb.mem x).2 ⟨hx, (htg x hx).1, by have := (htg x hx).2; omega⟩, fun hx => ((hb.mem x).1 hx).1⟩]
theorem uni_any {kids : List Ty} {x : Ty} (hx : x ∈ flatU kids) (h0 : x.kind = 0) : uniT kids = none := uniT_no fun h => by
  have := h.1 x hx
  rw [tagT_out (.inl (by omega))] at this
  omega
theorem uni_ne {kids : List Ty} {x y : Ty} (hx : x ∈ flatU kids) (hy : y ∈ flatU kids) (e : tagT x = tagT y) (hn : x ≠ y) : uniT kids = none := uniT_no fun h => hn (h.2 x hx y hy e)
theorem flat_len {kids : List Ty} (hk : ∀ k ∈ kids, NF k) : (flatU kids).length ≤ 6 * kids.length := by
  induction kids with
  | nil => simp [flatU]
  | cons k kids ih =>
    have h1 := ih fun x hx => hk x (List.mem_cons_of_mem _ hx)
    have h2 : flatU (k :: kids) = (if k.kind = 7 then k.kids else [k]) ++ flatU kids := by simp [flatU]
    rw [h2, List.length_append, List.length_cons]
    have h3 : (if k.kind = 7 then k.kids else [k]).length ≤ 6 := by
      by_cases h7 : k.kind = 7
      · rw [if_pos h7]
        have hr := (NF.uni (hk k List.mem_cons_self) h7).2.2.2
        rcases rise_len k.kids 0 6 hr.2 (fun x hx => ⟨hr.1 x hx, by unfold tagT; split <;> omega⟩) with h4 | h4
        · omega
        · rw [h4]
          simp
      · rw [if_neg h7]
        simp
    omega
end Go.Proofs.YtbanpohholnkaaaDoor

namespace Go.Proofs.YtbanpohholnkaaaDoor
open Go.RowKit

def RuA (w w1 : World) (X : Nat → Prop) (kids : List Ty) (k : Nat) (a b : Value) (wr : World) : Prop :=
  ∃ (i : Nat) (ra : List Tv), b = .int .i64 i ∧ i ≤ kids.length ∧ k = kids.length - i ∧ App w1 wr 25 4 a (flatU (kids.take i)).length (tflat ra) ∧ TysV w X ra (flatU (kids.take i))
def RuB (w w2 : World) (X : Nat → Prop) (L : List Ty) (tb : Nat) (k : Nat) (b : Value) (wr : World) : Prop :=
  ∃ (tg : Nat) (K : List Ty) (lv : Value) (rs : List Tv), b = .int .i64 tg ∧ tg ≤ 6 ∧ k = 6 - tg ∧ UT L tg 0 false K ∧ UnR w w2 wr X K tb lv rs
def RuC (w w2 : World) (X : Nat → Prop) (L : List Ty) (tb tg : Nat) (k : Nat) (a b : Value) (wr : World) : Prop :=
  ∃ (i : Nat) (had : Bool) (K : List Ty) (lv : Value) (rs : List Tv), a = .bool had ∧ b = .int .i64 i ∧ i ≤ L.length ∧ k = L.length - i ∧ UT L tg i had K ∧ UnR w w2 wr X K tb lv rs
theorem wl1 {n : Nat} (h : n ≤ 6) : wrap64 (((n + 1 : Nat) : Int) - 1) = (n : Int) := by unfold wrap64; omega
theorem wl2 {n : Nat} (h : n ≤ 6) : wrap64 ((n : Int) + 1 - 1) = (n : Int) := by unfold wrap64; omega
theorem wl3 {n : Nat} (h : n ≤ 6) : wrap64 (n : Int) = (n : Int) := by unfold wrap64; omega
theorem wf1 {n : Nat} (h : n ≤ 6) : IntKind.i64.wrap (((n + 1 : Nat) : Int) - 1) = (n : Int) := by rw [IntKind.wrap_i64]; omega
theorem wf2 {n : Nat} (h : n ≤ 6) : IntKind.i64.wrap ((n : Int) + 1 - 1) = (n : Int) := by rw [IntKind.wrap_i64]; omega
theorem wf3 {n : Nat} (h : n ≤ 6) : IntKind.i64.wrap (n : Int) = (n : Int) := by rw [IntKind.wrap_i64]; omega
theorem UnR.on {w w2 wr w' : World} {X : Nat → Prop} {l : List Ty} {tb : Nat} {lv : Value} {rs : List Tv} (h : UnR w w2 wr X l tb lv rs) (hk : Keep (fun _ => False) wr w') : UnR w w2 w' X l tb lv rs :=
  ⟨h.keep.trans hk (fun _ _ x => x.elim), hk.at_ h.box (fun x => x), hk.own h.own (fun _ _ x => x), h.tys, h.new⟩
set_option maxRecDepth 100000 in
set_option maxHeartbeats 16000000 in
theorem runion_any {w : World} {X : Nat → Prop} (hX : ∀ i, X i → i < w.heap.size) {A : Option Addr} {n c : Nat} {kids : List Ty} {rs : List Tv} (hb : n ≤ 100000) (hNF : ∀ k ∈ kids, NF k) (h : Rd w X 4 (.slice A n c) n (tflat rs)) (hv : TysV w X rs kids) :
    Calls Tryd.prog 68 #[.slice A n c] w fun e w' => OptP X (uniT kids) e w' ∧ Keep (fun _ => False) w w' := by
  have hn : kids.length = n := by rw [← hv.len, h.nlen]
  subst hn
  have kw : Keep (fun _ => False) w (w.alloc (.cells #[.int .i64 0, .string ⟨#[]⟩, .slice none 0 0, .slice none 0 0] 25)) := (Keep.refl _ w).alloc _
  have arb : At (w.alloc (.cells #[.int .i64 0, .string ⟨#[]⟩, .slice none 0 0, .slice none 0 0] 25)) w.heap.size 25 #[.int .i64 0, .string ⟨#[]⟩, .slice none 0 0, .slice none 0 0] := At.new _ _ _
  have H := Lib.hid (And.intro h (And.intro hv (And.intro hX (And.intro hNF (And.intro kw arb)))))
  have h0 : Hid (RuA w (w.alloc (.cells #[.int .i64 0, .string ⟨#[]⟩, .slice none 0 0, .slice none 0 0] 25)) X kids kids.length (.slice none 0 0) (.int .i64 0) (w.alloc (.cells #[.int .i64 0, .string ⟨#[]⟩, .slice none 0 0, .slice none 0 0] 25))) :=
    ⟨0, [], rfl, Nat.zero_le _, rfl, ⟨World.ownsRow_nil _ 0 25 4, Keep.refl _ _, fun g hg => by simp [Value.ownBlock] at hg⟩, trivial⟩
  have HB := Lib.hid hb
  clear h hv hX hNF kw arb hb
  go_enter Tryd.func68, Tryd.ntmps68
  go_wp2_with fail
  generalize (w.alloc (.cells #[.int .i64 0, .string ⟨#[]⟩, .slice none 0 0, .slice none 0 0] 25)) = w1 at *
  obtain ⟨rb, hrb⟩ : ∃ rb, w.heap.size = rb := ⟨_, rfl⟩
  rw [hrb] at H ⊢
  have HRB := Lib.hid hrb
  clear hrb
  go_loopg [4, 5] kids.length (RuA w w1 X kids)
  case atStart => exact h0.out
  case round =>
    clear h0
    obtain ⟨i, ra, rfl, hi, rfl, hA, hty⟩ := hrel
    have hkb := HB.out
    have hfl : (flatU (kids.take i)).length ≤ 600000 := by
      have h1 := flat_len (kids := kids.take i) fun k hk => H.out.2.2.2.1 k (List.mem_of_mem_take hk)
      have h2 := HB.out
      rw [List.length_take] at h1
      omega
    have hkw : Keep (fun _ => False) w wr := H.out.2.2.2.2.1.trans hA.keep (fun _ _ x => x)
    by_cases hlt : i < kids.length
    · obtain ⟨kd, hkd⟩ : ∃ kd, kids[i]? = some kd := ⟨_, List.getElem?_eq_getElem hlt⟩
      obtain ⟨⟨qk, qnm, qAn, qnn, qcn, qAk, qnk, qck⟩, hq, hqv⟩ := H.out.2.1.at_ hkd
      obtain ⟨b, o, rfl, hbz, _, c0, c1, c2, c3⟩ := (H.out.1.keep hkw (fun _ x => x.elim)).tcells (by omega) hq
      have hkk := hqv.knd
      have hnx := flatU_take hkd
      simp only at c0 c1 c2 c3 hkk
      by_cases h7 : kd.kind = 7
      · rw [if_pos h7] at hnx
        have q7 : (qk == 7) = true := by rw [hkk, h7]; rfl
        obtain ⟨rs2, hnk, hnkb, hrd2, hv2⟩ := hqv.kds
        simp only at hnk hnkb hrd2
        subst hnk
        have h6 : kd.kids.length ≤ 600000 := by
          have h1 := flat_len (kids := kids.take (i + 1)) fun k hk => H.out.2.2.2.1 k (List.mem_of_mem_take hk)
          have h2 := HB.out
          rw [hnx, List.length_append, List.length_take] at h1
          omega
        have HG := Lib.hid (And.intro hA (And.intro hty (And.intro hnx (And.intro (hrd2.keep (Y := fun _ => False) hkw (fun _ x => x.elim)) hv2))))
        obtain ⟨fl, hfe⟩ : ∃ fl, (flatU (kids.take i)).length = fl := ⟨_, rfl⟩
        rw [hfe] at hfl hA
        have HA := Lib.hid (And.intro hA hfe)
        obtain ⟨Aa, ca, rfl⟩ := own_slice hA.own
        clear hA hty hnx hrd2 hv2 hqv h7 hkk hkw hkd hq hnkb hfe
        go_wp2_with (at_builtin; refine wpList_app_rd rfl (.tmp 23) (.tmp 28) 23 rfl E25 (.slice Aa fl ca) fl (tflat ra) rfl HA.out.1.own (.slice qAk kd.kids.length qck) kd.kids.length (tflat rs2) rfl HG.out.2.2.2.1 (fun u hu => tflat_one _ u hu) (by omega) (by decide) ?_; intro v1 w5 ho hk hn; have A1 := Lib.hid (App.next HA.out.1 (Keep.refl _ _) ho hk hn); clear ho hk hn)
        go_roundg (kids.length - (i + 1))
        case measure => omega
        case rel => exact ⟨i + 1, ra ++ rs2, by go_num, by omega, rfl, by rw [HG.out.2.2.1, List.length_append, tflat_append, HA.out.2]; exact A1.out, by rw [HG.out.2.2.1]; exact HG.out.2.1.append HG.out.2.2.2.2⟩
      · rw [if_neg h7] at hnx
        have q7 : (qk == 7) = false := by rw [hkk, beq_eq_false_iff_ne]; exact h7
        have HG := Lib.hid (And.intro hA (And.intro hty (And.intro hnx (And.intro trivial hqv))))
        obtain ⟨fl, hfe⟩ : ∃ fl, (flatU (kids.take i)).length = fl := ⟨_, rfl⟩
        rw [hfe] at hfl hA
        have HA := Lib.hid (And.intro hA hfe)
        obtain ⟨Aa, ca, rfl⟩ := own_slice hA.own
        clear hA hty hnx hqv h7 hkk hkw hkd hq hfe
        go_wp2_with (at_builtin; refine wpList_app_rd rfl (.tmp 30) (.tmp 35) 23 rfl E25 (.slice Aa fl ca) fl (tflat ra) rfl (HA.out.1.own.alloc _) (.slice (some ⟨wr.heap.size, 0, none⟩) 1 1) 1 (⟨qk, qnm, qAn, qnn, qcn, qAk, qnk, qck⟩ : Tv).vals rfl (Rd.of_at (X := fun _ => False) (At.new wr 25 #[.int .i64 qk, .string qnm, .slice qAn qnn qcn, .slice qAk qnk qck]) (fun x => x) rfl (Nat.le_refl _)) (by simp [Tv.vals, Value.oneCell']) (by omega) (by decide) ?_; intro v1 w5 ho hk hn; have A1 := Lib.hid (App.next HA.out.1 ((Keep.refl _ wr).alloc _) ho hk hn); clear ho hk hn)
        go_roundg (kids.length - (i + 1))
        case measure => omega
        case rel => exact ⟨i + 1, ra ++ [⟨qk, qnm, qAn, qnn, qcn, qAk, qnk, qck⟩], by go_num, by omega, rfl, by rw [HG.out.2.2.1, List.length_append, tflat_append, tflat_one_vals, List.length_singleton, HA.out.2]; exact A1.out, by rw [HG.out.2.2.1]; exact HG.out.2.1.snoc HG.out.2.2.2.2⟩
    · have hie : i = kids.length := by omega
      subst hie
      rw [List.take_of_length_le (Nat.le_refl _)] at hA hty hfl
      obtain ⟨L, hL⟩ : ∃ L, flatU kids = L := ⟨_, rfl⟩
      rw [hL] at hA hty hfl
      obtain ⟨Aa, ca, rfl⟩ := own_slice hA.own
      have k2 : Keep (fun _ => False) wr (wr.alloc (.cells #[.int .i64 7, .string ⟨#[]⟩, .slice none 0 0, .slice none 0 0] 25)) := (Keep.refl _ wr).alloc _
      have hrd : Rd (wr.alloc (.cells #[.int .i64 7, .string ⟨#[]⟩, .slice none 0 0, .slice none 0 0] 25)) (fun g => g = wr.heap.size) 4 (.slice Aa L.length ca) L.length (tflat ra) :=
        Rd.of_own (hA.own.alloc _) (fun g hg e => by have := own_lt hA.own hg; omega)
      have ar2 := k2.at_ (hA.keep.at_ H.out.2.2.2.2.2 (fun x => x)) (fun x => x)
      have hrn : ¬ rb = wr.heap.size := by have := (hA.keep.at_ H.out.2.2.2.2.2 (fun x => x)).lt; omega
      have hwt : w.heap.size ≤ wr.heap.size := hkw.size
      have h3 : Hid (RuB w (wr.alloc (.cells #[.int .i64 7, .string ⟨#[]⟩, .slice none 0 0, .slice none 0 0] 25)) X L wr.heap.size 6 (.int .i64 0) (wr.alloc (.cells #[.int .i64 7, .string ⟨#[]⟩, .slice none 0 0, .slice none 0 0] 25))) :=
        ⟨0, [], .slice none 0 0, [], rfl, Nat.zero_le _, rfl, UT.start L, ⟨Keep.refl _ _, At.new _ _ _, World.ownsRow_nil _ 0 25 4, trivial, fun g hg => by simp [Value.ownBlock] at hg⟩⟩
      have hsz : (wr.alloc (.cells #[.int .i64 7, .string ⟨#[]⟩, .slice none 0 0, .slice none 0 0] 25)).heap.size = wr.heap.size + 1 := by simp
      have HC := Lib.hid (And.intro hL (And.intro hty (And.intro (hkw.trans k2 (fun _ _ x => x)) (And.intro hrd (And.intro ar2 (And.intro hsz (And.intro hrn hwt)))))))
      clear hL hty k2 hrd ar2 hrn hwt hsz hA hkw
      go_wp2_with fail
      generalize (wr.alloc (.cells #[.int .i64 7, .string ⟨#[]⟩, .slice none 0 0, .slice none 0 0] 25)) = wt at *
      generalize wr.heap.size = tb at *
      go_loopg [7] 6 (RuB w wt X L tb)
      case atStart => exact h3.out
      case round =>
        clear h3
        obtain ⟨tg, KK, lv, rs3, rfl, htg, rfl, hU, hR⟩ := hrel
        by_cases htl : tg < 6
        · have hs : Hid (RuC w wt X L tb tg L.length (.bool false) (.int .i64 0) wr) := ⟨0, false, KK, lv, rs3, rfl, rfl, Nat.zero_le _, rfl, hU, hR⟩
          have dtl : decide ((tg : Int) < 6) = true := by simp; omega
          have dtl' : decide (tg < 6) = true := by simp; omega
          clear hU hR
          go_wp2_with fail
          go_loopg [8, 9] L.length (RuC w wt X L tb tg)
          case atStart => exact hs.out
          case round =>
            clear hs
            obtain ⟨i, had, K2, lv2, rs4, rfl, rfl, hi, rfl, hU, hR⟩ := hrel
            by_cases hlt : i < L.length
            · obtain ⟨x, hx⟩ : ∃ x, L[i]? = some x := ⟨_, List.getElem?_eq_getElem hlt⟩
              obtain ⟨⟨qk, qnm, qAn, qnn, qcn, qAk, qnk, qck⟩, hq, hqv⟩ := HC.out.2.1.at_ hx
              obtain ⟨b, o, hAa, hbz0, hbt, d0, d1, d2, d3⟩ := HC.out.2.2.2.1.tcells hlt hq
              subst hAa
              have hkk := hqv.knd
              simp only at d0 d1 d2 d3 hkk
              have HCW : Hid (∀ w', Keep (fun g => g = tb) wt w' → b < w'.heap.size ∧ w'.cell? ⟨b, o + i * 4, none⟩ = some (.int .i64 qk) ∧ w'.cell? ⟨b, o + i * 4 + 1, none⟩ = some (.string qnm) ∧ w'.cell? ⟨b, o + i * 4 + 2, none⟩ = some (.slice qAn qnn qcn) ∧ w'.cell? ⟨b, o + i * 4 + 3, none⟩ = some (.slice qAk qnk qck)) := fun w' hk => by
                have hs := hk.size
                exact ⟨by omega, hk.cell d0 hbt, hk.cell d1 hbt, hk.cell d2 hbt, hk.cell d3 hbt⟩
              have hlen := hU.len
              obtain ⟨Al, cl, rfl⟩ := own_slice hR.own
              have hwk : Keep (fun _ => False) w wr := HC.out.2.2.1.weak hR.keep (fun j hj => by rw [hj]; exact HC.out.2.2.2.2.2.2.2)
              have i0 : (0 : Int) ≤ (i : Int) := by omega
              have i1 : (i : Int) < (L.length : Int) := by omega
              have HX := Lib.hid (And.intro hx (And.intro hqv hwk))
              have HU := Lib.hid hU
              have HR := Lib.hid hR
              clear hx hqv hwk hq hU hR hbz0 hbt d0 d1 d2 d3
              by_cases hz : x.kind = 0
              · have z0 : (qk == 0) = true := by rw [hkk, hz]; rfl
                have hno : uniT kids = none := uni_any (x := x) (by rw [HC.out.1]; exact List.mem_of_getElem? HX.out.1) hz
                have HNO := Lib.hid hno
                have hra := HR.out.keep.at_ HC.out.2.2.2.2.1 HC.out.2.2.2.2.2.2.1
                obtain ⟨hbz, c0, c1, c2, c3⟩ := HCW.out wr HR.out.keep
                obtain ⟨bl, b0, b1, b2, b3⟩ := HR.out.box.tcells
                obtain ⟨rl, r0, r1, r2, r3⟩ := hra.tcells
                have rf0 := hra.frozen 0
                have rf1 := hra.frozen 1
                have rf2 := hra.frozen 2
                have rf3 := hra.frozen 3
                have HRA := Lib.hid hra
                clear hkk hz hno hra
                go_wp2_with fail
                (try simp only [Exit.inBlock, Exit.then])
                refine bodyPost_ret (ret_cell rfl rfl ((((HRA.out.set 0 _).set 1 _).set 2 _).set 3 _)) rfl ?_
                exact ⟨OptP.no HNO.out ⟨7, ⟨#[]⟩, none, 0, 0, _, _, _⟩, Keep.set4 HX.out.2.2 (.inr (by have := HRB.out; omega)) _ _ _ _⟩
              · have z0 : (qk == 0) = false := by rw [hkk, beq_eq_false_iff_ne]; exact hz
                have htc := rTag_any (HX.out.2.1.step HX.out.2.2)
                unfold Tv.val at htc
                simp only at htc
                have HZ := Lib.hid hz
                clear hkk hz
                by_cases ht : tagT x = tg
                · rw [ht] at htc
                  have HT := Lib.hid ht
                  have dt : ((tg : Int) != (tg : Int)) = false := by simp
                  clear ht
                  cases had with
                  | false =>
                    obtain ⟨hbz, c0, c1, c2, c3⟩ := HCW.out wr HR.out.keep
                    go_wp2_with (go_at_call 79; refine htc.mono ?_; rintro e w2 ⟨rfl, hk2⟩; have hR2 := HR.out.on hk2; clear hbz c0 c1 c2 c3; obtain ⟨hbz, c0, c1, c2, c3⟩ := HCW.out w2 hR2.keep; obtain ⟨bl, b0, b1, b2, b3⟩ := hR2.box.tcells; have bf := hR2.box.frozen; have H2 := Lib.hid (And.intro hk2 hR2); clear hk2 hR2 htc)
                    have hbig : K2.length + 1 ≤ 1099511627776 := by omega
                    go_region_law (refine step_app rfl (.tmp 65) (.tmp 70) 23 rfl E25 (.slice Al K2.length cl) K2.length (tflat rs4) rfl ((H2.out.2.own.alloc _).drew) w2.heap.size 1 1 #[.int .i64 qk, .string qnm, .slice qAn qnn qcn, .slice qAk qnk qck] rfl ((At.new_at (by simp)).drew) rfl (by simp [Value.oneCell']) (by decide) hbig (by decide) ?_; intro g' cap' w' ho' hk hg hgl; have ha := hk.at_ ((H2.out.2.box.alloc _).drew) (fun hx => by have h1 := H2.out.2.new tb hx; have h2 := HC.out.2.2.2.2.2.1; omega); have hz3 := ha.cell 3; have hzf := ha.frozen; have hzl := ha.lt; simp only [List.getElem?_toArray, List.getElem?_cons_succ, List.getElem?_cons_zero] at hz3)
                    all_goals (
                      have hRn := H2.out.2.app (r := ⟨qk, qnm, qAn, qnn, qcn, qAk, qnk, qck⟩) ho' hk hg (by have := HC.out.2.2.2.2.2.1; omega) HX.out.2.1
                      clear ho' hk hg hgl ha hz3 hzf hzl hbz c0 c1 c2 c3 bl b0 b1 b2 b3 bf
                      go_upto_region 21 with fail
                      refine gen_w ?_
                      intro wv hwv
                      rw [← hwv] at hRn
                      clear hwv
                      obtain ⟨lvv, hlvv⟩ : ∃ l, Value.slice (some ⟨g', 0, none⟩) (K2.length + 1) cap' = l := ⟨_, rfl⟩
                      rw [hlvv] at hRn
                      have HV := Lib.hid hRn
                      have HUT := Lib.hid (HU.out.first HX.out.1 HZ.out HT.out)
                      clear hRn hlvv
                      go_wp2_with fail
                      have hln : (K2 ++ [x]).length = K2.length + 1 := by simp
                      have hown := HV.out.own
                      rw [hln] at hown
                      obtain ⟨Al2, cl2, hlv2⟩ := own_slice hown
                      cases hlv2
                      obtain ⟨⟨pk, pnm, pAn, pnn, pcn, pAk, pnk, pck⟩, hp, hpv⟩ := HV.out.tys.at_ (i := K2.length) (t := x) (by simp)
                      obtain ⟨yb, yo, hyA, hyl, _, y0, y1, y2, y3⟩ := (Rd.of_own (X := fun g => g = tb) hown (fun g hg e => by have h1 := HV.out.new g (by first | exact hg | (rw [hln]; exact hg)); have h2 := HC.out.2.2.2.2.2.1; omega)).tcells (i := K2.length) (by omega) hp
                      subst hyA
                      have v3 := HV.out.box.cell 3
                      try rw [hln] at v3
                      have vl := HV.out.box.lt
                      simp only [List.getElem?_toArray, List.getElem?_cons_succ, List.getElem?_cons_zero] at v3 y0 y1 y2 y3
                      have hkv : Keep (fun _ => False) w wv := HC.out.2.2.1.weak HV.out.keep (fun j hj => by rw [hj]; exact HC.out.2.2.2.2.2.2.2)
                      have hsm := rSame_any x x wv.drew ⟨qk, qnm, qAn, qnn, qcn, qAk, qnk, qck⟩ ⟨pk, pnm, pAn, pnn, pcn, pAk, pnk, pck⟩ (HX.out.2.1.step (hkv.trans (Keep.refl _ wv).drew (fun _ _ x => x))) (hpv.step (hkv.trans (Keep.refl _ wv).drew (fun _ _ x => x)))
                      rw [sameT_refl] at hsm
                      unfold Tv.val at hsm
                      simp only at hsm
                      have cv := HCW.out wv HV.out.keep
                      have hn6 : K2.length ≤ 6 := by first | omega | (rw [hln] at hlen; omega)
                      obtain ⟨n0, hn0⟩ : ∃ n0, K2.length = n0 := ⟨_, rfl⟩
                      rw [hn0] at v3 y0 y1 y2 y3 hn6
                      have HSK : Hid (∀ w', Keep (fun _ => False) wv w' → (b < w'.heap.size ∧ w'.cell? ⟨b, o + i * 4, none⟩ = some (.int .i64 qk) ∧ w'.cell? ⟨b, o + i * 4 + 1, none⟩ = some (.string qnm) ∧ w'.cell? ⟨b, o + i * 4 + 2, none⟩ = some (.slice qAn qnn qcn) ∧ w'.cell? ⟨b, o + i * 4 + 3, none⟩ = some (.slice qAk qnk qck)) ∧ tb < w'.heap.size ∧ w'.cell? ⟨tb, 3, none⟩ = some (.slice (some ⟨yb, yo, none⟩) (n0 + 1) cl2) ∧ (yb < w'.heap.size ∧ w'.cell? ⟨yb, yo + n0 * 4, none⟩ = some (.int .i64 pk) ∧ w'.cell? ⟨yb, yo + n0 * 4 + 1, none⟩ = some (.string pnm) ∧ w'.cell? ⟨yb, yo + n0 * 4 + 2, none⟩ = some (.slice pAn pnn pcn) ∧ w'.cell? ⟨yb, yo + n0 * 4 + 3, none⟩ = some (.slice pAk pnk pck))) := fun w' hk => by
                        have hs := hk.size
                        obtain ⟨a, b, c, d, e⟩ := cv
                        exact ⟨⟨by omega, hk.cell b (fun x => x), hk.cell c (fun x => x), hk.cell d (fun x => x), hk.cell e (fun x => x)⟩, by omega, hk.cell v3 (fun x => x), by omega, hk.cell y0 (fun x => x), hk.cell y1 (fun x => x), hk.cell y2 (fun x => x), hk.cell y3 (fun x => x)⟩
                      have HKV := Lib.hid hkv
                      clear hln hown hp hpv v3 vl hyl y0 y1 y2 y3 hkv cv hn0
                      have hsx := HSK.out wv (Keep.refl _ _)
                      have j0 : (0 : Int) ≤ (n0 : Int) := by omega
                      have j1 : (n0 : Int) < ((n0 + 1 : Nat) : Int) := by omega
                      have j2 : (n0 : Int) < (n0 : Int) + 1 := by omega
                      have e1 := wl1 hn6
                      have e2 := wl2 hn6
                      have e3 := wl3 hn6
                      have f1 := wf1 hn6
                      have f2 := wf2 hn6
                      have f3 := wf3 hn6
                      go_region_held3 (fun w' => (b < w'.heap.size ∧ w'.cell? ⟨b, o + i * 4, none⟩ = some (.int .i64 qk) ∧ w'.cell? ⟨b, o + i * 4 + 1, none⟩ = some (.string qnm) ∧ w'.cell? ⟨b, o + i * 4 + 2, none⟩ = some (.slice qAn qnn qcn) ∧ w'.cell? ⟨b, o + i * 4 + 3, none⟩ = some (.slice qAk qnk qck)) ∧ tb < w'.heap.size ∧ w'.cell? ⟨tb, 3, none⟩ = some (.slice (some ⟨yb, yo, none⟩) (n0 + 1) cl2) ∧ (yb < w'.heap.size ∧ w'.cell? ⟨yb, yo + n0 * 4, none⟩ = some (.int .i64 pk) ∧ w'.cell? ⟨yb, yo + n0 * 4 + 1, none⟩ = some (.string pnm) ∧ w'.cell? ⟨yb, yo + n0 * 4 + 2, none⟩ = some (.slice pAn pnn pcn) ∧ w'.cell? ⟨yb, yo + n0 * 4 + 3, none⟩ = some (.slice pAk pnk pck)))
                        (first | exact hsx | exact HSK.out _ ((Keep.refl _ wv).drew.trans KA.out (fun _ _ x => x)))
                        ((go_at_call 25; refine hsm.mono ?_; rintro e wA ⟨rfl, hkA⟩; have KA := Lib.hid hkA; clear hkA hsm))
                      clear f1 f2 f3 e1 e2 e3 j0 j1 j2
                      have kA : Keep (fun _ => False) wv wA := (Keep.refl _ wv).drew.trans KA.out (fun _ _ x => x)
                      clear hsx
                      go_wp2_with fail
                      go_roundg (L.length - (i + 1))
                      case measure => omega
                      case rel => exact ⟨i + 1, true, _, _, _, rfl, by go_num, by omega, rfl, HUT.out, HV.out.on kA⟩)
                  | true =>
                    obtain ⟨K0, x0, hK0, hx0, ht0⟩ := HU.out.last
                    by_cases hyes : x = x0
                    · subst hyes
                      subst hK0
                      have HUT := Lib.hid (HU.out.again HX.out.1 HZ.out rfl)
                      clear hx0 ht0
                      obtain ⟨hbz, c0, c1, c2, c3⟩ := HCW.out wr HR.out.keep
                      go_wp2_with (go_at_call 79; refine htc.mono ?_; rintro e wv ⟨rfl, hk2⟩; have HV := Lib.hid (HR.out.on hk2); clear hk2 htc hbz c0 c1 c2 c3)
                      have hln : (K0 ++ [x]).length = K0.length + 1 := by simp
                      have hown := HV.out.own
                      rw [hln] at hown
                      obtain ⟨Al2, cl2, hlv2⟩ := own_slice hown
                      cases hlv2
                      obtain ⟨⟨pk, pnm, pAn, pnn, pcn, pAk, pnk, pck⟩, hp, hpv⟩ := HV.out.tys.at_ (i := K0.length) (t := x) (by simp)
                      obtain ⟨yb, yo, hyA, hyl, _, y0, y1, y2, y3⟩ := (Rd.of_own (X := fun g => g = tb) hown (fun g hg e => by have h1 := HV.out.new g (by first | exact hg | (rw [hln]; exact hg)); have h2 := HC.out.2.2.2.2.2.1; omega)).tcells (i := K0.length) (by omega) hp
                      subst hyA
                      have v3 := HV.out.box.cell 3
                      try rw [hln] at v3
                      have vl := HV.out.box.lt
                      simp only [List.getElem?_toArray, List.getElem?_cons_succ, List.getElem?_cons_zero] at v3 y0 y1 y2 y3
                      have hkv : Keep (fun _ => False) w wv := HC.out.2.2.1.weak HV.out.keep (fun j hj => by rw [hj]; exact HC.out.2.2.2.2.2.2.2)
                      have hsm := rSame_any x x wv.drew ⟨qk, qnm, qAn, qnn, qcn, qAk, qnk, qck⟩ ⟨pk, pnm, pAn, pnn, pcn, pAk, pnk, pck⟩ (HX.out.2.1.step (hkv.trans (Keep.refl _ wv).drew (fun _ _ x => x))) (hpv.step (hkv.trans (Keep.refl _ wv).drew (fun _ _ x => x)))
                      rw [sameT_refl] at hsm
                      unfold Tv.val at hsm
                      simp only at hsm
                      have cv := HCW.out wv HV.out.keep
                      have hn6 : K0.length ≤ 6 := by first | omega | (rw [hln] at hlen; omega)
                      obtain ⟨n0, hn0⟩ : ∃ n0, K0.length = n0 := ⟨_, rfl⟩
                      rw [hn0] at v3 y0 y1 y2 y3 hn6
                      have HSK : Hid (∀ w', Keep (fun _ => False) wv w' → (b < w'.heap.size ∧ w'.cell? ⟨b, o + i * 4, none⟩ = some (.int .i64 qk) ∧ w'.cell? ⟨b, o + i * 4 + 1, none⟩ = some (.string qnm) ∧ w'.cell? ⟨b, o + i * 4 + 2, none⟩ = some (.slice qAn qnn qcn) ∧ w'.cell? ⟨b, o + i * 4 + 3, none⟩ = some (.slice qAk qnk qck)) ∧ tb < w'.heap.size ∧ w'.cell? ⟨tb, 3, none⟩ = some (.slice (some ⟨yb, yo, none⟩) (n0 + 1) cl) ∧ (yb < w'.heap.size ∧ w'.cell? ⟨yb, yo + n0 * 4, none⟩ = some (.int .i64 pk) ∧ w'.cell? ⟨yb, yo + n0 * 4 + 1, none⟩ = some (.string pnm) ∧ w'.cell? ⟨yb, yo + n0 * 4 + 2, none⟩ = some (.slice pAn pnn pcn) ∧ w'.cell? ⟨yb, yo + n0 * 4 + 3, none⟩ = some (.slice pAk pnk pck))) := fun w' hk => by
                        have hs := hk.size
                        obtain ⟨a, b, c, d, e⟩ := cv
                        exact ⟨⟨by omega, hk.cell b (fun x => x), hk.cell c (fun x => x), hk.cell d (fun x => x), hk.cell e (fun x => x)⟩, by omega, hk.cell v3 (fun x => x), by omega, hk.cell y0 (fun x => x), hk.cell y1 (fun x => x), hk.cell y2 (fun x => x), hk.cell y3 (fun x => x)⟩
                      have HKV := Lib.hid hkv
                      clear hln hown hp hpv v3 vl hyl y0 y1 y2 y3 hkv cv hn0
                      have hsx := HSK.out wv (Keep.refl _ _)
                      have j0 : (0 : Int) ≤ (n0 : Int) := by omega
                      have j1 : (n0 : Int) < ((n0 + 1 : Nat) : Int) := by omega
                      have j2 : (n0 : Int) < (n0 : Int) + 1 := by omega
                      have e1 := wl1 hn6
                      have e2 := wl2 hn6
                      have e3 := wl3 hn6
                      have f1 := wf1 hn6
                      have f2 := wf2 hn6
                      have f3 := wf3 hn6
                      go_region_held3 (fun w' => (b < w'.heap.size ∧ w'.cell? ⟨b, o + i * 4, none⟩ = some (.int .i64 qk) ∧ w'.cell? ⟨b, o + i * 4 + 1, none⟩ = some (.string qnm) ∧ w'.cell? ⟨b, o + i * 4 + 2, none⟩ = some (.slice qAn qnn qcn) ∧ w'.cell? ⟨b, o + i * 4 + 3, none⟩ = some (.slice qAk qnk qck)) ∧ tb < w'.heap.size ∧ w'.cell? ⟨tb, 3, none⟩ = some (.slice (some ⟨yb, yo, none⟩) (n0 + 1) cl) ∧ (yb < w'.heap.size ∧ w'.cell? ⟨yb, yo + n0 * 4, none⟩ = some (.int .i64 pk) ∧ w'.cell? ⟨yb, yo + n0 * 4 + 1, none⟩ = some (.string pnm) ∧ w'.cell? ⟨yb, yo + n0 * 4 + 2, none⟩ = some (.slice pAn pnn pcn) ∧ w'.cell? ⟨yb, yo + n0 * 4 + 3, none⟩ = some (.slice pAk pnk pck)))
                        (first | exact hsx | exact HSK.out _ ((Keep.refl _ wv).drew.trans KA.out (fun _ _ x => x)))
                        ((go_at_call 25; refine hsm.mono ?_; rintro e wA ⟨rfl, hkA⟩; have KA := Lib.hid hkA; clear hkA hsm))
                      clear f1 f2 f3 e1 e2 e3 j0 j1 j2
                      have kA : Keep (fun _ => False) wv wA := (Keep.refl _ wv).drew.trans KA.out (fun _ _ x => x)
                      clear hsx
                      go_wp2_with fail
                      go_roundg (L.length - (i + 1))
                      case measure => omega
                      case rel => exact ⟨i + 1, true, _, _, _, rfl, by go_num, by omega, rfl, HUT.out, HV.out.on kA⟩
                    · have hno : uniT kids = none := uni_ne (x := x) (y := x0) (by rw [HC.out.1]; exact List.mem_of_getElem? HX.out.1) (by rw [HC.out.1]; exact hx0) (HT.out.trans ht0.symm) hyes
                      subst hK0
                      have HNO := Lib.hid hno
                      clear hno hx0 ht0
                      obtain ⟨hbz, c0, c1, c2, c3⟩ := HCW.out wr HR.out.keep
                      go_wp2_with (go_at_call 79; refine htc.mono ?_; rintro e wv ⟨rfl, hk2⟩; have HV := Lib.hid (HR.out.on hk2); clear hk2 htc hbz c0 c1 c2 c3)
                      have hln : (K0 ++ [x0]).length = K0.length + 1 := by simp
                      have hown := HV.out.own
                      rw [hln] at hown
                      obtain ⟨Al2, cl2, hlv2⟩ := own_slice hown
                      cases hlv2
                      obtain ⟨⟨pk, pnm, pAn, pnn, pcn, pAk, pnk, pck⟩, hp, hpv⟩ := HV.out.tys.at_ (i := K0.length) (t := x0) (by simp)
                      obtain ⟨yb, yo, hyA, hyl, _, y0, y1, y2, y3⟩ := (Rd.of_own (X := fun g => g = tb) hown (fun g hg e => by have h1 := HV.out.new g (by first | exact hg | (rw [hln]; exact hg)); have h2 := HC.out.2.2.2.2.2.1; omega)).tcells (i := K0.length) (by omega) hp
                      subst hyA
                      have v3 := HV.out.box.cell 3
                      try rw [hln] at v3
                      have vl := HV.out.box.lt
                      simp only [List.getElem?_toArray, List.getElem?_cons_succ, List.getElem?_cons_zero] at v3 y0 y1 y2 y3
                      have hkv : Keep (fun _ => False) w wv := HC.out.2.2.1.weak HV.out.keep (fun j hj => by rw [hj]; exact HC.out.2.2.2.2.2.2.2)
                      have hsm := rSame_any x x0 wv.drew ⟨qk, qnm, qAn, qnn, qcn, qAk, qnk, qck⟩ ⟨pk, pnm, pAn, pnn, pcn, pAk, pnk, pck⟩ (HX.out.2.1.step (hkv.trans (Keep.refl _ wv).drew (fun _ _ x => x))) (hpv.step (hkv.trans (Keep.refl _ wv).drew (fun _ _ x => x)))
                      rw [sameT_ne hyes] at hsm
                      unfold Tv.val at hsm
                      simp only at hsm
                      have cv := HCW.out wv HV.out.keep
                      have hn6 : K0.length ≤ 6 := by first | omega | (rw [hln] at hlen; omega)
                      obtain ⟨n0, hn0⟩ : ∃ n0, K0.length = n0 := ⟨_, rfl⟩
                      rw [hn0] at v3 y0 y1 y2 y3 hn6
                      have HSK : Hid (∀ w', Keep (fun _ => False) wv w' → (b < w'.heap.size ∧ w'.cell? ⟨b, o + i * 4, none⟩ = some (.int .i64 qk) ∧ w'.cell? ⟨b, o + i * 4 + 1, none⟩ = some (.string qnm) ∧ w'.cell? ⟨b, o + i * 4 + 2, none⟩ = some (.slice qAn qnn qcn) ∧ w'.cell? ⟨b, o + i * 4 + 3, none⟩ = some (.slice qAk qnk qck)) ∧ tb < w'.heap.size ∧ w'.cell? ⟨tb, 3, none⟩ = some (.slice (some ⟨yb, yo, none⟩) (n0 + 1) cl) ∧ (yb < w'.heap.size ∧ w'.cell? ⟨yb, yo + n0 * 4, none⟩ = some (.int .i64 pk) ∧ w'.cell? ⟨yb, yo + n0 * 4 + 1, none⟩ = some (.string pnm) ∧ w'.cell? ⟨yb, yo + n0 * 4 + 2, none⟩ = some (.slice pAn pnn pcn) ∧ w'.cell? ⟨yb, yo + n0 * 4 + 3, none⟩ = some (.slice pAk pnk pck))) := fun w' hk => by
                        have hs := hk.size
                        obtain ⟨a, b, c, d, e⟩ := cv
                        exact ⟨⟨by omega, hk.cell b (fun x => x), hk.cell c (fun x => x), hk.cell d (fun x => x), hk.cell e (fun x => x)⟩, by omega, hk.cell v3 (fun x => x), by omega, hk.cell y0 (fun x => x), hk.cell y1 (fun x => x), hk.cell y2 (fun x => x), hk.cell y3 (fun x => x)⟩
                      have HKV := Lib.hid hkv
                      clear hln hown hp hpv v3 vl hyl y0 y1 y2 y3 hkv cv hn0
                      have hsx := HSK.out wv (Keep.refl _ _)
                      have j0 : (0 : Int) ≤ (n0 : Int) := by omega
                      have j1 : (n0 : Int) < ((n0 + 1 : Nat) : Int) := by omega
                      have j2 : (n0 : Int) < (n0 : Int) + 1 := by omega
                      have e1 := wl1 hn6
                      have e2 := wl2 hn6
                      have e3 := wl3 hn6
                      have f1 := wf1 hn6
                      have f2 := wf2 hn6
                      have f3 := wf3 hn6
                      go_region_held3 (fun w' => (b < w'.heap.size ∧ w'.cell? ⟨b, o + i * 4, none⟩ = some (.int .i64 qk) ∧ w'.cell? ⟨b, o + i * 4 + 1, none⟩ = some (.string qnm) ∧ w'.cell? ⟨b, o + i * 4 + 2, none⟩ = some (.slice qAn qnn qcn) ∧ w'.cell? ⟨b, o + i * 4 + 3, none⟩ = some (.slice qAk qnk qck)) ∧ tb < w'.heap.size ∧ w'.cell? ⟨tb, 3, none⟩ = some (.slice (some ⟨yb, yo, none⟩) (n0 + 1) cl) ∧ (yb < w'.heap.size ∧ w'.cell? ⟨yb, yo + n0 * 4, none⟩ = some (.int .i64 pk) ∧ w'.cell? ⟨yb, yo + n0 * 4 + 1, none⟩ = some (.string pnm) ∧ w'.cell? ⟨yb, yo + n0 * 4 + 2, none⟩ = some (.slice pAn pnn pcn) ∧ w'.cell? ⟨yb, yo + n0 * 4 + 3, none⟩ = some (.slice pAk pnk pck)))
                        (first | exact hsx | exact HSK.out _ ((Keep.refl _ wv).drew.trans KA.out (fun _ _ x => x)))
                        ((go_at_call 25; refine hsm.mono ?_; rintro e wA ⟨rfl, hkA⟩; have KA := Lib.hid hkA; clear hkA hsm))
                      clear f1 f2 f3 e1 e2 e3 j0 j1 j2
                      have kA : Keep (fun _ => False) wv wA := (Keep.refl _ wv).drew.trans KA.out (fun _ _ x => x)
                      have hRA := HV.out.on kA
                      have hra := hRA.keep.at_ HC.out.2.2.2.2.1 HC.out.2.2.2.2.2.2.1
                      obtain ⟨bl, b0, b1, b2, b3⟩ := hRA.box.tcells
                      obtain ⟨rl, r0, r1, r2, r3⟩ := hra.tcells
                      have rf0 := hra.frozen 0
                      have rf1 := hra.frozen 1
                      have rf2 := hra.frozen 2
                      have rf3 := hra.frozen 3
                      have HRA := Lib.hid (And.intro hra kA)
                      clear hsx hra hRA kA
                      go_wp2_with fail
                      (try simp only [Exit.inBlock, Exit.then])
                      refine bodyPost_ret (ret_cell rfl rfl ((((HRA.out.1.set 0 _).set 1 _).set 2 _).set 3 _)) rfl ?_
                      exact ⟨OptP.no HNO.out ⟨7, ⟨#[]⟩, none, 0, 0, _, _, _⟩, Keep.set4 (HKV.out.trans HRA.out.2 (fun _ _ x => x)) (.inr (by have := HRB.out; omega)) _ _ _ _⟩
                · have dt : (tagT x != (tg : Int)) = true := by simpa using ht
                  have HT := Lib.hid ht
                  clear ht
                  have HSKIP := Lib.hid (HU.out.skip HX.out.1 HZ.out HT.out)
                  clear HT
                  generalize tagT x = tx at *
                  obtain ⟨hbz, c0, c1, c2, c3⟩ := HCW.out wr HR.out.keep
                  go_wp2_with (go_at_call 79; refine htc.mono ?_; rintro e w2 ⟨rfl, hk2⟩; have H2 := Lib.hid hk2; clear hk2 htc)
                  go_roundg (L.length - (i + 1))
                  case measure => omega
                  case rel => exact ⟨i + 1, had, K2, _, rs4, rfl, by go_num, by omega, rfl, HSKIP.out, HR.out.on H2.out⟩
            · have hie : i = L.length := by omega
              subst hie
              have hnx := hU.next
              have HN := Lib.hid (And.intro hnx hR)
              clear hnx hR hU
              go_wp2_with fail
              go_roundg (6 - (tg + 1))
              case measure => omega
              case rel => exact ⟨tg + 1, K2, lv2, rs4, by go_num, by omega, rfl, HN.out.1, HN.out.2⟩
        · have hie : tg = 6 := by omega
          subst hie
          have hun : uniT kids = uniOf KK := UT.fin H.out.2.2.2.1 (by rw [HC.out.1]; exact hU)
          have hlen6 : KK.length ≤ 6 := hU.len0
          obtain ⟨Al, cl, rfl⟩ := own_slice hR.own
          have bl := hR.box.lt
          have hkw : Keep (fun _ => False) w wr := HC.out.2.2.1.weak hR.keep (fun i hi => by rw [hi]; exact HC.out.2.2.2.2.2.2.2)
          have hrt : rb < wt.heap.size := HC.out.2.2.2.2.1.lt
          have b0 := hR.box.cell 0
          have b1 := hR.box.cell 1
          have b2 := hR.box.cell 2
          have b3 := hR.box.cell 3
          simp only [List.getElem?_toArray, List.getElem?_cons_succ, List.getElem?_cons_zero] at b0 b1 b2 b3
          have ra : At wr rb 25 #[.int .i64 0, .string ⟨#[]⟩, .slice none 0 0, .slice none 0 0] := hR.keep.at_ HC.out.2.2.2.2.1 HC.out.2.2.2.2.2.2.1
          have rf0 := ra.frozen 0
          have rf1 := ra.frozen 1
          have rf2 := ra.frozen 2
          have rf3 := ra.frozen 3
          have rc0 := ra.cell 0
          have rc1 := ra.cell 1
          have rc2 := ra.cell 2
          have rc3 := ra.cell 3
          have rl := ra.lt
          simp only [List.getElem?_toArray, List.getElem?_cons_succ, List.getElem?_cons_zero] at rc0 rc1 rc2 rc3
          have hkf : ∀ v0 v1 v2 v3, Keep (fun g => g = rb) wr ((((wr.setCell ⟨rb, 0, none⟩ v0).setCell ⟨rb, 1, none⟩ v1).setCell ⟨rb, 2, none⟩ v2).setCell ⟨rb, 3, none⟩ v3) := fun v0 v1 v2 v3 => Keep.set4 (Keep.refl (fun g => g = rb) wr) (.inl rfl) v0 v1 v2 v3
          have hrbt : ¬ rb = tb := HC.out.2.2.2.2.2.2.1
          have htbr : ¬ tb = rb := fun h => hrbt h.symm
          obtain ⟨l, hll⟩ : ∃ l, KK = l := ⟨_, rfl⟩
          subst hll
          generalize hnl : KK.length = n at *
          have HR := Lib.hid (And.intro hR hnl)
          have HKW := Lib.hid (And.intro hkw hkf)
          have HUN := Lib.hid hun
          clear hR hkw hkf ra hun hnl hU
          match n, HR with
          | 0, HR =>
            have hl0 : KK = [] := List.eq_nil_of_length_eq_zero HR.out.2
            subst hl0
            go_wp2_with fail
            go_region
            go_wp2_with fail
            (try simp only [Exit.inBlock, Exit.then])
            refine bodyPost_ret (by simp [results, Tryd.results68, go_sem, rc0, rc1, rc2, rc3]; try rfl) rfl ?_
            exact ⟨OptP.no HUN.out ⟨7, ⟨#[]⟩, none, 0, 0, Al, 0, cl⟩, HKW.out.1.weak (HKW.out.2 (.int .i64 7) (.string ⟨#[]⟩) (.slice none 0 0) (.slice Al 0 cl)).drew (fun i hi => by rw [hi]; exact Nat.le_of_eq HRB.out)⟩
          | 1, HR =>
            obtain ⟨x, hlx⟩ : ∃ x, KK = [x] := List.length_eq_one_iff.1 HR.out.2
            subst hlx
            have hq0 := HR.out.1.tys.at_ (i := 0) (t := x) rfl
            obtain ⟨⟨mk, mnm, mAn, mnn, mcn, mAk, mnk, mck⟩, hq0, hqv⟩ := hq0
            obtain ⟨yb, yo, hyA, hyl, hyn, y0, y1, y2, y3⟩ := (Rd.of_own (X := fun g => g = rb) HR.out.1.own (fun g hg e => by have := HR.out.1.new g hg; omega)).tcells (by simp) hq0
            subst hyA
            simp only [Nat.zero_mul, Nat.add_zero] at y0 y1 y2 y3
            have HQ := Lib.hid hqv
            clear hq0 hqv
            go_wp2_with fail
            (try simp only [Exit.inBlock, Exit.then])
            refine bodyPost_ret (by simp [results, Tryd.results68, go_sem, rc0, rc1, rc2, rc3]; try rfl) rfl ?_
            have hkf := HKW.out.1.weak (HKW.out.2 (.int .i64 mk) (.string mnm) (.slice mAn mnn mcn) (.slice mAk mnk mck)) (fun i hi => by rw [hi]; exact Nat.le_of_eq HRB.out)
            exact ⟨OptP.yes (r := ⟨mk, mnm, mAn, mnn, mcn, mAk, mnk, mck⟩) HUN.out (HQ.out.step hkf), hkf⟩
          | n + 2, HR =>
            have d1 : (((n + 2 : Nat) : Int) == 1) = false := by rw [beq_eq_false_iff_ne]; omega
            go_wp2_with fail
            go_region
            go_wp2_with fail
            (try simp only [Exit.inBlock, Exit.then])
            refine bodyPost_ret (by simp [results, Tryd.results68, go_sem, rc0, rc1, rc2, rc3]; try rfl) rfl ?_
            obtain ⟨x, y, r, hlx⟩ : ∃ x y r, KK = x :: y :: r := by
              have h2 := HR.out.2
              match KK, h2 with
              | x :: y :: r, _ => exact ⟨x, y, r, rfl⟩
            have hkf := HKW.out.1.weak (HKW.out.2 (.int .i64 7) (.string ⟨#[]⟩) (.slice none 0 0) (.slice Al (n + 2) cl)).drew (fun i hi => by rw [hi]; exact Nat.le_of_eq HRB.out)
            have hR := HR.out.1
            rw [← HR.out.2] at hR
            have hty := hR.fin (fun i hi => by have h1 := H.out.2.2.1 i hi; have h2 := HRB.out; omega) HC.out.2.2.1.size (by rw [HR.out.2]; exact hlen6) hrt (HKW.out.2 (.int .i64 7) (.string ⟨#[]⟩) (.slice none 0 0) (.slice Al (n + 2) cl)).drew hkf
            rw [HR.out.2] at hty
            have hun2 : uniT kids = some (.mk 7 ⟨#[]⟩ [] KK) := by rw [HUN.out, hlx]; rfl
            have hyes := OptP.yes (r := ⟨7, ⟨#[]⟩, none, 0, 0, Al, n + 2, cl⟩) hun2 hty
            rw [show decide (0 < (n : Int) + 2) = true by simp; omega]
            exact ⟨hyes, hkf⟩
end Go.Proofs.YtbanpohholnkaaaDoor

namespace Go.Proofs.YtbanpohholnkaaaDoor
open Go.RowKit

set_option maxRecDepth 100000 in
set_option maxHeartbeats 8000000 in
theorem rnorm_any (t : Ty) : ∀ (w : World) (X : Nat → Prop) (r : Tv), (∀ i, X i → i < w.heap.size) → t.size ≤ 100000 → TyV w X r t →
    Calls Tryd.prog 46 #[r.val] w fun e w' => OptP X (normT t) e w' ∧ Keep (fun _ => False) w w' := by
  induction t using Ty.ind with
  | h t ih =>
    intro w X r hX hsz h
    obtain ⟨k, nm, An, nn, cn, Ak, nk, ck⟩ := r
    obtain ⟨rs0, hnk, hnkb, hrd0, hv0⟩ := h.kds
    have hkk := h.knd
    have hnm := h.out.2.2.2.1
    have hnn := h.out.2.2.1
    have hnb := h.out.1.2.1
    simp only at hnk hnkb hrd0 hkk hnm hnn hnb
    have hlen : t.kids.length ≤ 100000 := by
      have := length_le_sizeL t.kids
      have := t.size_eq
      omega
    rw [normT_eq, ← hkk]
    have H := Lib.hid (And.intro h (And.intro ih (And.intro hX (And.intro trivial (And.intro hsz (And.intro hrd0 (And.intro hv0 (And.intro hnm hnn))))))))
    have HN := Lib.hid (And.intro hnk hlen)
    have kw : Keep (fun _ => False) w ((w.alloc (.cells #[.int .i64 k, .string nm, .slice An nn cn, .slice Ak nk ck] 25)).alloc (.cells #[.int .i64 0, .string ⟨#[]⟩, .slice none 0 0, .slice none 0 0] 25)) := ((Keep.refl _ w).alloc _).alloc _
    have abx : At ((w.alloc (.cells #[.int .i64 k, .string nm, .slice An nn cn, .slice Ak nk ck] 25)).alloc (.cells #[.int .i64 0, .string ⟨#[]⟩, .slice none 0 0, .slice none 0 0] 25)) w.heap.size 25 #[.int .i64 k, .string nm, .slice An nn cn, .slice Ak nk ck] := (At.new _ _ _).alloc _
    have arb : At ((w.alloc (.cells #[.int .i64 k, .string nm, .slice An nn cn, .slice Ak nk ck] 25)).alloc (.cells #[.int .i64 0, .string ⟨#[]⟩, .slice none 0 0, .slice none 0 0] 25)) (w.heap.size + 1) 25 #[.int .i64 0, .string ⟨#[]⟩, .slice none 0 0, .slice none 0 0] := At.new_at (by simp)
    have HW := Lib.hid (And.intro kw (And.intro abx arb))
    unfold Tv.val
    simp only
    clear h ih hX hsz hrd0 hv0 hnm hnn hkk kw abx arb hlen
    by_cases h57 : 5 ≤ k ∧ k ≤ 7
    · have hk567 : k = 5 ∨ k = 6 ∨ k = 7 := by omega
      clear h57
      rcases hk567 with rfl | rfl | rfl
      · have HK7 : Hid (5 ≤ (5 : Int) ∧ (5 : Int) ≤ 7) := ⟨by decide, by decide⟩
        have h0 : Hid (NmA ((w.alloc (.cells #[.int .i64 5, .string nm, .slice An nn cn, .slice Ak nk ck] 25)).alloc (.cells #[.int .i64 0, .string ⟨#[]⟩, .slice none 0 0, .slice none 0 0] 25)) (fun g => X g ∨ g = w.heap.size + 1) t.kids nk nk (.slice none 0 0) (.int .i64 0) ((w.alloc (.cells #[.int .i64 5, .string nm, .slice An nn cn, .slice Ak nk ck] 25)).alloc (.cells #[.int .i64 0, .string ⟨#[]⟩, .slice none 0 0, .slice none 0 0] 25))) :=
          ⟨0, _, [], [], rfl, rfl, Nat.zero_le _, rfl, ⟨Keep.refl _ _, World.ownsRow_nil _ 0 25 4, trivial, fun g hg => by simp [Value.ownBlock] at hg, by simp [normL]⟩⟩
        clear hnk
        go_enter Tryd.func46, Tryd.ntmps46
        go_wp2_with fail
        generalize ((w.alloc (.cells #[.int .i64 5, .string nm, .slice An nn cn, .slice Ak nk ck] 25)).alloc (.cells #[.int .i64 0, .string ⟨#[]⟩, .slice none 0 0, .slice none 0 0] 25)) = w1 at *
        generalize hre : w.heap.size + 1 = rb at *
        generalize hbe : w.heap.size = bx at *
        have HRE := Lib.hid (And.intro hre hbe)
        clear hre hbe
        go_loopg [4, 5] nk (NmA w1 (fun g => X g ∨ g = rb) t.kids nk)
        case atStart => exact h0.out
        case round =>
          clear h0
          obtain ⟨i, lv, rs, l, rfl, rfl, hi, rfl, hR⟩ := hrel
          obtain ⟨Al, cl, rfl⟩ := own_slice hR.own
          have arb := hR.keep.at_ HW.out.2.2 (fun x => x)
          have abx := hR.keep.at_ HW.out.2.1 (fun x => x)
          have HR := Lib.hid (And.intro hR (And.intro arb abx))
          obtain ⟨bl, b0, b1, b2, b3⟩ := abx.tcells
          by_cases hlt : i < nk
          · have hkwr := HW.out.1.trans hR.keep (fun _ _ x => x)
            have htb := H.out.1.keep (Z := fun g => (X g ∨ g = rb) ∨ (Value.slice Al i cl).ownBlock = some g) hkwr (fun _ _ x => x.elim) (fun j hj hx => by
              rcases hx with (hx | hx) | hx
              · exact hx
              · have h3 := HRE.out
                omega
              · have h1 := hR.new j hx
                have h2 := HW.out.1.size
                have h3 := HRE.out
                omega)
            obtain ⟨kd, ⟨qk, qnm, qAn, qnn, qcn, qAk, qnk, qck⟩, b, o, hkd, hqv, hAk, hbz, _, c0, c1, c2, c3⟩ := htb.kid (i := i) hlt
            simp only at c0 c1 c2 c3 hAk
            subst hAk
            have hsize := size_mem (List.mem_of_getElem? hkd)
            have kal : Keep (fun _ => False) wr wr := Keep.refl _ wr
            have hc := H.out.2.1 kd (Ty.kid_lt (List.mem_of_getElem? hkd)) wr (fun g => (X g ∨ g = rb) ∨ (Value.slice Al i cl).ownBlock = some g) ⟨qk, qnm, qAn, qnn, qcn, qAk, qnk, qck⟩
              (fun j hj => by
                rcases hj with (hj | hj) | hj
                · have h1 := H.out.2.2.1 j hj
                  have h2 := hkwr.size
                  have h4 := kal.size
                  have h5 := HRE.out
                  omega
                · have h1 := arb.lt
                  have h4 := kal.size
                  omega
                · have h1 := own_lt hR.own hj
                  have h4 := kal.size
                  omega)
              (by have h1 := H.out.2.2.2.2.1; have h2 := t.size_eq; omega)
              (hqv.step kal)
            unfold Tv.val at hc
            simp only at hc
            have HQ := Lib.hid (And.intro hkd kal)
            have hbig : i + 1 ≤ 1099511627776 := by have := HN.out.2; have := HN.out.1; omega
            have hrb1 := arb.lt
            clear hkd hqv kal hR htb hkwr hsize arb abx
            cases ho : normT kd with
            | none =>
              rw [ho] at hc
              have hno : normL t.kids = none := normL_none HQ.out.1 ho
              have hnone : headT 5 t.names (normL t.kids) = none := by
                rw [hno]
                unfold headT
                have := HK7.out
                rw [if_neg (by omega)]
                split
                · rfl
                · split
                  · rfl
                  · split <;> rfl
              have HNO := Lib.hid hnone
              clear hno hnone ho
              go_wp2_with (go_at_call 46; refine hc.mono ?_; rintro e w2 ⟨⟨⟨pk, pnm, pAn, pnn, pcn, pAk, pnk, pck⟩, he⟩, hk2⟩; simp only [Tv.val] at he; subst he; have ra := hk2.at_ (HQ.out.2.at_ HR.out.2.1 (fun x => x)) (fun x => x); have rf0 := ra.frozen 0; have rf1 := ra.frozen 1; have rf2 := ra.frozen 2; have rf3 := ra.frozen 3; have rc0 := ra.cell 0; have rc1 := ra.cell 1; have rc2 := ra.cell 2; have rc3 := ra.cell 3; have rl := ra.lt; simp only [List.getElem?_toArray, List.getElem?_cons_succ, List.getElem?_cons_zero] at rc0 rc1 rc2 rc3; have H3 := Lib.hid hk2; clear hk2 hc ra)
              (try simp only [Exit.inBlock, Exit.then])
              have ra := H3.out.at_ (HQ.out.2.at_ HR.out.2.1 (fun x => x)) (fun x => x)
              refine bodyPost_ret (ret_cell rfl rfl (((((ra.set 0 _).set 1 _).set 2 _).set 3 _).alloc _)) rfl ?_
              refine ⟨OptP.no HNO.out tv0, ?_⟩
              have hkw : Keep (fun _ => False) w w2 := ((HW.out.1.trans HR.out.1.keep (fun _ _ x => x)).trans HQ.out.2 (fun _ _ x => x)).trans H3.out (fun _ _ x => x)
              exact (Keep.set4 hkw (.inr (by have := HRE.out; omega)) _ _ _ _).alloc _
            | some t' =>
              rw [ho] at hc
              have HO := Lib.hid ho
              clear ho
              go_wp2_with (first
                | (go_at_call 46; refine hc.mono ?_; rintro e w2 ⟨⟨⟨pk, pnm, pAn, pnn, pcn, pAk, pnk, pck⟩, he, htp⟩, hk2⟩; simp only [Tv.val] at he; subst he; have hown2 := hk2.own (HQ.out.2.own HR.out.1.own (fun _ _ x => x)) (fun _ _ x => x); have H3 := Lib.hid (And.intro hk2 (And.intro htp hown2)); clear hk2 hc htp hown2)
                | (at_builtin; refine wpList_app rfl (.tmp 43) (.tmp 45) 23 rfl E25 (.slice Al i cl) i (tflat rs) rfl ((H3.out.2.2.alloc _).alloc _) (w2.heap.size + 1) 1 1 #[.int .i64 pk, .string pnm, .slice pAn pnn pcn, .slice pAk pnk pck] rfl (At.new_at (by simp)) rfl (by simp [Value.oneCell']) (by decide) hbig (by decide) ?_))
              intro g cap w5 ho5 hk5 hg5 hgl5
              have H5 := Lib.hid (And.intro ho5 (And.intro hk5 hg5))
              clear ho5 hk5 hg5
              go_wp2_with fail
              go_roundg (nk - (i + 1))
              case measure => omega
              case rel =>
                obtain ⟨ho5, hk5, hg5⟩ := H5.out
                exact ⟨i + 1, _, _, _, rfl, by go_num, by omega, rfl, HR.out.1.app (r := ⟨pk, pnm, pAn, pnn, pcn, pAk, pnk, pck⟩) HQ.out.1 HO.out (HQ.out.2.trans H3.out.1 (fun _ _ x => x)) H3.out.2.1 (((Keep.refl _ w2).alloc _).alloc _) ho5 hk5 (by first | exact hg5 | simpa using hg5)⟩
          · have hie : i = nk := by omega
            subst hie
            have hkwr := HW.out.1.trans hR.keep (fun _ _ x => x)
            have hnl : normL t.kids = some l := by
              have := hR.eq
              rw [List.take_of_length_le (by have := HN.out.1; omega)] at this
              exact this
            have hll : l.length = i := by rw [normL_length hnl]; exact HN.out.1.symm
            have hXr : ∀ j, (X j ∨ j = rb) → j < wr.heap.size := fun j hj => by
              rcases hj with hj | hj
              · have h1 := H.out.2.2.1 j hj
                have h2 := hkwr.size
                have h5 := HRE.out
                omega
              · have h1 := arb.lt
                omega
            have hrow : Rd wr (fun g => X g ∨ g = rb) 4 (.slice Al i cl) i (tflat rs) := Rd.of_own hR.own (fun g hg hx => by
              have h0 := hR.new g hg
              have h3 := HW.out.2.2.lt
              rcases hx with hx | hx
              · have h1 := H.out.2.2.1 g hx
                have h2 := HW.out.1.size
                have h5 := HRE.out
                omega
              · omega)
            have htys : TysV wr (fun g => X g ∨ g = rb) rs l := hR.tys.keep (Keep.refl (fun _ => False) wr) (fun _ _ x => x.elim) (fun _ _ x => .inl x)
            have hnms : Rd wr (fun g => X g ∨ g = rb) 1 (.slice An nn cn) nn (strs t.names) := by
              refine ((Rd.mono (w := w) (Y := fun g => X g ∨ g = rb) H.out.2.2.2.2.2.2.2.1 (fun g hg hx => ?_)).keep hkwr (fun _ x => x.elim))
              rcases hx with hx | hx
              · exact hx
              · have h5 := HRE.out
                omega
            have x0 := abx.cell 0
            have x2 := abx.cell 2
            have rf := arb.frozen
            have rl := arb.lt
            have xl := abx.lt
            simp only [List.getElem?_toArray, List.getElem?_cons_succ, List.getElem?_cons_zero] at x0 x2
            have hfin : ∀ (w2 : World) (o : Option Ty) (r : Tv), Keep (fun _ => False) wr w2 → At w2 rb 25 #[.int .i64 0, .string ⟨#[]⟩, .slice none 0 0, .slice none 0 0] := fun w2 o r hk => hk.at_ arb (fun x => x)
            have HT := Lib.hid (And.intro hkwr (And.intro hnl (And.intro hll (And.intro hXr (And.intro hrow (And.intro htys (And.intro hnms arb)))))))
            clear hkwr hnl hll hXr hrow htys hnms arb hR abx hfin
            have hrec := rrec_any (X := fun g => X g ∨ g = rb) HT.out.2.2.2.1 hnb hnkb HT.out.2.2.2.2.2.2.1 HT.out.2.2.2.2.1 HT.out.2.2.2.2.2.1
            have he : headT 5 t.names (normL t.kids) = recT t.names l := by rw [HT.out.2.1]; rfl
            have HE := Lib.hid he
            clear he
            cases ho : recT t.names l with
            | none =>
              rw [ho] at hrec HE
              clear ho
              go_wp2_with (go_at_call 67; refine hrec.mono ?_; rintro e w2 ⟨⟨⟨pk, pnm, pAn, pnn, pcn, pAk, pnk, pck⟩, he⟩, hk2⟩; simp only [Tv.val] at he; subst he; have ra := hk2.at_ HT.out.2.2.2.2.2.2.2 (fun x => x); have rf0 := ra.frozen 0; have rf1 := ra.frozen 1; have rf2 := ra.frozen 2; have rf3 := ra.frozen 3; have rc0 := ra.cell 0; have rc1 := ra.cell 1; have rc2 := ra.cell 2; have rc3 := ra.cell 3; have rl2 := ra.lt; simp only [List.getElem?_toArray, List.getElem?_cons_succ, List.getElem?_cons_zero] at rc0 rc1 rc2 rc3; have H3 := Lib.hid (And.intro hk2 ra); clear hk2 hrec ra)
              (try simp only [Exit.inBlock, Exit.then])
              refine bodyPost_ret (ret_cell rfl rfl ((((H3.out.2.set 0 _).set 1 _).set 2 _).set 3 _)) rfl ?_
              exact ⟨OptP.no HE.out ⟨pk, pnm, pAn, pnn, pcn, pAk, pnk, pck⟩, Keep.set4 (HT.out.1.trans H3.out.1 (fun _ _ x => x)) (.inr (by have := HRE.out; omega)) _ _ _ _⟩
            | some t' =>
              rw [ho] at hrec HE
              clear ho
              go_wp2_with (go_at_call 67; refine hrec.mono ?_; rintro e w2 ⟨⟨⟨pk, pnm, pAn, pnn, pcn, pAk, pnk, pck⟩, he, htp⟩, hk2⟩; simp only [Tv.val] at he; subst he; have ra := hk2.at_ HT.out.2.2.2.2.2.2.2 (fun x => x); have rf0 := ra.frozen 0; have rf1 := ra.frozen 1; have rf2 := ra.frozen 2; have rf3 := ra.frozen 3; have rc0 := ra.cell 0; have rc1 := ra.cell 1; have rc2 := ra.cell 2; have rc3 := ra.cell 3; have rl2 := ra.lt; simp only [List.getElem?_toArray, List.getElem?_cons_succ, List.getElem?_cons_zero] at rc0 rc1 rc2 rc3; have H3 := Lib.hid (And.intro hk2 (And.intro ra htp)); clear hk2 hrec ra htp)
              (try simp only [Exit.inBlock, Exit.then])
              refine bodyPost_ret (ret_cell rfl rfl ((((H3.out.2.1.set 0 _).set 1 _).set 2 _).set 3 _)) rfl ?_
              have hs4 := Keep.set4 (Keep.refl (fun g => g = rb) w2) (.inl rfl) (.int .i64 pk) (.string pnm) (.slice pAn pnn pcn) (.slice pAk pnk pck)
              exact ⟨OptP.yes (r := ⟨pk, pnm, pAn, pnn, pcn, pAk, pnk, pck⟩) HE.out (H3.out.2.2.keep hs4 (fun _ _ hx => .inr hx) (fun _ _ hx => .inl hx)), (HT.out.1.trans H3.out.1 (fun _ _ x => x)).weak hs4 (fun g hg => by rw [hg]; have := HRE.out; omega)⟩
      · have HK7 : Hid (5 ≤ (6 : Int) ∧ (6 : Int) ≤ 7) := ⟨by decide, by decide⟩
        have h0 : Hid (NmA ((w.alloc (.cells #[.int .i64 6, .string nm, .slice An nn cn, .slice Ak nk ck] 25)).alloc (.cells #[.int .i64 0, .string ⟨#[]⟩, .slice none 0 0, .slice none 0 0] 25)) (fun g => X g ∨ g = w.heap.size + 1) t.kids nk nk (.slice none 0 0) (.int .i64 0) ((w.alloc (.cells #[.int .i64 6, .string nm, .slice An nn cn, .slice Ak nk ck] 25)).alloc (.cells #[.int .i64 0, .string ⟨#[]⟩, .slice none 0 0, .slice none 0 0] 25))) :=
          ⟨0, _, [], [], rfl, rfl, Nat.zero_le _, rfl, ⟨Keep.refl _ _, World.ownsRow_nil _ 0 25 4, trivial, fun g hg => by simp [Value.ownBlock] at hg, by simp [normL]⟩⟩
        clear hnk
        go_enter Tryd.func46, Tryd.ntmps46
        go_wp2_with fail
        generalize ((w.alloc (.cells #[.int .i64 6, .string nm, .slice An nn cn, .slice Ak nk ck] 25)).alloc (.cells #[.int .i64 0, .string ⟨#[]⟩, .slice none 0 0, .slice none 0 0] 25)) = w1 at *
        generalize hre : w.heap.size + 1 = rb at *
        generalize hbe : w.heap.size = bx at *
        have HRE := Lib.hid (And.intro hre hbe)
        clear hre hbe
        go_loopg [4, 5] nk (NmA w1 (fun g => X g ∨ g = rb) t.kids nk)
        case atStart => exact h0.out
        case round =>
          clear h0
          obtain ⟨i, lv, rs, l, rfl, rfl, hi, rfl, hR⟩ := hrel
          obtain ⟨Al, cl, rfl⟩ := own_slice hR.own
          have arb := hR.keep.at_ HW.out.2.2 (fun x => x)
          have abx := hR.keep.at_ HW.out.2.1 (fun x => x)
          have HR := Lib.hid (And.intro hR (And.intro arb abx))
          obtain ⟨bl, b0, b1, b2, b3⟩ := abx.tcells
          by_cases hlt : i < nk
          · have hkwr := HW.out.1.trans hR.keep (fun _ _ x => x)
            have htb := H.out.1.keep (Z := fun g => (X g ∨ g = rb) ∨ (Value.slice Al i cl).ownBlock = some g) hkwr (fun _ _ x => x.elim) (fun j hj hx => by
              rcases hx with (hx | hx) | hx
              · exact hx
              · have h3 := HRE.out
                omega
              · have h1 := hR.new j hx
                have h2 := HW.out.1.size
                have h3 := HRE.out
                omega)
            obtain ⟨kd, ⟨qk, qnm, qAn, qnn, qcn, qAk, qnk, qck⟩, b, o, hkd, hqv, hAk, hbz, _, c0, c1, c2, c3⟩ := htb.kid (i := i) hlt
            simp only at c0 c1 c2 c3 hAk
            subst hAk
            have hsize := size_mem (List.mem_of_getElem? hkd)
            have kal : Keep (fun _ => False) wr wr := Keep.refl _ wr
            have hc := H.out.2.1 kd (Ty.kid_lt (List.mem_of_getElem? hkd)) wr (fun g => (X g ∨ g = rb) ∨ (Value.slice Al i cl).ownBlock = some g) ⟨qk, qnm, qAn, qnn, qcn, qAk, qnk, qck⟩
              (fun j hj => by
                rcases hj with (hj | hj) | hj
                · have h1 := H.out.2.2.1 j hj
                  have h2 := hkwr.size
                  have h4 := kal.size
                  have h5 := HRE.out
                  omega
                · have h1 := arb.lt
                  have h4 := kal.size
                  omega
                · have h1 := own_lt hR.own hj
                  have h4 := kal.size
                  omega)
              (by have h1 := H.out.2.2.2.2.1; have h2 := t.size_eq; omega)
              (hqv.step kal)
            unfold Tv.val at hc
            simp only at hc
            have HQ := Lib.hid (And.intro hkd kal)
            have hbig : i + 1 ≤ 1099511627776 := by have := HN.out.2; have := HN.out.1; omega
            have hrb1 := arb.lt
            clear hkd hqv kal hR htb hkwr hsize arb abx
            cases ho : normT kd with
            | none =>
              rw [ho] at hc
              have hno : normL t.kids = none := normL_none HQ.out.1 ho
              have hnone : headT 6 t.names (normL t.kids) = none := by
                rw [hno]
                unfold headT
                have := HK7.out
                rw [if_neg (by omega)]
                split
                · rfl
                · split
                  · rfl
                  · split <;> rfl
              have HNO := Lib.hid hnone
              clear hno hnone ho
              go_wp2_with (go_at_call 46; refine hc.mono ?_; rintro e w2 ⟨⟨⟨pk, pnm, pAn, pnn, pcn, pAk, pnk, pck⟩, he⟩, hk2⟩; simp only [Tv.val] at he; subst he; have ra := hk2.at_ (HQ.out.2.at_ HR.out.2.1 (fun x => x)) (fun x => x); have rf0 := ra.frozen 0; have rf1 := ra.frozen 1; have rf2 := ra.frozen 2; have rf3 := ra.frozen 3; have rc0 := ra.cell 0; have rc1 := ra.cell 1; have rc2 := ra.cell 2; have rc3 := ra.cell 3; have rl := ra.lt; simp only [List.getElem?_toArray, List.getElem?_cons_succ, List.getElem?_cons_zero] at rc0 rc1 rc2 rc3; have H3 := Lib.hid hk2; clear hk2 hc ra)
              (try simp only [Exit.inBlock, Exit.then])
              have ra := H3.out.at_ (HQ.out.2.at_ HR.out.2.1 (fun x => x)) (fun x => x)
              refine bodyPost_ret (ret_cell rfl rfl (((((ra.set 0 _).set 1 _).set 2 _).set 3 _).alloc _)) rfl ?_
              refine ⟨OptP.no HNO.out tv0, ?_⟩
              have hkw : Keep (fun _ => False) w w2 := ((HW.out.1.trans HR.out.1.keep (fun _ _ x => x)).trans HQ.out.2 (fun _ _ x => x)).trans H3.out (fun _ _ x => x)
              exact (Keep.set4 hkw (.inr (by have := HRE.out; omega)) _ _ _ _).alloc _
            | some t' =>
              rw [ho] at hc
              have HO := Lib.hid ho
              clear ho
              go_wp2_with (first
                | (go_at_call 46; refine hc.mono ?_; rintro e w2 ⟨⟨⟨pk, pnm, pAn, pnn, pcn, pAk, pnk, pck⟩, he, htp⟩, hk2⟩; simp only [Tv.val] at he; subst he; have hown2 := hk2.own (HQ.out.2.own HR.out.1.own (fun _ _ x => x)) (fun _ _ x => x); have H3 := Lib.hid (And.intro hk2 (And.intro htp hown2)); clear hk2 hc htp hown2)
                | (at_builtin; refine wpList_app rfl (.tmp 43) (.tmp 45) 23 rfl E25 (.slice Al i cl) i (tflat rs) rfl ((H3.out.2.2.alloc _).alloc _) (w2.heap.size + 1) 1 1 #[.int .i64 pk, .string pnm, .slice pAn pnn pcn, .slice pAk pnk pck] rfl (At.new_at (by simp)) rfl (by simp [Value.oneCell']) (by decide) hbig (by decide) ?_))
              intro g cap w5 ho5 hk5 hg5 hgl5
              have H5 := Lib.hid (And.intro ho5 (And.intro hk5 hg5))
              clear ho5 hk5 hg5
              go_wp2_with fail
              go_roundg (nk - (i + 1))
              case measure => omega
              case rel =>
                obtain ⟨ho5, hk5, hg5⟩ := H5.out
                exact ⟨i + 1, _, _, _, rfl, by go_num, by omega, rfl, HR.out.1.app (r := ⟨pk, pnm, pAn, pnn, pcn, pAk, pnk, pck⟩) HQ.out.1 HO.out (HQ.out.2.trans H3.out.1 (fun _ _ x => x)) H3.out.2.1 (((Keep.refl _ w2).alloc _).alloc _) ho5 hk5 (by first | exact hg5 | simpa using hg5)⟩
          · have hie : i = nk := by omega
            subst hie
            have hkwr := HW.out.1.trans hR.keep (fun _ _ x => x)
            have hnl : normL t.kids = some l := by
              have := hR.eq
              rw [List.take_of_length_le (by have := HN.out.1; omega)] at this
              exact this
            have hll : l.length = i := by rw [normL_length hnl]; exact HN.out.1.symm
            have hXr : ∀ j, (X j ∨ j = rb) → j < wr.heap.size := fun j hj => by
              rcases hj with hj | hj
              · have h1 := H.out.2.2.1 j hj
                have h2 := hkwr.size
                have h5 := HRE.out
                omega
              · have h1 := arb.lt
                omega
            have hrow : Rd wr (fun g => X g ∨ g = rb) 4 (.slice Al i cl) i (tflat rs) := Rd.of_own hR.own (fun g hg hx => by
              have h0 := hR.new g hg
              have h3 := HW.out.2.2.lt
              rcases hx with hx | hx
              · have h1 := H.out.2.2.1 g hx
                have h2 := HW.out.1.size
                have h5 := HRE.out
                omega
              · omega)
            have htys : TysV wr (fun g => X g ∨ g = rb) rs l := hR.tys.keep (Keep.refl (fun _ => False) wr) (fun _ _ x => x.elim) (fun _ _ x => .inl x)
            have hnms : Rd wr (fun g => X g ∨ g = rb) 1 (.slice An nn cn) nn (strs t.names) := by
              refine ((Rd.mono (w := w) (Y := fun g => X g ∨ g = rb) H.out.2.2.2.2.2.2.2.1 (fun g hg hx => ?_)).keep hkwr (fun _ x => x.elim))
              rcases hx with hx | hx
              · exact hx
              · have h5 := HRE.out
                omega
            have x0 := abx.cell 0
            have x2 := abx.cell 2
            have rf := arb.frozen
            have rl := arb.lt
            have xl := abx.lt
            simp only [List.getElem?_toArray, List.getElem?_cons_succ, List.getElem?_cons_zero] at x0 x2
            have hfin : ∀ (w2 : World) (o : Option Ty) (r : Tv), Keep (fun _ => False) wr w2 → At w2 rb 25 #[.int .i64 0, .string ⟨#[]⟩, .slice none 0 0, .slice none 0 0] := fun w2 o r hk => hk.at_ arb (fun x => x)
            have HT := Lib.hid (And.intro hkwr (And.intro hnl (And.intro hll (And.intro hXr (And.intro hrow (And.intro htys (And.intro hnms arb)))))))
            clear hkwr hnl hll hXr hrow htys hnms arb hR abx hfin
            have he : headT 6 t.names (normL t.kids) = funT l := by rw [HT.out.2.1]; rfl
            have HE := Lib.hid he
            clear he
            have hs4 := Keep.set4 (Keep.refl (fun g => g = rb) wr) (.inl rfl) (.int .i64 6) (.string ⟨#[]⟩) (.slice none 0 0) (.slice Al i cl)
            have HS4 := Lib.hid hs4
            have rf0 := rf 0
            have rf1 := rf 1
            have rf2 := rf 2
            have rf3 := rf 3
            have rc0 := HT.out.2.2.2.2.2.2.2.cell 0
            have rc1 := HT.out.2.2.2.2.2.2.2.cell 1
            have rc2 := HT.out.2.2.2.2.2.2.2.cell 2
            have rc3 := HT.out.2.2.2.2.2.2.2.cell 3
            simp only [List.getElem?_toArray, List.getElem?_cons_succ, List.getElem?_cons_zero] at rc0 rc1 rc2 rc3
            clear hs4 rf
            by_cases h2 : i = 2
            · have d2 : ((i : Int) == 2) = true := by rw [beq_iff_eq]; omega
              have HH2 := Lib.hid h2
              clear h2
              go_wp2_with fail
              (try simp only [Exit.inBlock, Exit.then])
              refine bodyPost_ret (ret_cell rfl rfl ((((HT.out.2.2.2.2.2.2.2.set 0 _).set 1 _).set 2 _).set 3 _)) rfl ?_
              have hf : funT l = some (.mk 6 ⟨#[]⟩ [] l) := by unfold funT; rw [if_pos (by rw [HT.out.2.2.1]; exact HH2.out)]
              have hwf := HT.out.1.weak HS4.out (fun g hg => by rw [hg]; have := HRE.out; omega)
              refine ⟨OptP.yes (r := ⟨6, ⟨#[]⟩, none, 0, 0, Al, i, cl⟩) (HE.out.trans hf) ?_, hwf⟩
              refine TyV.mk (t := .mk 6 ⟨#[]⟩ [] l) (rs := rs) ⟨rfl, Nat.zero_le _, hnkb⟩ rfl rfl (Rd.nil _ X 1) HT.out.2.2.1.symm ?_ (HT.out.2.2.2.2.2.1.keep HS4.out (fun _ _ hx => .inr hx) (fun _ _ hx => .inl hx))
              exact (HT.out.2.2.2.2.1.keep HS4.out (fun _ hx => .inr hx)).mono (fun _ _ hx => .inl hx)
            · have d2 : ((i : Int) == 2) = false := by rw [beq_eq_false_iff_ne]; omega
              have HH2 := Lib.hid h2
              clear h2
              go_wp2_with fail
              (try simp only [Exit.inBlock, Exit.then])
              refine bodyPost_ret (ret_cell rfl rfl ((((HT.out.2.2.2.2.2.2.2.set 0 _).set 1 _).set 2 _).set 3 _)) rfl ?_
              have hf : funT l = none := by unfold funT; rw [if_neg (by rw [HT.out.2.2.1]; exact HH2.out)]
              exact ⟨OptP.no (HE.out.trans hf) ⟨6, ⟨#[]⟩, none, 0, 0, Al, i, cl⟩, HT.out.1.weak HS4.out (fun g hg => by rw [hg]; have := HRE.out; omega)⟩
      · have HK7 : Hid (5 ≤ (7 : Int) ∧ (7 : Int) ≤ 7) := ⟨by decide, by decide⟩
        have h0 : Hid (NmA ((w.alloc (.cells #[.int .i64 7, .string nm, .slice An nn cn, .slice Ak nk ck] 25)).alloc (.cells #[.int .i64 0, .string ⟨#[]⟩, .slice none 0 0, .slice none 0 0] 25)) (fun g => X g ∨ g = w.heap.size + 1) t.kids nk nk (.slice none 0 0) (.int .i64 0) ((w.alloc (.cells #[.int .i64 7, .string nm, .slice An nn cn, .slice Ak nk ck] 25)).alloc (.cells #[.int .i64 0, .string ⟨#[]⟩, .slice none 0 0, .slice none 0 0] 25))) :=
          ⟨0, _, [], [], rfl, rfl, Nat.zero_le _, rfl, ⟨Keep.refl _ _, World.ownsRow_nil _ 0 25 4, trivial, fun g hg => by simp [Value.ownBlock] at hg, by simp [normL]⟩⟩
        clear hnk
        go_enter Tryd.func46, Tryd.ntmps46
        go_wp2_with fail
        generalize ((w.alloc (.cells #[.int .i64 7, .string nm, .slice An nn cn, .slice Ak nk ck] 25)).alloc (.cells #[.int .i64 0, .string ⟨#[]⟩, .slice none 0 0, .slice none 0 0] 25)) = w1 at *
        generalize hre : w.heap.size + 1 = rb at *
        generalize hbe : w.heap.size = bx at *
        have HRE := Lib.hid (And.intro hre hbe)
        clear hre hbe
        go_loopg [4, 5] nk (NmA w1 (fun g => X g ∨ g = rb) t.kids nk)
        case atStart => exact h0.out
        case round =>
          clear h0
          obtain ⟨i, lv, rs, l, rfl, rfl, hi, rfl, hR⟩ := hrel
          obtain ⟨Al, cl, rfl⟩ := own_slice hR.own
          have arb := hR.keep.at_ HW.out.2.2 (fun x => x)
          have abx := hR.keep.at_ HW.out.2.1 (fun x => x)
          have HR := Lib.hid (And.intro hR (And.intro arb abx))
          obtain ⟨bl, b0, b1, b2, b3⟩ := abx.tcells
          by_cases hlt : i < nk
          · have hkwr := HW.out.1.trans hR.keep (fun _ _ x => x)
            have htb := H.out.1.keep (Z := fun g => (X g ∨ g = rb) ∨ (Value.slice Al i cl).ownBlock = some g) hkwr (fun _ _ x => x.elim) (fun j hj hx => by
              rcases hx with (hx | hx) | hx
              · exact hx
              · have h3 := HRE.out
                omega
              · have h1 := hR.new j hx
                have h2 := HW.out.1.size
                have h3 := HRE.out
                omega)
            obtain ⟨kd, ⟨qk, qnm, qAn, qnn, qcn, qAk, qnk, qck⟩, b, o, hkd, hqv, hAk, hbz, _, c0, c1, c2, c3⟩ := htb.kid (i := i) hlt
            simp only at c0 c1 c2 c3 hAk
            subst hAk
            have hsize := size_mem (List.mem_of_getElem? hkd)
            have kal : Keep (fun _ => False) wr wr := Keep.refl _ wr
            have hc := H.out.2.1 kd (Ty.kid_lt (List.mem_of_getElem? hkd)) wr (fun g => (X g ∨ g = rb) ∨ (Value.slice Al i cl).ownBlock = some g) ⟨qk, qnm, qAn, qnn, qcn, qAk, qnk, qck⟩
              (fun j hj => by
                rcases hj with (hj | hj) | hj
                · have h1 := H.out.2.2.1 j hj
                  have h2 := hkwr.size
                  have h4 := kal.size
                  have h5 := HRE.out
                  omega
                · have h1 := arb.lt
                  have h4 := kal.size
                  omega
                · have h1 := own_lt hR.own hj
                  have h4 := kal.size
                  omega)
              (by have h1 := H.out.2.2.2.2.1; have h2 := t.size_eq; omega)
              (hqv.step kal)
            unfold Tv.val at hc
            simp only at hc
            have HQ := Lib.hid (And.intro hkd kal)
            have hbig : i + 1 ≤ 1099511627776 := by have := HN.out.2; have := HN.out.1; omega
            have hrb1 := arb.lt
            clear hkd hqv kal hR htb hkwr hsize arb abx
            cases ho : normT kd with
            | none =>
              rw [ho] at hc
              have hno : normL t.kids = none := normL_none HQ.out.1 ho
              have hnone : headT 7 t.names (normL t.kids) = none := by
                rw [hno]
                unfold headT
                have := HK7.out
                rw [if_neg (by omega)]
                split
                · rfl
                · split
                  · rfl
                  · split <;> rfl
              have HNO := Lib.hid hnone
              clear hno hnone ho
              go_wp2_with (go_at_call 46; refine hc.mono ?_; rintro e w2 ⟨⟨⟨pk, pnm, pAn, pnn, pcn, pAk, pnk, pck⟩, he⟩, hk2⟩; simp only [Tv.val] at he; subst he; have ra := hk2.at_ (HQ.out.2.at_ HR.out.2.1 (fun x => x)) (fun x => x); have rf0 := ra.frozen 0; have rf1 := ra.frozen 1; have rf2 := ra.frozen 2; have rf3 := ra.frozen 3; have rc0 := ra.cell 0; have rc1 := ra.cell 1; have rc2 := ra.cell 2; have rc3 := ra.cell 3; have rl := ra.lt; simp only [List.getElem?_toArray, List.getElem?_cons_succ, List.getElem?_cons_zero] at rc0 rc1 rc2 rc3; have H3 := Lib.hid hk2; clear hk2 hc ra)
              (try simp only [Exit.inBlock, Exit.then])
              have ra := H3.out.at_ (HQ.out.2.at_ HR.out.2.1 (fun x => x)) (fun x => x)
              refine bodyPost_ret (ret_cell rfl rfl (((((ra.set 0 _).set 1 _).set 2 _).set 3 _).alloc _)) rfl ?_
              refine ⟨OptP.no HNO.out tv0, ?_⟩
              have hkw : Keep (fun _ => False) w w2 := ((HW.out.1.trans HR.out.1.keep (fun _ _ x => x)).trans HQ.out.2 (fun _ _ x => x)).trans H3.out (fun _ _ x => x)
              exact (Keep.set4 hkw (.inr (by have := HRE.out; omega)) _ _ _ _).alloc _
            | some t' =>
              rw [ho] at hc
              have HO := Lib.hid ho
              clear ho
              go_wp2_with (first
                | (go_at_call 46; refine hc.mono ?_; rintro e w2 ⟨⟨⟨pk, pnm, pAn, pnn, pcn, pAk, pnk, pck⟩, he, htp⟩, hk2⟩; simp only [Tv.val] at he; subst he; have hown2 := hk2.own (HQ.out.2.own HR.out.1.own (fun _ _ x => x)) (fun _ _ x => x); have H3 := Lib.hid (And.intro hk2 (And.intro htp hown2)); clear hk2 hc htp hown2)
                | (at_builtin; refine wpList_app rfl (.tmp 43) (.tmp 45) 23 rfl E25 (.slice Al i cl) i (tflat rs) rfl ((H3.out.2.2.alloc _).alloc _) (w2.heap.size + 1) 1 1 #[.int .i64 pk, .string pnm, .slice pAn pnn pcn, .slice pAk pnk pck] rfl (At.new_at (by simp)) rfl (by simp [Value.oneCell']) (by decide) hbig (by decide) ?_))
              intro g cap w5 ho5 hk5 hg5 hgl5
              have H5 := Lib.hid (And.intro ho5 (And.intro hk5 hg5))
              clear ho5 hk5 hg5
              go_wp2_with fail
              go_roundg (nk - (i + 1))
              case measure => omega
              case rel =>
                obtain ⟨ho5, hk5, hg5⟩ := H5.out
                exact ⟨i + 1, _, _, _, rfl, by go_num, by omega, rfl, HR.out.1.app (r := ⟨pk, pnm, pAn, pnn, pcn, pAk, pnk, pck⟩) HQ.out.1 HO.out (HQ.out.2.trans H3.out.1 (fun _ _ x => x)) H3.out.2.1 (((Keep.refl _ w2).alloc _).alloc _) ho5 hk5 (by first | exact hg5 | simpa using hg5)⟩
          · have hie : i = nk := by omega
            subst hie
            have hkwr := HW.out.1.trans hR.keep (fun _ _ x => x)
            have hnl : normL t.kids = some l := by
              have := hR.eq
              rw [List.take_of_length_le (by have := HN.out.1; omega)] at this
              exact this
            have hll : l.length = i := by rw [normL_length hnl]; exact HN.out.1.symm
            have hXr : ∀ j, (X j ∨ j = rb) → j < wr.heap.size := fun j hj => by
              rcases hj with hj | hj
              · have h1 := H.out.2.2.1 j hj
                have h2 := hkwr.size
                have h5 := HRE.out
                omega
              · have h1 := arb.lt
                omega
            have hrow : Rd wr (fun g => X g ∨ g = rb) 4 (.slice Al i cl) i (tflat rs) := Rd.of_own hR.own (fun g hg hx => by
              have h0 := hR.new g hg
              have h3 := HW.out.2.2.lt
              rcases hx with hx | hx
              · have h1 := H.out.2.2.1 g hx
                have h2 := HW.out.1.size
                have h5 := HRE.out
                omega
              · omega)
            have htys : TysV wr (fun g => X g ∨ g = rb) rs l := hR.tys.keep (Keep.refl (fun _ => False) wr) (fun _ _ x => x.elim) (fun _ _ x => .inl x)
            have hnms : Rd wr (fun g => X g ∨ g = rb) 1 (.slice An nn cn) nn (strs t.names) := by
              refine ((Rd.mono (w := w) (Y := fun g => X g ∨ g = rb) H.out.2.2.2.2.2.2.2.1 (fun g hg hx => ?_)).keep hkwr (fun _ x => x.elim))
              rcases hx with hx | hx
              · exact hx
              · have h5 := HRE.out
                omega
            have x0 := abx.cell 0
            have x2 := abx.cell 2
            have rf := arb.frozen
            have rl := arb.lt
            have xl := abx.lt
            simp only [List.getElem?_toArray, List.getElem?_cons_succ, List.getElem?_cons_zero] at x0 x2
            have hfin : ∀ (w2 : World) (o : Option Ty) (r : Tv), Keep (fun _ => False) wr w2 → At w2 rb 25 #[.int .i64 0, .string ⟨#[]⟩, .slice none 0 0, .slice none 0 0] := fun w2 o r hk => hk.at_ arb (fun x => x)
            have HT := Lib.hid (And.intro hkwr (And.intro hnl (And.intro hll (And.intro hXr (And.intro hrow (And.intro htys (And.intro hnms arb)))))))
            clear hkwr hnl hll hXr hrow htys hnms arb hR abx hfin
            have hrec := runion_any (X := fun g => X g ∨ g = rb) HT.out.2.2.2.1 (by have := HN.out; omega) (normL_nf HT.out.2.1 (fun k _ n hn => normT_nf k n hn)).1 HT.out.2.2.2.2.1 HT.out.2.2.2.2.2.1
            have he : headT 7 t.names (normL t.kids) = uniT l := by rw [HT.out.2.1]; rfl
            have HE := Lib.hid he
            clear he
            cases ho : uniT l with
            | none =>
              rw [ho] at hrec HE
              clear ho
              go_wp2_with (go_at_call 68; refine hrec.mono ?_; rintro e w2 ⟨⟨⟨pk, pnm, pAn, pnn, pcn, pAk, pnk, pck⟩, he⟩, hk2⟩; simp only [Tv.val] at he; subst he; have ra := hk2.at_ HT.out.2.2.2.2.2.2.2 (fun x => x); have rf0 := ra.frozen 0; have rf1 := ra.frozen 1; have rf2 := ra.frozen 2; have rf3 := ra.frozen 3; have rc0 := ra.cell 0; have rc1 := ra.cell 1; have rc2 := ra.cell 2; have rc3 := ra.cell 3; have rl2 := ra.lt; simp only [List.getElem?_toArray, List.getElem?_cons_succ, List.getElem?_cons_zero] at rc0 rc1 rc2 rc3; have H3 := Lib.hid (And.intro hk2 ra); clear hk2 hrec ra)
              (try simp only [Exit.inBlock, Exit.then])
              refine bodyPost_ret (ret_cell rfl rfl ((((H3.out.2.set 0 _).set 1 _).set 2 _).set 3 _)) rfl ?_
              exact ⟨OptP.no HE.out ⟨pk, pnm, pAn, pnn, pcn, pAk, pnk, pck⟩, Keep.set4 (HT.out.1.trans H3.out.1 (fun _ _ x => x)) (.inr (by have := HRE.out; omega)) _ _ _ _⟩
            | some t' =>
              rw [ho] at hrec HE
              clear ho
              go_wp2_with (go_at_call 68; refine hrec.mono ?_; rintro e w2 ⟨⟨⟨pk, pnm, pAn, pnn, pcn, pAk, pnk, pck⟩, he, htp⟩, hk2⟩; simp only [Tv.val] at he; subst he; have ra := hk2.at_ HT.out.2.2.2.2.2.2.2 (fun x => x); have rf0 := ra.frozen 0; have rf1 := ra.frozen 1; have rf2 := ra.frozen 2; have rf3 := ra.frozen 3; have rc0 := ra.cell 0; have rc1 := ra.cell 1; have rc2 := ra.cell 2; have rc3 := ra.cell 3; have rl2 := ra.lt; simp only [List.getElem?_toArray, List.getElem?_cons_succ, List.getElem?_cons_zero] at rc0 rc1 rc2 rc3; have H3 := Lib.hid (And.intro hk2 (And.intro ra htp)); clear hk2 hrec ra htp)
              (try simp only [Exit.inBlock, Exit.then])
              refine bodyPost_ret (ret_cell rfl rfl ((((H3.out.2.1.set 0 _).set 1 _).set 2 _).set 3 _)) rfl ?_
              have hs4 := Keep.set4 (Keep.refl (fun g => g = rb) w2) (.inl rfl) (.int .i64 pk) (.string pnm) (.slice pAn pnn pcn) (.slice pAk pnk pck)
              exact ⟨OptP.yes (r := ⟨pk, pnm, pAn, pnn, pcn, pAk, pnk, pck⟩) HE.out (H3.out.2.2.keep hs4 (fun _ _ hx => .inr hx) (fun _ _ hx => .inl hx)), (HT.out.1.trans H3.out.1 (fun _ _ x => x)).weak hs4 (fun g hg => by rw [hg]; have := HRE.out; omega)⟩
    · by_cases h04 : 0 ≤ k ∧ k ≤ 4
      · have he : headT k t.names (normL t.kids) = some (.mk k ⟨#[]⟩ [] []) := by
          unfold headT
          rw [if_pos h04]
        have HE := Lib.hid he
        rw [he]
        have hk5 : k = 0 ∨ k = 1 ∨ k = 2 ∨ k = 3 ∨ k = 4 := by omega
        clear he h57 h04
        rcases hk5 with rfl | rfl | rfl | rfl | rfl
        all_goals (
          go_enter Tryd.func46, Tryd.ntmps46
          go_wp2_with fail
          (try simp only [Exit.inBlock, Exit.then])
          refine bodyPost_ret (by simp [results, Tryd.results46, go_sem]; try rfl) rfl ?_
          exact ⟨OptP.yes rfl (TyV.leaf _ X _), ((Keep.refl _ w).alloc _).alloc _⟩)
      · have he := headT_none t.names (normL t.kids) (k := k) (by omega)
        have HE := Lib.hid he
        have e0 : (k == 0) = false := by rw [beq_eq_false_iff_ne]; omega
        have e1 : (k == 1) = false := by rw [beq_eq_false_iff_ne]; omega
        have e2 : (k == 2) = false := by rw [beq_eq_false_iff_ne]; omega
        have e3 : (k == 3) = false := by rw [beq_eq_false_iff_ne]; omega
        have e4 : (k == 4) = false := by rw [beq_eq_false_iff_ne]; omega
        have e5 : (k == 5) = false := by rw [beq_eq_false_iff_ne]; omega
        have e6 : (k == 6) = false := by rw [beq_eq_false_iff_ne]; omega
        have e7 : (k == 7) = false := by rw [beq_eq_false_iff_ne]; omega
        generalize headT k t.names (normL t.kids) = o at *
        clear he h57 h04
        go_enter Tryd.func46, Tryd.ntmps46
        go_wp2_with fail
        (try simp only [Exit.inBlock, Exit.then])
        refine bodyPost_ret (by simp [results, Tryd.results46, go_sem]; try rfl) rfl ?_
        exact ⟨OptP.no HE.out tv0, ((Keep.refl _ w).alloc _).alloc _⟩
end Go.Proofs.YtbanpohholnkaaaDoor

namespace Go.Proofs.YtbanpohholnkaaaDoor
open Go.RowKit

set_option maxRecDepth 100000 in
set_option maxHeartbeats 4000000 in
theorem rNorm_any {w : World} {X : Nat → Prop} {r : Tv} {t : Ty} (hX : ∀ i, X i → i < w.heap.size) (h : TyV w X r t) :
    Calls Tryd.prog 26 #[r.val] w fun e w' => NormP X (NormT t) e w' ∧ Keep (fun _ => False) w w' := by
  obtain ⟨k, nm, An, nn, cn, Ak, nk, ck⟩ := r
  have kw : Keep (fun _ => False) w ((w.alloc (.cells #[.int .i64 k, .string nm, .slice An nn cn, .slice Ak nk ck] 25)).alloc (.cells #[.int .i64 0, .string ⟨#[]⟩, .slice none 0 0, .slice none 0 0] 25)) := ((Keep.refl _ w).alloc _).alloc _
  have abx : At ((w.alloc (.cells #[.int .i64 k, .string nm, .slice An nn cn, .slice Ak nk ck] 25)).alloc (.cells #[.int .i64 0, .string ⟨#[]⟩, .slice none 0 0, .slice none 0 0] 25)) w.heap.size 25 #[.int .i64 k, .string nm, .slice An nn cn, .slice Ak nk ck] := (At.new _ _ _).alloc _
  have arb : At ((w.alloc (.cells #[.int .i64 k, .string nm, .slice An nn cn, .slice Ak nk ck] 25)).alloc (.cells #[.int .i64 0, .string ⟨#[]⟩, .slice none 0 0, .slice none 0 0] 25)) (w.heap.size + 1) 25 #[.int .i64 0, .string ⟨#[]⟩, .slice none 0 0, .slice none 0 0] := At.new_at (by simp)
  have hh := rHeight_any (h.step kw)
  have HS := fun (w' : World) (hk : Keep (fun _ => False) ((w.alloc (.cells #[.int .i64 k, .string nm, .slice An nn cn, .slice Ak nk ck] 25)).alloc (.cells #[.int .i64 0, .string ⟨#[]⟩, .slice none 0 0, .slice none 0 0] 25)) w') => rSize_any ((h.step kw).step hk)
  have HS := Lib.hid HS
  have H := Lib.hid (And.intro h (And.intro hX (And.intro trivial (And.intro kw (And.intro abx arb)))))
  unfold Tv.val at hh ⊢
  simp only at hh ⊢
  clear h hX kw abx arb
  by_cases h16 : 16 < t.ht
  · have hno : NormT t = none := by unfold NormT; rw [if_pos (.inl h16)]
    have e17 : min t.ht 17 = 17 := by omega
    rw [hno]
    rw [e17] at hh
    clear hno e17 h16
    go_enter Tryd.func26, Tryd.ntmps26
    go_wp2_with (go_at_call 44; refine hh.mono ?_; rintro e w2 ⟨rfl, hk2⟩; have ra := hk2.at_ H.out.2.2.2.2.2 (fun x => x); have rf0 := ra.frozen 0; have rf1 := ra.frozen 1; have rf2 := ra.frozen 2; have rf3 := ra.frozen 3; have rc0 := ra.cell 0; have rc1 := ra.cell 1; have rc2 := ra.cell 2; have rc3 := ra.cell 3; have rl2 := ra.lt; simp only [List.getElem?_toArray, List.getElem?_cons_succ, List.getElem?_cons_zero] at rc0 rc1 rc2 rc3; have H3 := Lib.hid (And.intro hk2 ra); clear hk2 hh ra)
    (try simp only [Exit.inBlock, Exit.then])
    refine bodyPost_ret (ret_cell rfl rfl ((((H3.out.2.set 0 _).set 1 _).set 2 _).set 3 _)) rfl ?_
    exact ⟨rfl, Keep.set4 (H.out.2.2.2.1.trans H3.out.1 (fun _ _ x => x)) (.inr (by omega)) _ _ _ _⟩
  · have e17 : min t.ht 17 = t.ht := by omega
    have hht : t.ht ≤ 16 := by omega
    have d16 : decide (16 < (t.ht : Int)) = false := by simp; omega
    rw [e17] at hh
    clear h16 e17
    have hty0 : ¬ 200 < t.size → NormT t = normT t := fun h2 => by unfold NormT; rw [if_neg (by omega)]
    have HTY := Lib.hid hty0
    clear hty0
    generalize t.ht = th at *
    by_cases h200 : 200 < t.size
    · have hno : NormT t = none := by unfold NormT; rw [if_pos (.inr h200)]
      have HZ := Lib.hid (show min t.size 201 = 201 by omega)
      rw [hno]
      clear hno h200
      go_enter Tryd.func26, Tryd.ntmps26
      go_wp2_with (first | (go_at_call 44; refine hh.mono ?_; rintro e w2 ⟨rfl, hk2⟩; have ax := hk2.at_ H.out.2.2.2.2.1 (fun x => x); have x0 := ax.cell 0; have x1 := ax.cell 1; have x2 := ax.cell 2; have x3 := ax.cell 3; have xl := ax.lt; simp only [List.getElem?_toArray, List.getElem?_cons_succ, List.getElem?_cons_zero] at x0 x1 x2 x3; have hs := HS.out w2 hk2; unfold Tv.val at hs; simp only at hs; rw [HZ.out] at hs; have H2 := Lib.hid hk2; clear hk2 hh ax) | (go_at_call 43; refine hs.mono ?_; rintro e w3 ⟨rfl, hk3⟩; have k13 := H2.out.trans hk3 (fun _ _ x => x); have ra := k13.at_ H.out.2.2.2.2.2 (fun x => x); have rf0 := ra.frozen 0; have rf1 := ra.frozen 1; have rf2 := ra.frozen 2; have rf3 := ra.frozen 3; have rc0 := ra.cell 0; have rc1 := ra.cell 1; have rc2 := ra.cell 2; have rc3 := ra.cell 3; have rl2 := ra.lt; simp only [List.getElem?_toArray, List.getElem?_cons_succ, List.getElem?_cons_zero] at rc0 rc1 rc2 rc3; have HA := Lib.hid ra; clear ra; have H3 := Lib.hid k13; clear hk3 hs k13))
      (try simp only [Exit.inBlock, Exit.then])
      refine bodyPost_ret (ret_cell rfl rfl ((((HA.out.set 0 _).set 1 _).set 2 _).set 3 _)) rfl ?_
      exact ⟨rfl, Keep.set4 (H.out.2.2.2.1.trans H3.out (fun _ _ x => x)) (.inr (by omega)) _ _ _ _⟩
    · have hty : NormT t = normT t := HTY.out h200
      have HZ := Lib.hid (show min t.size 201 = t.size by omega)
      have d200 : decide (200 < (t.size : Int)) = false := by simp; omega
      have HNm : ∀ (w3 : World), Keep (fun _ => False) ((w.alloc (.cells #[.int .i64 k, .string nm, .slice An nn cn, .slice Ak nk ck] 25)).alloc (.cells #[.int .i64 0, .string ⟨#[]⟩, .slice none 0 0, .slice none 0 0] 25)) w3 → Calls Tryd.prog 46 #[.agg #[.int .i64 k, .string nm, .slice An nn cn, .slice Ak nk ck]] w3 fun e w' => OptP (fun g => X g ∨ g = w.heap.size + 1) (normT t) e w' ∧ Keep (fun _ => False) w3 w' := by
        intro w3 hk
        have hk0 := H.out.2.2.2.1.trans hk (fun _ _ x => x)
        exact rnorm_any t w3 (fun g => X g ∨ g = w.heap.size + 1) ⟨k, nm, An, nn, cn, Ak, nk, ck⟩ (fun i hi => by
          rcases hi with hi | hi
          · have h1 := H.out.2.1 i hi
            have h2 := hk0.size
            omega
          · have h1 := H.out.2.2.2.2.2.lt
            have h2 := hk.size
            omega) (by omega) (H.out.1.keep hk0 (fun _ _ x => x.elim) (fun i hi hx => by
              rcases hx with hx | hx
              · exact hx
              · omega))
      rw [hty]
      have HNm := Lib.hid HNm
      clear h200 hty
      generalize t.size = ts at *
      cases ho : normT t with
      | none =>
        rw [ho] at HNm
        clear ho
        go_enter Tryd.func26, Tryd.ntmps26
        go_wp2_with (first | (go_at_call 44; refine hh.mono ?_; rintro e w2 ⟨rfl, hk2⟩; have ax := hk2.at_ H.out.2.2.2.2.1 (fun x => x); have x0 := ax.cell 0; have x1 := ax.cell 1; have x2 := ax.cell 2; have x3 := ax.cell 3; have xl := ax.lt; simp only [List.getElem?_toArray, List.getElem?_cons_succ, List.getElem?_cons_zero] at x0 x1 x2 x3; have hs := HS.out w2 hk2; unfold Tv.val at hs; simp only at hs; rw [HZ.out] at hs; have H2 := Lib.hid hk2; clear hk2 hh ax) | (go_at_call 43; refine hs.mono ?_; rintro e w3 ⟨rfl, hk3⟩; have k13 := H2.out.trans hk3 (fun _ _ x => x); have ay := k13.at_ H.out.2.2.2.2.1 (fun x => x); have y0 := ay.cell 0; have y1 := ay.cell 1; have y2 := ay.cell 2; have y3 := ay.cell 3; have yl := ay.lt; simp only [List.getElem?_toArray, List.getElem?_cons_succ, List.getElem?_cons_zero] at y0 y1 y2 y3; have hn := HNm.out w3 k13; clear ay; have H3 := Lib.hid k13; clear hk3 hs k13) | (go_at_call 46; refine hn.mono ?_; rintro e w4 ⟨⟨⟨pk, pnm, pAn, pnn, pcn, pAk, pnk, pck⟩, he⟩, hk4⟩; simp only [Tv.val] at he; subst he; have k14 := H3.out.trans hk4 (fun _ _ x => x); have ra := k14.at_ H.out.2.2.2.2.2 (fun x => x); have rf0 := ra.frozen 0; have rf1 := ra.frozen 1; have rf2 := ra.frozen 2; have rf3 := ra.frozen 3; have rc0 := ra.cell 0; have rc1 := ra.cell 1; have rc2 := ra.cell 2; have rc3 := ra.cell 3; have rl2 := ra.lt; simp only [List.getElem?_toArray, List.getElem?_cons_succ, List.getElem?_cons_zero] at rc0 rc1 rc2 rc3; have H4 := Lib.hid (And.intro k14 (And.intro ra trivial)); clear hk4 hn k14 ra))
        (try simp only [Exit.inBlock, Exit.then])
        refine bodyPost_ret (ret_cell rfl rfl (((((H4.out.2.1.set 0 _).set 1 _).set 2 _).set 3 _).alloc _)) rfl ?_
        exact ⟨rfl, (Keep.set4 (H.out.2.2.2.1.trans H4.out.1 (fun _ _ x => x)) (.inr (by omega)) _ _ _ _).alloc _⟩
      | some t' =>
        rw [ho] at HNm
        clear ho
        go_enter Tryd.func26, Tryd.ntmps26
        go_wp2_with (first | (go_at_call 44; refine hh.mono ?_; rintro e w2 ⟨rfl, hk2⟩; have ax := hk2.at_ H.out.2.2.2.2.1 (fun x => x); have x0 := ax.cell 0; have x1 := ax.cell 1; have x2 := ax.cell 2; have x3 := ax.cell 3; have xl := ax.lt; simp only [List.getElem?_toArray, List.getElem?_cons_succ, List.getElem?_cons_zero] at x0 x1 x2 x3; have hs := HS.out w2 hk2; unfold Tv.val at hs; simp only at hs; rw [HZ.out] at hs; have H2 := Lib.hid hk2; clear hk2 hh ax) | (go_at_call 43; refine hs.mono ?_; rintro e w3 ⟨rfl, hk3⟩; have k13 := H2.out.trans hk3 (fun _ _ x => x); have ay := k13.at_ H.out.2.2.2.2.1 (fun x => x); have y0 := ay.cell 0; have y1 := ay.cell 1; have y2 := ay.cell 2; have y3 := ay.cell 3; have yl := ay.lt; simp only [List.getElem?_toArray, List.getElem?_cons_succ, List.getElem?_cons_zero] at y0 y1 y2 y3; have hn := HNm.out w3 k13; clear ay; have H3 := Lib.hid k13; clear hk3 hs k13) | (go_at_call 46; refine hn.mono ?_; rintro e w4 ⟨⟨⟨pk, pnm, pAn, pnn, pcn, pAk, pnk, pck⟩, he, htp⟩, hk4⟩; simp only [Tv.val] at he; subst he; have k14 := H3.out.trans hk4 (fun _ _ x => x); have ra := k14.at_ H.out.2.2.2.2.2 (fun x => x); have rf0 := ra.frozen 0; have rf1 := ra.frozen 1; have rf2 := ra.frozen 2; have rf3 := ra.frozen 3; have rc0 := ra.cell 0; have rc1 := ra.cell 1; have rc2 := ra.cell 2; have rc3 := ra.cell 3; have rl2 := ra.lt; simp only [List.getElem?_toArray, List.getElem?_cons_succ, List.getElem?_cons_zero] at rc0 rc1 rc2 rc3; have H4 := Lib.hid (And.intro k14 (And.intro ra htp)); clear hk4 hn k14 ra))
        (try simp only [Exit.inBlock, Exit.then])
        refine bodyPost_ret (ret_cell rfl rfl (((((H4.out.2.1.set 0 _).set 1 _).set 2 _).set 3 _).alloc _)) rfl ?_
        have hs4 := (Keep.set4 (Keep.refl (fun g => g = w.heap.size + 1) w4) (.inl rfl) (.int .i64 pk) (.string pnm) (.slice pAn pnn pcn) (.slice pAk pnk pck)).alloc (.cells #[.int .i64 pk, .string pnm, .slice pAn pnn pcn, .slice pAk pnk pck] 25)
        exact ⟨⟨⟨pk, pnm, pAn, pnn, pcn, pAk, pnk, pck⟩, rfl, H4.out.2.2.keep hs4 (fun _ _ hx => .inr hx) (fun _ _ hx => .inl hx)⟩, (H.out.2.2.2.1.trans H4.out.1 (fun _ _ x => x)).weak hs4 (fun g hg => by omega)⟩
end Go.Proofs.YtbanpohholnkaaaDoor
