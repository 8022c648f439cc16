/-
  Walks: graduslaw08.weight, few; inst.normal. Conditions: none for few; the table strings.asciiSpace for normal.
-/
import Derived.Test.YtbanpohholnkaaaDoorWHeight
import Derived.Test.YtbanpohholnkaaaDoorWSub
namespace Go.Proofs.YtbanpohholnkaaaDoor
open Go.RowKit

theorem weight8_any {X : Nat → Prop} (t : Ty) : ∀ (w : World) (r : Tv) (m : Nat), 1 ≤ m → m ≤ 100000 → TyV w X r t →
    Calls Tryd.prog 38 #[r.val, .int .i64 m] w fun e w' => ∃ z : Nat, e = .returned (.int .i64 z) ∧ z ≤ m ∧ (z ≠ 0 → t.kids.length ≤ m ∧ t.names.length ≤ 1000) ∧ Keep (fun _ => False) w w' := by
  induction t using Ty.ind with
  | h t ih =>
    intro w r m hm1 hm h
    have hnk : r.nk = t.kids.length := by obtain ⟨_, _, _, _, rs, h5, _⟩ := h.out; exact h5
    have hkb : t.kids.length ≤ 140737488355328 := by rw [← hnk]; exact h.out.1.2.2
    have hnn : r.nn = t.names.length := h.out.2.2.1
    have HH := Lib.hid (And.intro h ih)
    obtain ⟨k, nm, An, nn, cn, Ak, nk, ck⟩ := r
    simp only at hnk hnn
    subst hnk
    subst hnn
    unfold Tv.val
    simp only
    clear h ih
    by_cases h1 : m < t.kids.length
    · have d1 : decide ((m : Int) < (t.kids.length : Int)) = true := by simp; omega
      have d1' : decide (m < t.kids.length) = true := by simp; omega
      go_enter Tryd.func38, Tryd.ntmps38
      go_wp2
      go_ret
      exact ⟨0, rfl, Nat.zero_le _, fun h => absurd rfl h, (Keep.refl _ w).alloc _⟩
    · have d1 : decide ((m : Int) < (t.kids.length : Int)) = false := by simp; omega
      have d1' : decide (m < t.kids.length) = false := by simp; omega
      by_cases h2 : 1000 < t.names.length
      · have d2 : decide (1000 < (t.names.length : Int)) = true := by simp; omega
        have d2' : decide (1000 < t.names.length) = true := by simp; omega
        go_enter Tryd.func38, Tryd.ntmps38
        go_wp2
        go_ret
        exact ⟨0, rfl, Nat.zero_le _, fun h => absurd rfl h, (Keep.refl _ w).alloc _⟩
      · have d2 : decide (1000 < (t.names.length : Int)) = false := by simp; omega
        have d2' : decide (1000 < t.names.length) = false := by simp; omega
        obtain ⟨M, rfl⟩ : ∃ M, m = M + 1 := ⟨m - 1, by omega⟩
        have a0 : At (w.alloc (.cells #[.int .i64 k, .string nm, .slice An t.names.length cn, .slice Ak t.kids.length ck] 25)) w.heap.size 25 #[.int .i64 k, .string nm, .slice An t.names.length cn, .slice Ak t.kids.length ck] := At.new _ _ _
        have hk0 : Keep (fun _ => False) w (w.alloc (.cells #[.int .i64 k, .string nm, .slice An t.names.length cn, .slice Ak t.kids.length ck] 25)) := (Keep.refl _ w).alloc _
        go_enter Tryd.func38, Tryd.ntmps38
        go_wp2
        have HH' := Lib.hid (And.intro (HH.out.1.step hk0) HH.out.2)
        clear HH
        generalize (w.alloc (.cells #[.int .i64 k, .string nm, .slice An t.names.length cn, .slice Ak t.kids.length ck] 25)) = w1 at *
        generalize w.heap.size = bx at *
        have h0 : Hid (SmA w1 t.kids M t.kids.length (.int .i64 M) (.int .i64 0) w1) := ⟨0, M, rfl, rfl, Nat.zero_le _, rfl, Nat.le_refl _, Keep.refl _ _⟩
        have H0 := Lib.hid (And.intro a0 hk0)
        clear a0 hk0
        go_loopg [1, 5] t.kids.length (SmA w1 t.kids M)
        case atStart => exact h0.out
        case round =>
          clear h0
          obtain ⟨i, m, rfl, rfl, hi, rfl, hmM, hk⟩ := hrel
          have x3 := (hk.at_ H0.out.1 (fun x => x)).cell 3
          have hbx := (hk.at_ H0.out.1 (fun x => x)).lt
          simp only [List.getElem?_toArray, List.getElem?_cons_succ, List.getElem?_cons_zero] at x3
          by_cases hlt : i < t.kids.length
          · have e1 : decide ((i : Int) < (t.kids.length : Int)) = true := by simp; omega
            have e1' : decide (i < t.kids.length) = true := by simp; omega
            by_cases hm0 : 0 < m
            · have e2 : decide (0 < (m : Int)) = true := by simp; omega
              have e2' : decide (0 < m) = true := by simp; omega
              obtain ⟨kd, q, b, o, hkd, hq, rfl, hb, _, c0, c1, c2, c3⟩ := (HH'.out.1.step hk).kid (i := i) hlt
              have hc := HH'.out.2 kd (Ty.kid_lt (List.mem_of_getElem? hkd)) wr q m hm0 (by omega) hq
              unfold Tv.val at hc
              have HK := Lib.hid hk
              clear hk hq hkd
              go_wp2_with (go_at_call 38; refine hc.mono ?_; rintro e w' ⟨z, rfl, hz, _, hk⟩; have HK2 := Lib.hid hk; clear hk hc)
              go_roundg (t.kids.length - (i + 1))
              case measure => omega
              case rel => exact ⟨i + 1, z, rfl, by go_num, by omega, rfl, by omega, HK.out.trans HK2.out (fun _ _ x => x)⟩
            · have e2 : decide (0 < (m : Int)) = false := by simp; omega
              have e2' : decide (0 < m) = false := by simp; omega
              have HK := Lib.hid hk
              clear hk
              go_wp2_with fail
              go_ret
              exact ⟨m, rfl, by omega, fun _ => by omega, H0.out.2.trans HK.out (fun _ _ x => x)⟩
          · have e1 : decide ((i : Int) < (t.kids.length : Int)) = false := by simp; omega
            have e1' : decide (i < t.kids.length) = false := by simp; omega
            have HK := Lib.hid hk
            clear hk
            go_wp2_with fail
            go_ret
            exact ⟨m, rfl, by omega, fun _ => by omega, H0.out.2.trans HK.out (fun _ _ x => x)⟩
def FeA (w : World) (n : Nat) (k : Nat) (a b : Value) (wr : World) : Prop :=
  ∃ i m : Nat, a = .int .i64 m ∧ b = .int .i64 i ∧ i ≤ n ∧ k = n - i ∧ m ≤ 500 ∧ Keep (fun _ => False) w wr
set_option maxRecDepth 100000 in
set_option maxHeartbeats 2000000 in
theorem few_any {w : World} {X : Nat → Prop} {A : Option Addr} {n c : Nat} {l : List Ty} {rs : List Tv} (hb : n ≤ 1152921504606846976) (h : Rd w X 4 (.slice A n c) n (tflat rs)) (hv : TysV w X rs l) :
    Calls Tryd.prog 22 #[.slice A n c] w fun e w' => (∃ z : Bool, e = .returned (.bool z)) ∧ Keep (fun _ => False) w w' := by
  have hl := hv.len
  have hn := h.nlen
  have HH := Lib.hid (And.intro h (And.intro hv (And.intro hl hn)))
  have h0 : Hid (FeA w n n (.int .i64 500) (.int .i64 0) w) := ⟨0, 500, rfl, rfl, Nat.zero_le _, rfl, Nat.le_refl _, Keep.refl _ _⟩
  clear h hv hl hn
  go_enter Tryd.func22, Tryd.ntmps22
  go_wp2
  go_loopg [3, 4] n (FeA w n)
  case atStart => exact h0.out
  case round =>
    clear h0
    obtain ⟨i, m, rfl, rfl, hi, rfl, hm, hk⟩ := hrel
    by_cases hlt : i < n
    · by_cases hm0 : 0 < m
      · obtain ⟨s, hs⟩ : ∃ s, l[i]? = some s := ⟨_, List.getElem?_eq_getElem (by have := HH.out.2.2; omega)⟩
        obtain ⟨⟨qk, qnm, qAn, qnn, qcn, qAk, qnk, qck⟩, hq, hqv⟩ := (HH.out.2.1.step hk).at_ hs
        obtain ⟨b, o, rfl, hbz, _, c0, c1, c2, c3⟩ := (HH.out.1.keep hk (fun _ x => x.elim)).tcells hlt hq
        simp only at c0 c1 c2 c3
        have hc := weight8_any s wr ⟨qk, qnm, qAn, qnn, qcn, qAk, qnk, qck⟩ m hm0 (by omega) hqv
        unfold Tv.val at hc
        simp only at hc
        have HK := Lib.hid hk
        have d1 : decide ((i : Int) < (n : Int)) = true := by simp; omega
        have d2 : decide (0 < (m : Int)) = true := by simp; omega
        have i0 : (0 : Int) ≤ (i : Int) := by omega
        have i1 : (i : Int) < (n : Int) := by omega
        clear hk hs hq hqv
        go_wp2_with (go_at_call 38; refine hc.mono ?_; rintro e w' ⟨z, rfl, hz, _, hk⟩; have HK2 := Lib.hid hk; clear hk hc)
        go_roundg (n - (i + 1))
        case measure => omega
        case rel => exact ⟨i + 1, z, rfl, by go_num, by omega, rfl, by omega, HK.out.trans HK2.out (fun _ _ x => x)⟩
      · have d1 : decide ((i : Int) < (n : Int)) = true := by simp; omega
        have d2 : decide (0 < (m : Int)) = false := by simp; omega
        have HK := Lib.hid hk
        clear hk
        go_wp2_with fail
        all_goals go_ret
        all_goals exact ⟨by first | exact ⟨_, rfl⟩ | exact .inl rfl | exact .inr rfl, HK.out⟩
    · have d1 : decide ((i : Int) < (n : Int)) = false := by simp; omega
      have HK := Lib.hid hk
      clear hk
      by_cases hm0 : 0 < m
      · have d2 : decide (0 < (m : Int)) = true := by simp; omega
        go_wp2_with fail
        all_goals go_ret
        all_goals exact ⟨by first | exact ⟨_, rfl⟩ | exact .inl rfl | exact .inr rfl, HK.out⟩
      · have d2 : decide (0 < (m : Int)) = false := by simp; omega
        go_wp2_with fail
        all_goals go_ret
        all_goals exact ⟨by first | exact ⟨_, rfl⟩ | exact .inl rfl | exact .inr rfl, HK.out⟩
set_option maxRecDepth 100000 in
set_option maxHeartbeats 2000000 in
theorem normal8_any {w : World} {r : Tv} {t : Ty} (hT : Tab w) (h : TyV w nX r t) :
    Calls Tryd.prog 51 #[r.val] w fun e w' => e = .returned (.bool (normB t)) ∧ Keep (fun _ => False) w w' := by
  obtain ⟨k, nm, An, nn, cn, Ak, nk, ck⟩ := r
  have kal : Keep (fun _ => False) w (w.alloc (.cells #[.int .i64 k, .string nm, .slice An nn cn, .slice Ak nk ck] 25)) := (Keep.refl _ w).alloc _
  have hc := rsub_any (hT.step kal) (h.step kal) (h.step kal)
  rw [subT_refl] at hc
  unfold Tv.val at hc ⊢
  simp only at hc ⊢
  have HK := Lib.hid kal
  clear h kal hT
  go_enter Tryd.func51, Tryd.ntmps51
  go_wp2_with (go_at_call 16; refine hc.mono ?_; rintro e w' ⟨rfl, hk⟩; have HK2 := Lib.hid hk; clear hk hc)
  go_ret
  exact ⟨rfl, HK.out.trans HK2.out (fun _ _ x => x)⟩
end Go.Proofs.YtbanpohholnkaaaDoor
