/-
  Walk: graduslaw06.awake. Conditions: the table strings.asciiSpace lies as the program lays it.
-/
import Derived.Test.YtbanpohholnkaaaDoorWHeight
import Derived.Test.YtbanpohholnkaaaDoorRelQ
import Derived.Test.YtbanpohholnkaaaDoorWords
import Derived.Test.YtbanpohholnkaaaDoorWSub
import Derived.Test.YtbanpohholnkaaaDoorLitsR
namespace Go.Proofs.YtbanpohholnkaaaDoor
open Go.RowKit

set_option maxRecDepth 100000 in
set_option maxHeartbeats 2000000 in
theorem smallB_any {w : World} {r : Tv} {t : Ty} (h : TyV w nX r t) :
    Calls Tryd.prog 13 #[r.val] w fun e w' => ∃ z : Bool, e = .returned (.bool z) ∧ Keep (fun _ => False) w w' := by
  obtain ⟨k, nm, An, nn, cn, Ak, nk, ck⟩ := r
  have kal : Keep (fun _ => False) w (w.alloc (.cells #[.int .i64 k, .string nm, .slice An nn cn, .slice Ak nk ck] 25)) := (Keep.refl _ w).alloc _
  have hc := small_any t _ ⟨k, nm, An, nn, cn, Ak, nk, ck⟩ 300 (by decide) (by decide) (h.step kal)
  unfold Tv.val at hc ⊢
  simp only at hc ⊢
  have HK := Lib.hid kal
  clear h kal
  go_enter Tryd.func13, Tryd.ntmps13
  go_wp2_with (go_at_call 32; refine hc.mono ?_; rintro e w' ⟨z, rfl, _, _, hk⟩; have HK2 := Lib.hid hk; clear hk hc)
  go_ret
  exact ⟨_, rfl, HK.out.trans HK2.out (fun _ _ x => x)⟩
def StA (w : World) (l : List Ty) (n : Nat) (k : Nat) (v : Value) (wr : World) : Prop :=
  ∃ i : Nat, v = .int .i64 i ∧ i ≤ n ∧ k = n - i ∧ (∀ x ∈ l.take i, statT x = true) ∧ Keep (fun _ => False) w wr
theorem stat_bad {t x : Ty} (hx : x ∈ t.kids) (h : statT x = false) : statT t = false := by
  cases hc : statT t with
  | false => rfl
  | true =>
    rw [(statT_iff.1 hc).2 x hx] at h
    cases h
theorem stat_zero {t : Ty} (h : t.kind = 0) : statT t = false := by
  cases hc : statT t with
  | false => rfl
  | true => exact absurd h (statT_iff.1 hc).1
set_option maxRecDepth 100000 in
set_option maxHeartbeats 4000000 in
theorem stat_any (t : Ty) : ∀ (w : World) (r : Tv), TyV w nX r t →
    Calls Tryd.prog 14 #[r.val] w fun e w' => e = .returned (.bool (statT t)) ∧ Keep (fun _ => False) w w' := by
  induction t using Ty.ind with
  | h t ih =>
    intro w r h
    have hnk : r.nk = t.kids.length := by obtain ⟨_, _, _, _, rs, h5, _⟩ := h.out; exact h5
    have hkb : t.kids.length ≤ 140737488355328 := by rw [← hnk]; exact h.out.1.2.2
    have hkk := h.knd
    have HH := Lib.hid (And.intro h ih)
    obtain ⟨k, nm, An, nn, cn, Ak, nk, ck⟩ := r
    simp only at hnk hkk
    subst hnk
    unfold Tv.val
    simp only
    clear h ih
    by_cases hk0 : k = 0
    · have hz := stat_zero (t := t) (by rw [← hkk]; exact hk0)
      rw [hz]
      have d0 : (k == 0) = true := by rw [beq_iff_eq]; exact hk0
      clear hz hk0 hkk
      go_enter Tryd.func14, Tryd.ntmps14
      go_wp2
      go_ret
      exact ⟨rfl, (Keep.refl _ w).alloc _⟩
    · have d0 : (k == 0) = false := by rw [beq_eq_false_iff_ne]; exact hk0
      have HK0 := Lib.hid (show t.kind ≠ 0 by rw [← hkk]; exact hk0)
      clear hk0 hkk
      have a0 : At (w.alloc (.cells #[.int .i64 k, .string nm, .slice An nn cn, .slice Ak t.kids.length ck] 25)) w.heap.size 25 #[.int .i64 k, .string nm, .slice An nn cn, .slice Ak t.kids.length ck] := At.new _ _ _
      have hk0 : Keep (fun _ => False) w (w.alloc (.cells #[.int .i64 k, .string nm, .slice An nn cn, .slice Ak t.kids.length ck] 25)) := (Keep.refl _ w).alloc _
      go_enter Tryd.func14, Tryd.ntmps14
      go_wp2
      have HH' := Lib.hid (And.intro (HH.out.1.step hk0) HH.out.2)
      clear HH
      generalize (w.alloc (.cells #[.int .i64 k, .string nm, .slice An nn cn, .slice Ak t.kids.length ck] 25)) = w1 at *
      generalize w.heap.size = bx at *
      have h0 : Hid (StA w1 t.kids t.kids.length t.kids.length (.int .i64 0) w1) := ⟨0, rfl, Nat.zero_le _, rfl, by simp, Keep.refl _ _⟩
      have H0 := Lib.hid (And.intro a0 hk0)
      clear a0 hk0
      go_loopg [3] t.kids.length (StA w1 t.kids t.kids.length)
      case atStart => exact h0.out
      case round =>
        clear h0
        obtain ⟨i, rfl, hi, rfl, hall, hk⟩ := hrel
        have x3 := (hk.at_ H0.out.1 (fun x => x)).cell 3
        have hbx := (hk.at_ H0.out.1 (fun x => x)).lt
        simp only [List.getElem?_toArray, List.getElem?_cons_succ, List.getElem?_cons_zero] at x3
        by_cases hlt : i < t.kids.length
        · have e1 : decide ((i : Int) < (t.kids.length : Int)) = true := by simp; omega
          have e1' : decide (i < t.kids.length) = true := by simp; omega
          obtain ⟨kd, q, b, o, hkd, hq, rfl, hb, _, c0, c1, c2, c3⟩ := (HH'.out.1.step hk).kid (i := i) hlt
          have hc := HH'.out.2 kd (Ty.kid_lt (List.mem_of_getElem? hkd)) wr q hq
          unfold Tv.val at hc
          have HK := Lib.hid (And.intro hk (And.intro hall hkd))
          clear hk hq hkd hall
          cases hv : statT kd with
          | false =>
            rw [hv] at hc
            have HV := Lib.hid hv
            clear hv
            go_wp2_with (go_at_call 14; refine hc.mono ?_; rintro e w' ⟨rfl, hk⟩; have HK2 := Lib.hid hk; clear hk hc)
            go_ret
            exact ⟨ret_bool (stat_bad (List.mem_of_getElem? HK.out.2.2) HV.out).symm, (H0.out.2.trans HK.out.1 (fun _ _ x => x)).trans HK2.out (fun _ _ x => x)⟩
          | true =>
            rw [hv] at hc
            have HV := Lib.hid hv
            clear hv
            go_wp2_with (go_at_call 14; refine hc.mono ?_; rintro e w' ⟨rfl, hk⟩; have HK2 := Lib.hid hk; clear hk hc)
            go_roundg (t.kids.length - (i + 1))
            case measure => omega
            case rel =>
              obtain ⟨hk, hall, hkd⟩ := HK.out
              refine ⟨i + 1, by go_num, by omega, rfl, fun y hy => ?_, hk.trans HK2.out (fun _ _ x => x)⟩
              rw [List.take_add_one, hkd] at hy
              rcases List.mem_append.1 hy with hy | hy
              · exact hall y hy
              · have : y = kd := by simpa using hy
                rw [this]
                exact HV.out
        · have e1 : decide ((i : Int) < (t.kids.length : Int)) = false := by simp; omega
          have e1' : decide (i < t.kids.length) = false := by simp; omega
          have hst : statT t = true := statT_iff.2 ⟨HK0.out, fun y hy => hall y (by rw [List.take_of_length_le (by omega)]; exact hy)⟩
          have HK := Lib.hid (And.intro hk hst)
          clear hk hall hst
          go_wp2_with fail
          go_ret
          exact ⟨ret_bool HK.out.2.symm, H0.out.2.trans HK.out.1 (fun _ _ x => x)⟩
theorem ret_cell1 {fn : Func} {a : Tmp} (h : fn.results = #[.cell a 25]) {tmps : Array Value} {w : World} {b : Nat} {v0 v1 v2 v3 : Value} (ha : tmps.getD a undef = .pointer (some ⟨b, 0, none⟩)) (hb : At w b 25 #[v0, v1, v2, v3]) :
    (results fn tmps).run Tryd.prog w = .ok (.agg #[v0, v1, v2, v3]) w := by
  have h0 : w.cell? ⟨b, 0, none⟩ = some v0 := hb.cell 0
  have h1 : w.cell? ⟨b, 1, none⟩ = some v1 := hb.cell 1
  have h2 : w.cell? ⟨b, 2, none⟩ = some v2 := hb.cell 2
  have h3 : w.cell? ⟨b, 3, none⟩ = some v3 := hb.cell 3
  have hl := hb.lt
  have ia := Tryd.isAgg25 w
  simp only [Array.getD_eq_getD_getElem?] at ha
  simp [results, h, ha, go_sem, ia, h0, h1, h2, h3]
set_option maxRecDepth 100000 in
set_option maxHeartbeats 2000000 in
theorem fun_any {w : World} {r r' : Tv} {a b : Ty} (h : TyV w nX r a) (h' : TyV w nX r' b) :
    Calls Tryd.prog 20 #[r.val, r'.val] w fun e w' => (∃ q : Tv, e = .returned q.val ∧ TyV w' nX q (funOf a b)) ∧ Keep (fun _ => False) w w' := by
  obtain ⟨k, nm, An, nn, cn, Ak, nk, ck⟩ := r
  obtain ⟨k', nm', An', nn', cn', Ak', nk', ck'⟩ := r'
  have H := Lib.hid (And.intro h h')
  clear h h'
  unfold Tv.val
  simp only
  go_enter Tryd.func20, Tryd.ntmps20
  go_wp2
  (try simp only [Exit.inBlock, Exit.then])
  refine bodyPost_ret (ret_cell1 rfl rfl (by repeat (first | exact At.new_at (by simp) | exact At.new _ _ _ | refine At.alloc ?_ _))) rfl ?_
  refine ⟨⟨⟨6, ⟨#[]⟩, none, 0, 0, some ⟨w.heap.size + 1 + 1 + 1, 0, none⟩, 2, 2⟩, rfl, ?_⟩, ?_⟩
  · have kk : Keep (fun _ => False) w ((((w.alloc (.cells #[.int .i64 k, .string nm, .slice An nn cn, .slice Ak nk ck] 25)).alloc (.cells #[.int .i64 k', .string nm', .slice An' nn' cn', .slice Ak' nk' ck'] 25)).alloc (.cells #[.int .i64 6, .string ⟨#[]⟩, .slice none 0 0, .slice (some ⟨w.heap.size + 1 + 1 + 1, 0, none⟩) 2 2] 25)).alloc (.cells #[.int .i64 k, .string nm, .slice An nn cn, .slice Ak nk ck, .int .i64 k', .string nm', .slice An' nn' cn', .slice Ak' nk' ck'] 25)) := ((((Keep.refl _ w).alloc _).alloc _).alloc _).alloc _
    exact tv_two (q1 := ⟨k, nm, An, nn, cn, Ak, nk, ck⟩) (q2 := ⟨k', nm', An', nn', cn', Ak', nk', ck'⟩) 6 (At.new_at (by simp)) (fun x => x) (H.out.1.step kk) (H.out.2.step kk)
  · exact ((((Keep.refl _ w).alloc _).alloc _).alloc _).alloc _
end Go.Proofs.YtbanpohholnkaaaDoor

namespace Go.Proofs.YtbanpohholnkaaaDoor
open Go.RowKit

set_option maxRecDepth 100000 in
set_option maxHeartbeats 8000000 in
theorem rawake_any {w : World} (hT : Tab w) :
    Calls Tryd.prog 12 #[] w fun e w' => e = .returned (.bool true) ∧ Keep (fun _ => False) w w' := by
  have H := Lib.hid hT
  clear hT
  go_enter Tryd.func12, Tryd.ntmps12
  go_upto_region 6 with fail
  refine gen_world ?_
  intro W hW
  have kW : Keep (fun _ => False) w W := by rw [hW]; repeat (first | exact Keep.refl _ w | refine Keep.alloc ?_ _)
  obtain ⟨b, hb⟩ : ∃ b, b = w.heap.size := ⟨_, rfl⟩
  rw [← hb]
  have a0 : At W (b) 25 #[.int .i64 3, .string ⟨#[]⟩, .slice none 0 0, .slice none 0 0] := by rw [hW, hb]; exact ((((((((At.new_at (by simp)).alloc _).alloc _).alloc _).alloc _).alloc _).alloc _).alloc _).alloc _
  have a2 : At W (b + 1 + 1) 25 #[.int .i64 0, .string ⟨#[]⟩, .slice none 0 0, .slice none 0 0] := by rw [hW, hb]; exact ((((((At.new_at (by simp)).alloc _).alloc _).alloc _).alloc _).alloc _).alloc _
  have a3 : At W (b + 1 + 1 + 1) 9 #[.string ⟨#[97]⟩, .string ⟨#[98]⟩] := by rw [hW, hb]; exact (((((At.new_at (by simp)).alloc _).alloc _).alloc _).alloc _).alloc _
  have a4 : At W (b + 1 + 1 + 1 + 1) 25 #[.int .i64 3, .string ⟨#[]⟩, .slice none 0 0, .slice none 0 0, .int .i64 4, .string ⟨#[]⟩, .slice none 0 0, .slice none 0 0] := by rw [hW, hb]; exact ((((At.new_at (by simp)).alloc _).alloc _).alloc _).alloc _
  have a5 : At W (b + 1 + 1 + 1 + 1 + 1) 25 #[.int .i64 5, .string ⟨#[]⟩, .slice (some ⟨b + 1 + 1 + 1, 0, none⟩) 2 2, .slice (some ⟨b + 1 + 1 + 1 + 1, 0, none⟩) 2 2] := by rw [hW, hb]; exact (((At.new_at (by simp)).alloc _).alloc _).alloc _
  have a6 : At W (b + 1 + 1 + 1 + 1 + 1 + 1) 9 #[.string ⟨#[97]⟩] := by rw [hW, hb]; exact ((At.new_at (by simp)).alloc _).alloc _
  have a7 : At W (b + 1 + 1 + 1 + 1 + 1 + 1 + 1) 25 #[.int .i64 3, .string ⟨#[]⟩, .slice none 0 0, .slice none 0 0] := by rw [hW, hb]; exact (At.new_at (by simp)).alloc _
  have a8 : At W (b + 1 + 1 + 1 + 1 + 1 + 1 + 1 + 1) 25 #[.int .i64 5, .string ⟨#[]⟩, .slice (some ⟨b + 1 + 1 + 1 + 1 + 1 + 1, 0, none⟩) 1 1, .slice (some ⟨b + 1 + 1 + 1 + 1 + 1 + 1 + 1, 0, none⟩) 1 1] := by rw [hW, hb]; exact At.new_at (by simp)
  have hTW : Tab W := H.out.step kW
  clear hW hb
  generalize b + 1 + 1 + 1 + 1 + 1 + 1 + 1 + 1 = p8 at *
  generalize b + 1 + 1 + 1 + 1 + 1 + 1 + 1 = p7 at *
  generalize b + 1 + 1 + 1 + 1 + 1 + 1 = p6 at *
  generalize b + 1 + 1 + 1 + 1 + 1 = p5 at *
  generalize b + 1 + 1 + 1 + 1 = p4 at *
  generalize b + 1 + 1 + 1 = p3 at *
  generalize b + 1 + 1 = p2 at *
  generalize b + 1 = p1 at *
  have vi : TyV W nX ⟨3, ⟨#[]⟩, none, 0, 0, none, 0, 0⟩ eI := tv_base 3
  have vd : TyV W nX ⟨0, ⟨#[]⟩, none, 0, 0, none, 0, 0⟩ ty0 := tv_base 0
  have vr : TyV W nX ⟨5, ⟨#[]⟩, some ⟨p3, 0, none⟩, 2, 2, some ⟨p4, 0, none⟩, 2, 2⟩ eP := tv_rec a3 (fun x => x) a4 (fun x => x) (tv_base 3) (tv_base 4)
  have vq : TyV W nX ⟨5, ⟨#[]⟩, some ⟨p6, 0, none⟩, 1, 1, some ⟨p7, 0, none⟩, 1, 1⟩ eQ := tv_rec1 a6 (fun x => x) a7 (fun x => x) (tv_base 3)
  have HB := Lib.hid (And.intro kW (And.intro hTW (And.intro vi (And.intro vd (And.intro vr (And.intro vq (And.intro a0 (And.intro a2 (And.intro a5 a8)))))))))
  clear kW hTW vi vd vr vq a0 a2 a3 a4 a5 a6 a7 a8
  have HC : Hid (∀ w', Keep (fun _ => False) W w' → (b < w'.heap.size ∧ w'.cell? ⟨b, 0, none⟩ = some (.int .i64 3) ∧ w'.cell? ⟨b, 1, none⟩ = some (.string ⟨#[]⟩) ∧ w'.cell? ⟨b, 2, none⟩ = some (.slice none 0 0) ∧ w'.cell? ⟨b, 3, none⟩ = some (.slice none 0 0)) ∧ (p2 < w'.heap.size ∧ w'.cell? ⟨p2, 0, none⟩ = some (.int .i64 0) ∧ w'.cell? ⟨p2, 1, none⟩ = some (.string ⟨#[]⟩) ∧ w'.cell? ⟨p2, 2, none⟩ = some (.slice none 0 0) ∧ w'.cell? ⟨p2, 3, none⟩ = some (.slice none 0 0)) ∧ (p5 < w'.heap.size ∧ w'.cell? ⟨p5, 0, none⟩ = some (.int .i64 5) ∧ w'.cell? ⟨p5, 1, none⟩ = some (.string ⟨#[]⟩) ∧ w'.cell? ⟨p5, 2, none⟩ = some (.slice (some ⟨p3, 0, none⟩) 2 2) ∧ w'.cell? ⟨p5, 3, none⟩ = some (.slice (some ⟨p4, 0, none⟩) 2 2)) ∧ (p8 < w'.heap.size ∧ w'.cell? ⟨p8, 0, none⟩ = some (.int .i64 5) ∧ w'.cell? ⟨p8, 1, none⟩ = some (.string ⟨#[]⟩) ∧ w'.cell? ⟨p8, 2, none⟩ = some (.slice (some ⟨p6, 0, none⟩) 1 1) ∧ w'.cell? ⟨p8, 3, none⟩ = some (.slice (some ⟨p7, 0, none⟩) 1 1))) := fun w' hk => ⟨(hk.at_ HB.out.2.2.2.2.2.2.1 (fun x => x)).tcells, (hk.at_ HB.out.2.2.2.2.2.2.2.1 (fun x => x)).tcells, (hk.at_ HB.out.2.2.2.2.2.2.2.2.1 (fun x => x)).tcells, (hk.at_ HB.out.2.2.2.2.2.2.2.2.2 (fun x => x)).tcells⟩
  have KC : Hid (Keep (fun _ => False) W W) := Keep.refl _ _
  obtain ⟨⟨xil, xi0, xi1, xi2, xi3⟩, ⟨xdl, xd0, xd1, xd2, xd3⟩, ⟨xrl, xr0, xr1, xr2, xr3⟩, ⟨xql, xq0, xq1, xq2, xq3⟩⟩ := HC.out W KC.out
  have HA1 : Hid (∀ w', Keep (fun _ => False) W w' → Calls Tryd.prog 16 #[.agg #[.int .i64 5, .string ⟨#[]⟩, .slice (some ⟨p3, 0, none⟩) 2 2, .slice (some ⟨p4, 0, none⟩) 2 2], .agg #[.int .i64 5, .string ⟨#[]⟩, .slice (some ⟨p6, 0, none⟩) 1 1, .slice (some ⟨p7, 0, none⟩) 1 1]] w' fun e w'' => e = .returned (.bool true) ∧ Keep (fun _ => False) w' w'') := fun w' hk => by
    have := rsub_any (r := ⟨5, ⟨#[]⟩, some ⟨p3, 0, none⟩, 2, 2, some ⟨p4, 0, none⟩, 2, 2⟩) (r' := ⟨5, ⟨#[]⟩, some ⟨p6, 0, none⟩, 1, 1, some ⟨p7, 0, none⟩, 1, 1⟩) (HB.out.2.1.step hk) (HB.out.2.2.2.2.1.step hk) (HB.out.2.2.2.2.2.1.step hk)
    rw [aw_a1] at this
    exact this
  have HA2 : Hid (∀ w', Keep (fun _ => False) W w' → Calls Tryd.prog 15 #[.agg #[.int .i64 5, .string ⟨#[]⟩, .slice (some ⟨p3, 0, none⟩) 2 2, .slice (some ⟨p4, 0, none⟩) 2 2], .agg #[.int .i64 5, .string ⟨#[]⟩, .slice (some ⟨p6, 0, none⟩) 1 1, .slice (some ⟨p7, 0, none⟩) 1 1]] w' fun e w'' => e = .returned (.bool true) ∧ Keep (fun _ => False) w' w'') := fun w' hk => by
    have := rfits_any (r := ⟨5, ⟨#[]⟩, some ⟨p3, 0, none⟩, 2, 2, some ⟨p4, 0, none⟩, 2, 2⟩) (r' := ⟨5, ⟨#[]⟩, some ⟨p6, 0, none⟩, 1, 1, some ⟨p7, 0, none⟩, 1, 1⟩) (HB.out.2.1.step hk) (HB.out.2.2.2.2.1.step hk) (HB.out.2.2.2.2.2.1.step hk)
    rw [aw_a2] at this
    exact this
  have HA3 : Hid (∀ w', Keep (fun _ => False) W w' → Calls Tryd.prog 19 #[.agg #[.int .i64 5, .string ⟨#[]⟩, .slice (some ⟨p3, 0, none⟩) 2 2, .slice (some ⟨p4, 0, none⟩) 2 2], .agg #[.int .i64 5, .string ⟨#[]⟩, .slice (some ⟨p6, 0, none⟩) 1 1, .slice (some ⟨p7, 0, none⟩) 1 1]] w' fun e w'' => e = .returned (.bool false) ∧ Keep (fun _ => False) w' w'') := fun w' hk => by
    have := rnaive_any (r := ⟨5, ⟨#[]⟩, some ⟨p3, 0, none⟩, 2, 2, some ⟨p4, 0, none⟩, 2, 2⟩) (r' := ⟨5, ⟨#[]⟩, some ⟨p6, 0, none⟩, 1, 1, some ⟨p7, 0, none⟩, 1, 1⟩) (HB.out.2.1.step hk) (HB.out.2.2.2.2.1.step hk) (HB.out.2.2.2.2.2.1.step hk)
    rw [aw_a3] at this
    exact this
  have HA4 : Hid (∀ w', Keep (fun _ => False) W w' → Calls Tryd.prog 17 #[.agg #[.int .i64 5, .string ⟨#[]⟩, .slice (some ⟨p3, 0, none⟩) 2 2, .slice (some ⟨p4, 0, none⟩) 2 2], .agg #[.int .i64 5, .string ⟨#[]⟩, .slice (some ⟨p6, 0, none⟩) 1 1, .slice (some ⟨p7, 0, none⟩) 1 1]] w' fun e w'' => e = .returned (.bool true) ∧ Keep (fun _ => False) w' w'') := fun w' hk => by
    have := rpos_any (r := ⟨5, ⟨#[]⟩, some ⟨p3, 0, none⟩, 2, 2, some ⟨p4, 0, none⟩, 2, 2⟩) (r' := ⟨5, ⟨#[]⟩, some ⟨p6, 0, none⟩, 1, 1, some ⟨p7, 0, none⟩, 1, 1⟩) (HB.out.2.1.step hk) (HB.out.2.2.2.2.1.step hk) (HB.out.2.2.2.2.2.1.step hk)
    rw [aw_a4] at this
    exact this
  have HB1 : Hid (∀ w', Keep (fun _ => False) W w' → Calls Tryd.prog 15 #[.agg #[.int .i64 0, .string ⟨#[]⟩, .slice none 0 0, .slice none 0 0], .agg #[.int .i64 3, .string ⟨#[]⟩, .slice none 0 0, .slice none 0 0]] w' fun e w'' => e = .returned (.bool true) ∧ Keep (fun _ => False) w' w'') := fun w' hk => by
    have := rfits_any (r := ⟨0, ⟨#[]⟩, none, 0, 0, none, 0, 0⟩) (r' := ⟨3, ⟨#[]⟩, none, 0, 0, none, 0, 0⟩) (HB.out.2.1.step hk) (HB.out.2.2.2.1.step hk) (HB.out.2.2.1.step hk)
    rw [aw_b1] at this
    exact this
  have HB2 : Hid (∀ w', Keep (fun _ => False) W w' → Calls Tryd.prog 18 #[.agg #[.int .i64 0, .string ⟨#[]⟩, .slice none 0 0, .slice none 0 0], .agg #[.int .i64 3, .string ⟨#[]⟩, .slice none 0 0, .slice none 0 0]] w' fun e w'' => e = .returned (.bool true) ∧ Keep (fun _ => False) w' w'') := fun w' hk => by
    have := rneg_any (r := ⟨0, ⟨#[]⟩, none, 0, 0, none, 0, 0⟩) (r' := ⟨3, ⟨#[]⟩, none, 0, 0, none, 0, 0⟩) (HB.out.2.1.step hk) (HB.out.2.2.2.1.step hk) (HB.out.2.2.1.step hk)
    rw [aw_b2] at this
    exact this
  have HB3 : Hid (∀ w', Keep (fun _ => False) W w' → Calls Tryd.prog 16 #[.agg #[.int .i64 0, .string ⟨#[]⟩, .slice none 0 0, .slice none 0 0], .agg #[.int .i64 3, .string ⟨#[]⟩, .slice none 0 0, .slice none 0 0]] w' fun e w'' => e = .returned (.bool false) ∧ Keep (fun _ => False) w' w'') := fun w' hk => by
    have := rsub_any (r := ⟨0, ⟨#[]⟩, none, 0, 0, none, 0, 0⟩) (r' := ⟨3, ⟨#[]⟩, none, 0, 0, none, 0, 0⟩) (HB.out.2.1.step hk) (HB.out.2.2.2.1.step hk) (HB.out.2.2.1.step hk)
    rw [aw_b3] at this
    exact this
  have HB4 : Hid (∀ w', Keep (fun _ => False) W w' → Calls Tryd.prog 17 #[.agg #[.int .i64 0, .string ⟨#[]⟩, .slice none 0 0, .slice none 0 0], .agg #[.int .i64 3, .string ⟨#[]⟩, .slice none 0 0, .slice none 0 0]] w' fun e w'' => e = .returned (.bool false) ∧ Keep (fun _ => False) w' w'') := fun w' hk => by
    have := rpos_any (r := ⟨0, ⟨#[]⟩, none, 0, 0, none, 0, 0⟩) (r' := ⟨3, ⟨#[]⟩, none, 0, 0, none, 0, 0⟩) (HB.out.2.1.step hk) (HB.out.2.2.2.1.step hk) (HB.out.2.2.1.step hk)
    rw [aw_b4] at this
    exact this
  go_upto_region 7 with (first
    | (go_at_call 16; (with_reducible refine (HA1.out _ KC.out).mono ?_); rintro e w2 ⟨rfl, hk⟩; have KN := Lib.hid (KC.out.trans hk (fun _ _ x => x)); clear KC hk xil xi0 xi1 xi2 xi3 xdl xd0 xd1 xd2 xd3 xrl xr0 xr1 xr2 xr3 xql xq0 xq1 xq2 xq3; have KC := KN; clear KN; obtain ⟨⟨xil, xi0, xi1, xi2, xi3⟩, ⟨xdl, xd0, xd1, xd2, xd3⟩, ⟨xrl, xr0, xr1, xr2, xr3⟩, ⟨xql, xq0, xq1, xq2, xq3⟩⟩ := HC.out _ KC.out)
    | (go_at_call 15; (with_reducible refine (HA2.out _ KC.out).mono ?_); rintro e w2 ⟨rfl, hk⟩; have KN := Lib.hid (KC.out.trans hk (fun _ _ x => x)); clear KC hk xil xi0 xi1 xi2 xi3 xdl xd0 xd1 xd2 xd3 xrl xr0 xr1 xr2 xr3 xql xq0 xq1 xq2 xq3; have KC := KN; clear KN; obtain ⟨⟨xil, xi0, xi1, xi2, xi3⟩, ⟨xdl, xd0, xd1, xd2, xd3⟩, ⟨xrl, xr0, xr1, xr2, xr3⟩, ⟨xql, xq0, xq1, xq2, xq3⟩⟩ := HC.out _ KC.out)
    | (go_at_call 19; (with_reducible refine (HA3.out _ KC.out).mono ?_); rintro e w2 ⟨rfl, hk⟩; have KN := Lib.hid (KC.out.trans hk (fun _ _ x => x)); clear KC hk xil xi0 xi1 xi2 xi3 xdl xd0 xd1 xd2 xd3 xrl xr0 xr1 xr2 xr3 xql xq0 xq1 xq2 xq3; have KC := KN; clear KN; obtain ⟨⟨xil, xi0, xi1, xi2, xi3⟩, ⟨xdl, xd0, xd1, xd2, xd3⟩, ⟨xrl, xr0, xr1, xr2, xr3⟩, ⟨xql, xq0, xq1, xq2, xq3⟩⟩ := HC.out _ KC.out)
    | (go_at_call 17; (with_reducible refine (HA4.out _ KC.out).mono ?_); rintro e w2 ⟨rfl, hk⟩; have KN := Lib.hid (KC.out.trans hk (fun _ _ x => x)); clear KC hk xil xi0 xi1 xi2 xi3 xdl xd0 xd1 xd2 xd3 xrl xr0 xr1 xr2 xr3 xql xq0 xq1 xq2 xq3; have KC := KN; clear KN; obtain ⟨⟨xil, xi0, xi1, xi2, xi3⟩, ⟨xdl, xd0, xd1, xd2, xd3⟩, ⟨xrl, xr0, xr1, xr2, xr3⟩, ⟨xql, xq0, xq1, xq2, xq3⟩⟩ := HC.out _ KC.out))
  clear HA1 HA2 HA3 HA4
  go_upto_region 8 with (first
    | (go_at_call 15; (with_reducible refine (HB1.out _ KC.out).mono ?_); rintro e w2 ⟨rfl, hk⟩; have KN := Lib.hid (KC.out.trans hk (fun _ _ x => x)); clear KC hk xil xi0 xi1 xi2 xi3 xdl xd0 xd1 xd2 xd3 xrl xr0 xr1 xr2 xr3 xql xq0 xq1 xq2 xq3; have KC := KN; clear KN; obtain ⟨⟨xil, xi0, xi1, xi2, xi3⟩, ⟨xdl, xd0, xd1, xd2, xd3⟩, ⟨xrl, xr0, xr1, xr2, xr3⟩, ⟨xql, xq0, xq1, xq2, xq3⟩⟩ := HC.out _ KC.out)
    | (go_at_call 18; (with_reducible refine (HB2.out _ KC.out).mono ?_); rintro e w2 ⟨rfl, hk⟩; have KN := Lib.hid (KC.out.trans hk (fun _ _ x => x)); clear KC hk xil xi0 xi1 xi2 xi3 xdl xd0 xd1 xd2 xd3 xrl xr0 xr1 xr2 xr3 xql xq0 xq1 xq2 xq3; have KC := KN; clear KN; obtain ⟨⟨xil, xi0, xi1, xi2, xi3⟩, ⟨xdl, xd0, xd1, xd2, xd3⟩, ⟨xrl, xr0, xr1, xr2, xr3⟩, ⟨xql, xq0, xq1, xq2, xq3⟩⟩ := HC.out _ KC.out)
    | (go_at_call 16; (with_reducible refine (HB3.out _ KC.out).mono ?_); rintro e w2 ⟨rfl, hk⟩; have KN := Lib.hid (KC.out.trans hk (fun _ _ x => x)); clear KC hk xil xi0 xi1 xi2 xi3 xdl xd0 xd1 xd2 xd3 xrl xr0 xr1 xr2 xr3 xql xq0 xq1 xq2 xq3; have KC := KN; clear KN; obtain ⟨⟨xil, xi0, xi1, xi2, xi3⟩, ⟨xdl, xd0, xd1, xd2, xd3⟩, ⟨xrl, xr0, xr1, xr2, xr3⟩, ⟨xql, xq0, xq1, xq2, xq3⟩⟩ := HC.out _ KC.out)
    | (go_at_call 17; (with_reducible refine (HB4.out _ KC.out).mono ?_); rintro e w2 ⟨rfl, hk⟩; have KN := Lib.hid (KC.out.trans hk (fun _ _ x => x)); clear KC hk xil xi0 xi1 xi2 xi3 xdl xd0 xd1 xd2 xd3 xrl xr0 xr1 xr2 xr3 xql xq0 xq1 xq2 xq3; have KC := KN; clear KN; obtain ⟨⟨xil, xi0, xi1, xi2, xi3⟩, ⟨xdl, xd0, xd1, xd2, xd3⟩, ⟨xrl, xr0, xr1, xr2, xr3⟩, ⟨xql, xq0, xq1, xq2, xq3⟩⟩ := HC.out _ KC.out))
  clear HB1 HB2 HB3 HB4
  have HFU : Hid (∀ w', Keep (fun _ => False) W w' → Calls Tryd.prog 20 #[.agg #[.int .i64 3, .string ⟨#[]⟩, .slice none 0 0, .slice none 0 0], .agg #[.int .i64 3, .string ⟨#[]⟩, .slice none 0 0, .slice none 0 0]] w' fun e w'' => (∃ q : Tv, e = .returned q.val ∧ TyV w'' nX q eG) ∧ Keep (fun _ => False) w' w'') := fun w' hk => fun_any (r := ⟨3, ⟨#[]⟩, none, 0, 0, none, 0, 0⟩) (r' := ⟨3, ⟨#[]⟩, none, 0, 0, none, 0, 0⟩) (HB.out.2.2.1.step hk) (HB.out.2.2.1.step hk)
  go_upto_region 9 with (go_at_call 20; (with_reducible refine (HFU.out _ KC.out).mono ?_); rintro e w2 ⟨⟨⟨fk, fnm, fAn, fnn, fcn, fAk, fnk, fck⟩, he, hfv⟩, hk⟩; simp only [Tv.val] at he; subst he; have HV := Lib.hid hfv; clear hfv; have KN := Lib.hid (KC.out.trans hk (fun _ _ x => x)); clear KC hk xil xi0 xi1 xi2 xi3 xdl xd0 xd1 xd2 xd3 xrl xr0 xr1 xr2 xr3 xql xq0 xq1 xq2 xq3; have KC := KN; clear KN; obtain ⟨⟨xil, xi0, xi1, xi2, xi3⟩, ⟨xdl, xd0, xd1, xd2, xd3⟩, ⟨xrl, xr0, xr1, xr2, xr3⟩, ⟨xql, xq0, xq1, xq2, xq3⟩⟩ := HC.out _ KC.out)
  refine gen_world ?_
  intro W2 hW2
  have k2 : Keep (fun _ => False) W W2 := by rw [hW2]; exact KC.out.alloc _
  have a8 : At W2 w2.heap.size 25 #[.int .i64 fk, .string fnm, .slice fAn fnn fcn, .slice fAk fnk fck] := by rw [hW2]; exact At.new _ _ _
  have vf := HV.out.step (show Keep (fun _ => False) w2 W2 by rw [hW2]; exact (Keep.refl _ w2).alloc _)
  clear hW2
  generalize w2.heap.size = fx at *
  clear KC xil xi0 xi1 xi2 xi3 xdl xd0 xd1 xd2 xd3 xrl xr0 xr1 xr2 xr3 xql xq0 xq1 xq2 xq3 HV HFU
  have HD := Lib.hid (And.intro k2 (And.intro a8 vf))
  have HC2 : Hid (∀ w', Keep (fun _ => False) W2 w' → (p2 < w'.heap.size ∧ w'.cell? ⟨p2, 0, none⟩ = some (.int .i64 0) ∧ w'.cell? ⟨p2, 1, none⟩ = some (.string ⟨#[]⟩) ∧ w'.cell? ⟨p2, 2, none⟩ = some (.slice none 0 0) ∧ w'.cell? ⟨p2, 3, none⟩ = some (.slice none 0 0)) ∧ (fx < w'.heap.size ∧ w'.cell? ⟨fx, 0, none⟩ = some (.int .i64 fk) ∧ w'.cell? ⟨fx, 1, none⟩ = some (.string fnm) ∧ w'.cell? ⟨fx, 2, none⟩ = some (.slice fAn fnn fcn) ∧ w'.cell? ⟨fx, 3, none⟩ = some (.slice fAk fnk fck))) := fun w' hk => ⟨((k2.trans hk (fun _ _ x => x)).at_ HB.out.2.2.2.2.2.2.2.1 (fun x => x)).tcells, (hk.at_ a8 (fun x => x)).tcells⟩
  clear k2 a8 vf HC
  have KC : Hid (Keep (fun _ => False) W2 W2) := Keep.refl _ _
  obtain ⟨⟨xdl, xd0, xd1, xd2, xd3⟩, ⟨xfl, xf0, xf1, xf2, xf3⟩⟩ := HC2.out W2 KC.out
  have HC1 : Hid (∀ w', Keep (fun _ => False) W2 w' → Calls Tryd.prog 15 #[.agg #[.int .i64 fk, .string fnm, .slice fAn fnn fcn, .slice fAk fnk fck], .agg #[.int .i64 0, .string ⟨#[]⟩, .slice none 0 0, .slice none 0 0]] w' fun e w'' => e = .returned (.bool true) ∧ Keep (fun _ => False) w' w'') := fun w' hk => by
    have := rfits_any (r := ⟨fk, fnm, fAn, fnn, fcn, fAk, fnk, fck⟩) (r' := ⟨0, ⟨#[]⟩, none, 0, 0, none, 0, 0⟩) (HB.out.2.1.step (HD.out.1.trans hk (fun _ _ x => x))) (HD.out.2.2.step hk) (HB.out.2.2.2.1.step (HD.out.1.trans hk (fun _ _ x => x)))
    rw [aw_c1] at this
    exact this
  have HN1 : Hid (∀ w', Keep (fun _ => False) W2 w' → Calls Tryd.prog 19 #[.agg #[.int .i64 fk, .string fnm, .slice fAn fnn fcn, .slice fAk fnk fck], .agg #[.int .i64 0, .string ⟨#[]⟩, .slice none 0 0, .slice none 0 0]] w' fun e w'' => e = .returned (.bool true) ∧ Keep (fun _ => False) w' w'') := fun w' hk => by
    have := rnaive_any (r := ⟨fk, fnm, fAn, fnn, fcn, fAk, fnk, fck⟩) (r' := ⟨0, ⟨#[]⟩, none, 0, 0, none, 0, 0⟩) (HB.out.2.1.step (HD.out.1.trans hk (fun _ _ x => x))) (HD.out.2.2.step hk) (HB.out.2.2.2.1.step (HD.out.1.trans hk (fun _ _ x => x)))
    rw [aw_c2] at this
    exact this
  have HP1 : Hid (∀ w', Keep (fun _ => False) W2 w' → Calls Tryd.prog 17 #[.agg #[.int .i64 fk, .string fnm, .slice fAn fnn fcn, .slice fAk fnk fck], .agg #[.int .i64 0, .string ⟨#[]⟩, .slice none 0 0, .slice none 0 0]] w' fun e w'' => e = .returned (.bool true) ∧ Keep (fun _ => False) w' w'') := fun w' hk => by
    have := rpos_any (r := ⟨fk, fnm, fAn, fnn, fcn, fAk, fnk, fck⟩) (r' := ⟨0, ⟨#[]⟩, none, 0, 0, none, 0, 0⟩) (HB.out.2.1.step (HD.out.1.trans hk (fun _ _ x => x))) (HD.out.2.2.step hk) (HB.out.2.2.2.1.step (HD.out.1.trans hk (fun _ _ x => x)))
    rw [aw_c3] at this
    exact this
  have HG1 : Hid (∀ w', Keep (fun _ => False) W2 w' → Calls Tryd.prog 18 #[.agg #[.int .i64 fk, .string fnm, .slice fAn fnn fcn, .slice fAk fnk fck], .agg #[.int .i64 0, .string ⟨#[]⟩, .slice none 0 0, .slice none 0 0]] w' fun e w'' => e = .returned (.bool false) ∧ Keep (fun _ => False) w' w'') := fun w' hk => by
    have := rneg_any (r := ⟨fk, fnm, fAn, fnn, fcn, fAk, fnk, fck⟩) (r' := ⟨0, ⟨#[]⟩, none, 0, 0, none, 0, 0⟩) (HB.out.2.1.step (HD.out.1.trans hk (fun _ _ x => x))) (HD.out.2.2.step hk) (HB.out.2.2.2.1.step (HD.out.1.trans hk (fun _ _ x => x)))
    rw [aw_c4] at this
    exact this
  go_wp2_with (first
    | (go_at_call 15; (with_reducible refine (HC1.out _ KC.out).mono ?_); rintro e w3 ⟨rfl, hk⟩; have KN := Lib.hid (KC.out.trans hk (fun _ _ x => x)); clear KC hk xdl xd0 xd1 xd2 xd3 xfl xf0 xf1 xf2 xf3; have KC := KN; clear KN; obtain ⟨⟨xdl, xd0, xd1, xd2, xd3⟩, ⟨xfl, xf0, xf1, xf2, xf3⟩⟩ := HC2.out _ KC.out)
    | (go_at_call 19; (with_reducible refine (HN1.out _ KC.out).mono ?_); rintro e w3 ⟨rfl, hk⟩; have KN := Lib.hid (KC.out.trans hk (fun _ _ x => x)); clear KC hk xdl xd0 xd1 xd2 xd3 xfl xf0 xf1 xf2 xf3; have KC := KN; clear KN; obtain ⟨⟨xdl, xd0, xd1, xd2, xd3⟩, ⟨xfl, xf0, xf1, xf2, xf3⟩⟩ := HC2.out _ KC.out)
    | (go_at_call 17; (with_reducible refine (HP1.out _ KC.out).mono ?_); rintro e w3 ⟨rfl, hk⟩; have KN := Lib.hid (KC.out.trans hk (fun _ _ x => x)); clear KC hk xdl xd0 xd1 xd2 xd3 xfl xf0 xf1 xf2 xf3; have KC := KN; clear KN; obtain ⟨⟨xdl, xd0, xd1, xd2, xd3⟩, ⟨xfl, xf0, xf1, xf2, xf3⟩⟩ := HC2.out _ KC.out)
    | (go_at_call 18; (with_reducible refine (HG1.out _ KC.out).mono ?_); rintro e w3 ⟨rfl, hk⟩; have KN := Lib.hid (KC.out.trans hk (fun _ _ x => x)); clear KC hk xdl xd0 xd1 xd2 xd3 xfl xf0 xf1 xf2 xf3; have KC := KN; clear KN; obtain ⟨⟨xdl, xd0, xd1, xd2, xd3⟩, ⟨xfl, xf0, xf1, xf2, xf3⟩⟩ := HC2.out _ KC.out))
  go_ret
  exact ⟨rfl, (HB.out.1.trans HD.out.1 (fun _ _ x => x)).trans KC.out (fun _ _ x => x)⟩
end Go.Proofs.YtbanpohholnkaaaDoor
