/-
  Walk: graduslaw06.awake. Conditions: the table strings.asciiSpace lies as the program lays it.
-/
import Derived.Test.YtbanpohholnkaaaDoorWSub
import Derived.Test.YtbanpohholnkaaaDoorWStat
import Derived.Test.YtbanpohholnkaaaDoorLitsR
namespace Go.Proofs.YtbanpohholnkaaaDoor
open Go.RowKit

set_option maxRecDepth 100000 in
set_option maxHeartbeats 8000000 in
theorem rawake_any {w : World} (hT : Tab w) :
    Calls Tryd.prog 12 #[] w fun e w' => e = .returned (.bool true) ∧ Keep (fun _ => False) w w' := by
  have H := Lib.hid hT
  clear hT
  go_enter Tryd.func12, Tryd.ntmps12
  go_upto_region 6 with fail
  refine gen_world ?_
  intro W hW
  have kW : Keep (fun _ => False) w W := by rw [hW]; repeat (first | exact Keep.refl _ w | refine Keep.alloc ?_ _)
  obtain ⟨b, hb⟩ : ∃ b, b = w.heap.size := ⟨_, rfl⟩
  rw [← hb]
  have a0 : At W (b) 25 #[.int .i64 3, .string ⟨#[]⟩, .slice none 0 0, .slice none 0 0] := by rw [hW, hb]; exact ((((((((At.new_at (by simp)).alloc _).alloc _).alloc _).alloc _).alloc _).alloc _).alloc _).alloc _
  have a2 : At W (b + 1 + 1) 25 #[.int .i64 0, .string ⟨#[]⟩, .slice none 0 0, .slice none 0 0] := by rw [hW, hb]; exact ((((((At.new_at (by simp)).alloc _).alloc _).alloc _).alloc _).alloc _).alloc _
  have a3 : At W (b + 1 + 1 + 1) 9 #[.string ⟨#[97]⟩, .string ⟨#[98]⟩] := by rw [hW, hb]; exact (((((At.new_at (by simp)).alloc _).alloc _).alloc _).alloc _).alloc _
  have a4 : At W (b + 1 + 1 + 1 + 1) 25 #[.int .i64 3, .string ⟨#[]⟩, .slice none 0 0, .slice none 0 0, .int .i64 4, .string ⟨#[]⟩, .slice none 0 0, .slice none 0 0] := by rw [hW, hb]; exact ((((At.new_at (by simp)).alloc _).alloc _).alloc _).alloc _
  have a5 : At W (b + 1 + 1 + 1 + 1 + 1) 25 #[.int .i64 5, .string ⟨#[]⟩, .slice (some ⟨b + 1 + 1 + 1, 0, none⟩) 2 2, .slice (some ⟨b + 1 + 1 + 1 + 1, 0, none⟩) 2 2] := by rw [hW, hb]; exact (((At.new_at (by simp)).alloc _).alloc _).alloc _
  have a6 : At W (b + 1 + 1 + 1 + 1 + 1 + 1) 9 #[.string ⟨#[97]⟩] := by rw [hW, hb]; exact ((At.new_at (by simp)).alloc _).alloc _
  have a7 : At W (b + 1 + 1 + 1 + 1 + 1 + 1 + 1) 25 #[.int .i64 3, .string ⟨#[]⟩, .slice none 0 0, .slice none 0 0] := by rw [hW, hb]; exact (At.new_at (by simp)).alloc _
  have a8 : At W (b + 1 + 1 + 1 + 1 + 1 + 1 + 1 + 1) 25 #[.int .i64 5, .string ⟨#[]⟩, .slice (some ⟨b + 1 + 1 + 1 + 1 + 1 + 1, 0, none⟩) 1 1, .slice (some ⟨b + 1 + 1 + 1 + 1 + 1 + 1 + 1, 0, none⟩) 1 1] := by rw [hW, hb]; exact At.new_at (by simp)
  have hTW : Tab W := H.out.step kW
  clear hW hb
  generalize b + 1 + 1 + 1 + 1 + 1 + 1 + 1 + 1 = p8 at *
  generalize b + 1 + 1 + 1 + 1 + 1 + 1 + 1 = p7 at *
  generalize b + 1 + 1 + 1 + 1 + 1 + 1 = p6 at *
  generalize b + 1 + 1 + 1 + 1 + 1 = p5 at *
  generalize b + 1 + 1 + 1 + 1 = p4 at *
  generalize b + 1 + 1 + 1 = p3 at *
  generalize b + 1 + 1 = p2 at *
  generalize b + 1 = p1 at *
  have vi : TyV W nX ⟨3, ⟨#[]⟩, none, 0, 0, none, 0, 0⟩ eI := tv_base 3
  have vd : TyV W nX ⟨0, ⟨#[]⟩, none, 0, 0, none, 0, 0⟩ ty0 := tv_base 0
  have vr : TyV W nX ⟨5, ⟨#[]⟩, some ⟨p3, 0, none⟩, 2, 2, some ⟨p4, 0, none⟩, 2, 2⟩ eP := tv_rec a3 (fun x => x) a4 (fun x => x) (tv_base 3) (tv_base 4)
  have vq : TyV W nX ⟨5, ⟨#[]⟩, some ⟨p6, 0, none⟩, 1, 1, some ⟨p7, 0, none⟩, 1, 1⟩ eQ := tv_rec1 a6 (fun x => x) a7 (fun x => x) (tv_base 3)
  have HB := Lib.hid (And.intro kW (And.intro hTW (And.intro vi (And.intro vd (And.intro vr (And.intro vq (And.intro a0 (And.intro a2 (And.intro a5 a8)))))))))
  clear kW hTW vi vd vr vq a0 a2 a3 a4 a5 a6 a7 a8
  have HC : Hid (∀ w', Keep (fun _ => False) W w' → (b < w'.heap.size ∧ w'.cell? ⟨b, 0, none⟩ = some (.int .i64 3) ∧ w'.cell? ⟨b, 1, none⟩ = some (.string ⟨#[]⟩) ∧ w'.cell? ⟨b, 2, none⟩ = some (.slice none 0 0) ∧ w'.cell? ⟨b, 3, none⟩ = some (.slice none 0 0)) ∧ (p2 < w'.heap.size ∧ w'.cell? ⟨p2, 0, none⟩ = some (.int .i64 0) ∧ w'.cell? ⟨p2, 1, none⟩ = some (.string ⟨#[]⟩) ∧ w'.cell? ⟨p2, 2, none⟩ = some (.slice none 0 0) ∧ w'.cell? ⟨p2, 3, none⟩ = some (.slice none 0 0)) ∧ (p5 < w'.heap.size ∧ w'.cell? ⟨p5, 0, none⟩ = some (.int .i64 5) ∧ w'.cell? ⟨p5, 1, none⟩ = some (.string ⟨#[]⟩) ∧ w'.cell? ⟨p5, 2, none⟩ = some (.slice (some ⟨p3, 0, none⟩) 2 2) ∧ w'.cell? ⟨p5, 3, none⟩ = some (.slice (some ⟨p4, 0, none⟩) 2 2)) ∧ (p8 < w'.heap.size ∧ w'.cell? ⟨p8, 0, none⟩ = some (.int .i64 5) ∧ w'.cell? ⟨p8, 1, none⟩ = some (.string ⟨#[]⟩) ∧ w'.cell? ⟨p8, 2, none⟩ = some (.slice (some ⟨p6, 0, none⟩) 1 1) ∧ w'.cell? ⟨p8, 3, none⟩ = some (.slice (some ⟨p7, 0, none⟩) 1 1))) := fun w' hk => ⟨(hk.at_ HB.out.2.2.2.2.2.2.1 (fun x => x)).tcells, (hk.at_ HB.out.2.2.2.2.2.2.2.1 (fun x => x)).tcells, (hk.at_ HB.out.2.2.2.2.2.2.2.2.1 (fun x => x)).tcells, (hk.at_ HB.out.2.2.2.2.2.2.2.2.2 (fun x => x)).tcells⟩
  have KC : Hid (Keep (fun _ => False) W W) := Keep.refl _ _
  obtain ⟨⟨xil, xi0, xi1, xi2, xi3⟩, ⟨xdl, xd0, xd1, xd2, xd3⟩, ⟨xrl, xr0, xr1, xr2, xr3⟩, ⟨xql, xq0, xq1, xq2, xq3⟩⟩ := HC.out W KC.out
  have HA1 : Hid (∀ w', Keep (fun _ => False) W w' → Calls Tryd.prog 16 #[.agg #[.int .i64 5, .string ⟨#[]⟩, .slice (some ⟨p3, 0, none⟩) 2 2, .slice (some ⟨p4, 0, none⟩) 2 2], .agg #[.int .i64 5, .string ⟨#[]⟩, .slice (some ⟨p6, 0, none⟩) 1 1, .slice (some ⟨p7, 0, none⟩) 1 1]] w' fun e w'' => e = .returned (.bool true) ∧ Keep (fun _ => False) w' w'') := fun w' hk => by
    have := rsub_any (r := ⟨5, ⟨#[]⟩, some ⟨p3, 0, none⟩, 2, 2, some ⟨p4, 0, none⟩, 2, 2⟩) (r' := ⟨5, ⟨#[]⟩, some ⟨p6, 0, none⟩, 1, 1, some ⟨p7, 0, none⟩, 1, 1⟩) (HB.out.2.1.step hk) (HB.out.2.2.2.2.1.step hk) (HB.out.2.2.2.2.2.1.step hk)
    rw [aw_a1] at this
    exact this
  have HA2 : Hid (∀ w', Keep (fun _ => False) W w' → Calls Tryd.prog 15 #[.agg #[.int .i64 5, .string ⟨#[]⟩, .slice (some ⟨p3, 0, none⟩) 2 2, .slice (some ⟨p4, 0, none⟩) 2 2], .agg #[.int .i64 5, .string ⟨#[]⟩, .slice (some ⟨p6, 0, none⟩) 1 1, .slice (some ⟨p7, 0, none⟩) 1 1]] w' fun e w'' => e = .returned (.bool true) ∧ Keep (fun _ => False) w' w'') := fun w' hk => by
    have := rfits_any (r := ⟨5, ⟨#[]⟩, some ⟨p3, 0, none⟩, 2, 2, some ⟨p4, 0, none⟩, 2, 2⟩) (r' := ⟨5, ⟨#[]⟩, some ⟨p6, 0, none⟩, 1, 1, some ⟨p7, 0, none⟩, 1, 1⟩) (HB.out.2.1.step hk) (HB.out.2.2.2.2.1.step hk) (HB.out.2.2.2.2.2.1.step hk)
    rw [aw_a2] at this
    exact this
  have HA3 : Hid (∀ w', Keep (fun _ => False) W w' → Calls Tryd.prog 19 #[.agg #[.int .i64 5, .string ⟨#[]⟩, .slice (some ⟨p3, 0, none⟩) 2 2, .slice (some ⟨p4, 0, none⟩) 2 2], .agg #[.int .i64 5, .string ⟨#[]⟩, .slice (some ⟨p6, 0, none⟩) 1 1, .slice (some ⟨p7, 0, none⟩) 1 1]] w' fun e w'' => e = .returned (.bool false) ∧ Keep (fun _ => False) w' w'') := fun w' hk => by
    have := rnaive_any (r := ⟨5, ⟨#[]⟩, some ⟨p3, 0, none⟩, 2, 2, some ⟨p4, 0, none⟩, 2, 2⟩) (r' := ⟨5, ⟨#[]⟩, some ⟨p6, 0, none⟩, 1, 1, some ⟨p7, 0, none⟩, 1, 1⟩) (HB.out.2.1.step hk) (HB.out.2.2.2.2.1.step hk) (HB.out.2.2.2.2.2.1.step hk)
    rw [aw_a3] at this
    exact this
  have HA4 : Hid (∀ w', Keep (fun _ => False) W w' → Calls Tryd.prog 17 #[.agg #[.int .i64 5, .string ⟨#[]⟩, .slice (some ⟨p3, 0, none⟩) 2 2, .slice (some ⟨p4, 0, none⟩) 2 2], .agg #[.int .i64 5, .string ⟨#[]⟩, .slice (some ⟨p6, 0, none⟩) 1 1, .slice (some ⟨p7, 0, none⟩) 1 1]] w' fun e w'' => e = .returned (.bool true) ∧ Keep (fun _ => False) w' w'') := fun w' hk => by
    have := rpos_any (r := ⟨5, ⟨#[]⟩, some ⟨p3, 0, none⟩, 2, 2, some ⟨p4, 0, none⟩, 2, 2⟩) (r' := ⟨5, ⟨#[]⟩, some ⟨p6, 0, none⟩, 1, 1, some ⟨p7, 0, none⟩, 1, 1⟩) (HB.out.2.1.step hk) (HB.out.2.2.2.2.1.step hk) (HB.out.2.2.2.2.2.1.step hk)
    rw [aw_a4] at this
    exact this
  have HB1 : Hid (∀ w', Keep (fun _ => False) W w' → Calls Tryd.prog 15 #[.agg #[.int .i64 0, .string ⟨#[]⟩, .slice none 0 0, .slice none 0 0], .agg #[.int .i64 3, .string ⟨#[]⟩, .slice none 0 0, .slice none 0 0]] w' fun e w'' => e = .returned (.bool true) ∧ Keep (fun _ => False) w' w'') := fun w' hk => by
    have := rfits_any (r := ⟨0, ⟨#[]⟩, none, 0, 0, none, 0, 0⟩) (r' := ⟨3, ⟨#[]⟩, none, 0, 0, none, 0, 0⟩) (HB.out.2.1.step hk) (HB.out.2.2.2.1.step hk) (HB.out.2.2.1.step hk)
    rw [aw_b1] at this
    exact this
  have HB2 : Hid (∀ w', Keep (fun _ => False) W w' → Calls Tryd.prog 18 #[.agg #[.int .i64 0, .string ⟨#[]⟩, .slice none 0 0, .slice none 0 0], .agg #[.int .i64 3, .string ⟨#[]⟩, .slice none 0 0, .slice none 0 0]] w' fun e w'' => e = .returned (.bool true) ∧ Keep (fun _ => False) w' w'') := fun w' hk => by
    have := rneg_any (r := ⟨0, ⟨#[]⟩, none, 0, 0, none, 0, 0⟩) (r' := ⟨3, ⟨#[]⟩, none, 0, 0, none, 0, 0⟩) (HB.out.2.1.step hk) (HB.out.2.2.2.1.step hk) (HB.out.2.2.1.step hk)
    rw [aw_b2] at this
    exact this
  have HB3 : Hid (∀ w', Keep (fun _ => False) W w' → Calls Tryd.prog 16 #[.agg #[.int .i64 0, .string ⟨#[]⟩, .slice none 0 0, .slice none 0 0], .agg #[.int .i64 3, .string ⟨#[]⟩, .slice none 0 0, .slice none 0 0]] w' fun e w'' => e = .returned (.bool false) ∧ Keep (fun _ => False) w' w'') := fun w' hk => by
    have := rsub_any (r := ⟨0, ⟨#[]⟩, none, 0, 0, none, 0, 0⟩) (r' := ⟨3, ⟨#[]⟩, none, 0, 0, none, 0, 0⟩) (HB.out.2.1.step hk) (HB.out.2.2.2.1.step hk) (HB.out.2.2.1.step hk)
    rw [aw_b3] at this
    exact this
  have HB4 : Hid (∀ w', Keep (fun _ => False) W w' → Calls Tryd.prog 17 #[.agg #[.int .i64 0, .string ⟨#[]⟩, .slice none 0 0, .slice none 0 0], .agg #[.int .i64 3, .string ⟨#[]⟩, .slice none 0 0, .slice none 0 0]] w' fun e w'' => e = .returned (.bool false) ∧ Keep (fun _ => False) w' w'') := fun w' hk => by
    have := rpos_any (r := ⟨0, ⟨#[]⟩, none, 0, 0, none, 0, 0⟩) (r' := ⟨3, ⟨#[]⟩, none, 0, 0, none, 0, 0⟩) (HB.out.2.1.step hk) (HB.out.2.2.2.1.step hk) (HB.out.2.2.1.step hk)
    rw [aw_b4] at this
    exact this
  go_upto_region 7 with (first
    | (go_at_call 16; (with_reducible refine (HA1.out _ KC.out).mono ?_); rintro e w2 ⟨rfl, hk⟩; have KN := Lib.hid (KC.out.trans hk (fun _ _ x => x)); clear KC hk xil xi0 xi1 xi2 xi3 xdl xd0 xd1 xd2 xd3 xrl xr0 xr1 xr2 xr3 xql xq0 xq1 xq2 xq3; have KC := KN; clear KN; obtain ⟨⟨xil, xi0, xi1, xi2, xi3⟩, ⟨xdl, xd0, xd1, xd2, xd3⟩, ⟨xrl, xr0, xr1, xr2, xr3⟩, ⟨xql, xq0, xq1, xq2, xq3⟩⟩ := HC.out _ KC.out)
    | (go_at_call 15; (with_reducible refine (HA2.out _ KC.out).mono ?_); rintro e w2 ⟨rfl, hk⟩; have KN := Lib.hid (KC.out.trans hk (fun _ _ x => x)); clear KC hk xil xi0 xi1 xi2 xi3 xdl xd0 xd1 xd2 xd3 xrl xr0 xr1 xr2 xr3 xql xq0 xq1 xq2 xq3; have KC := KN; clear KN; obtain ⟨⟨xil, xi0, xi1, xi2, xi3⟩, ⟨xdl, xd0, xd1, xd2, xd3⟩, ⟨xrl, xr0, xr1, xr2, xr3⟩, ⟨xql, xq0, xq1, xq2, xq3⟩⟩ := HC.out _ KC.out)
    | (go_at_call 19; (with_reducible refine (HA3.out _ KC.out).mono ?_); rintro e w2 ⟨rfl, hk⟩; have KN := Lib.hid (KC.out.trans hk (fun _ _ x => x)); clear KC hk xil xi0 xi1 xi2 xi3 xdl xd0 xd1 xd2 xd3 xrl xr0 xr1 xr2 xr3 xql xq0 xq1 xq2 xq3; have KC := KN; clear KN; obtain ⟨⟨xil, xi0, xi1, xi2, xi3⟩, ⟨xdl, xd0, xd1, xd2, xd3⟩, ⟨xrl, xr0, xr1, xr2, xr3⟩, ⟨xql, xq0, xq1, xq2, xq3⟩⟩ := HC.out _ KC.out)
    | (go_at_call 17; (with_reducible refine (HA4.out _ KC.out).mono ?_); rintro e w2 ⟨rfl, hk⟩; have KN := Lib.hid (KC.out.trans hk (fun _ _ x => x)); clear KC hk xil xi0 xi1 xi2 xi3 xdl xd0 xd1 xd2 xd3 xrl xr0 xr1 xr2 xr3 xql xq0 xq1 xq2 xq3; have KC := KN; clear KN; obtain ⟨⟨xil, xi0, xi1, xi2, xi3⟩, ⟨xdl, xd0, xd1, xd2, xd3⟩, ⟨xrl, xr0, xr1, xr2, xr3⟩, ⟨xql, xq0, xq1, xq2, xq3⟩⟩ := HC.out _ KC.out))
  clear HA1 HA2 HA3 HA4
  go_upto_region 8 with (first
    | (go_at_call 15; (with_reducible refine (HB1.out _ KC.out).mono ?_); rintro e w2 ⟨rfl, hk⟩; have KN := Lib.hid (KC.out.trans hk (fun _ _ x => x)); clear KC hk xil xi0 xi1 xi2 xi3 xdl xd0 xd1 xd2 xd3 xrl xr0 xr1 xr2 xr3 xql xq0 xq1 xq2 xq3; have KC := KN; clear KN; obtain ⟨⟨xil, xi0, xi1, xi2, xi3⟩, ⟨xdl, xd0, xd1, xd2, xd3⟩, ⟨xrl, xr0, xr1, xr2, xr3⟩, ⟨xql, xq0, xq1, xq2, xq3⟩⟩ := HC.out _ KC.out)
    | (go_at_call 18; (with_reducible refine (HB2.out _ KC.out).mono ?_); rintro e w2 ⟨rfl, hk⟩; have KN := Lib.hid (KC.out.trans hk (fun _ _ x => x)); clear KC hk xil xi0 xi1 xi2 xi3 xdl xd0 xd1 xd2 xd3 xrl xr0 xr1 xr2 xr3 xql xq0 xq1 xq2 xq3; have KC := KN; clear KN; obtain ⟨⟨xil, xi0, xi1, xi2, xi3⟩, ⟨xdl, xd0, xd1, xd2, xd3⟩, ⟨xrl, xr0, xr1, xr2, xr3⟩, ⟨xql, xq0, xq1, xq2, xq3⟩⟩ := HC.out _ KC.out)
    | (go_at_call 16; (with_reducible refine (HB3.out _ KC.out).mono ?_); rintro e w2 ⟨rfl, hk⟩; have KN := Lib.hid (KC.out.trans hk (fun _ _ x => x)); clear KC hk xil xi0 xi1 xi2 xi3 xdl xd0 xd1 xd2 xd3 xrl xr0 xr1 xr2 xr3 xql xq0 xq1 xq2 xq3; have KC := KN; clear KN; obtain ⟨⟨xil, xi0, xi1, xi2, xi3⟩, ⟨xdl, xd0, xd1, xd2, xd3⟩, ⟨xrl, xr0, xr1, xr2, xr3⟩, ⟨xql, xq0, xq1, xq2, xq3⟩⟩ := HC.out _ KC.out)
    | (go_at_call 17; (with_reducible refine (HB4.out _ KC.out).mono ?_); rintro e w2 ⟨rfl, hk⟩; have KN := Lib.hid (KC.out.trans hk (fun _ _ x => x)); clear KC hk xil xi0 xi1 xi2 xi3 xdl xd0 xd1 xd2 xd3 xrl xr0 xr1 xr2 xr3 xql xq0 xq1 xq2 xq3; have KC := KN; clear KN; obtain ⟨⟨xil, xi0, xi1, xi2, xi3⟩, ⟨xdl, xd0, xd1, xd2, xd3⟩, ⟨xrl, xr0, xr1, xr2, xr3⟩, ⟨xql, xq0, xq1, xq2, xq3⟩⟩ := HC.out _ KC.out))
  clear HB1 HB2 HB3 HB4
  have HFU : Hid (∀ w', Keep (fun _ => False) W w' → Calls Tryd.prog 20 #[.agg #[.int .i64 3, .string ⟨#[]⟩, .slice none 0 0, .slice none 0 0], .agg #[.int .i64 3, .string ⟨#[]⟩, .slice none 0 0, .slice none 0 0]] w' fun e w'' => (∃ q : Tv, e = .returned q.val ∧ TyV w'' nX q eG) ∧ Keep (fun _ => False) w' w'') := fun w' hk => fun_any (r := ⟨3, ⟨#[]⟩, none, 0, 0, none, 0, 0⟩) (r' := ⟨3, ⟨#[]⟩, none, 0, 0, none, 0, 0⟩) (HB.out.2.2.1.step hk) (HB.out.2.2.1.step hk)
  go_upto_region 9 with (go_at_call 20; (with_reducible refine (HFU.out _ KC.out).mono ?_); rintro e w2 ⟨⟨⟨fk, fnm, fAn, fnn, fcn, fAk, fnk, fck⟩, he, hfv⟩, hk⟩; simp only [Tv.val] at he; subst he; have HV := Lib.hid hfv; clear hfv; have KN := Lib.hid (KC.out.trans hk (fun _ _ x => x)); clear KC hk xil xi0 xi1 xi2 xi3 xdl xd0 xd1 xd2 xd3 xrl xr0 xr1 xr2 xr3 xql xq0 xq1 xq2 xq3; have KC := KN; clear KN; obtain ⟨⟨xil, xi0, xi1, xi2, xi3⟩, ⟨xdl, xd0, xd1, xd2, xd3⟩, ⟨xrl, xr0, xr1, xr2, xr3⟩, ⟨xql, xq0, xq1, xq2, xq3⟩⟩ := HC.out _ KC.out)
  refine gen_world ?_
  intro W2 hW2
  have k2 : Keep (fun _ => False) W W2 := by rw [hW2]; exact KC.out.alloc _
  have a8 : At W2 w2.heap.size 25 #[.int .i64 fk, .string fnm, .slice fAn fnn fcn, .slice fAk fnk fck] := by rw [hW2]; exact At.new _ _ _
  have vf := HV.out.step (show Keep (fun _ => False) w2 W2 by rw [hW2]; exact (Keep.refl _ w2).alloc _)
  clear hW2
  generalize w2.heap.size = fx at *
  clear KC xil xi0 xi1 xi2 xi3 xdl xd0 xd1 xd2 xd3 xrl xr0 xr1 xr2 xr3 xql xq0 xq1 xq2 xq3 HV HFU
  have HD := Lib.hid (And.intro k2 (And.intro a8 vf))
  have HC2 : Hid (∀ w', Keep (fun _ => False) W2 w' → (p2 < w'.heap.size ∧ w'.cell? ⟨p2, 0, none⟩ = some (.int .i64 0) ∧ w'.cell? ⟨p2, 1, none⟩ = some (.string ⟨#[]⟩) ∧ w'.cell? ⟨p2, 2, none⟩ = some (.slice none 0 0) ∧ w'.cell? ⟨p2, 3, none⟩ = some (.slice none 0 0)) ∧ (fx < w'.heap.size ∧ w'.cell? ⟨fx, 0, none⟩ = some (.int .i64 fk) ∧ w'.cell? ⟨fx, 1, none⟩ = some (.string fnm) ∧ w'.cell? ⟨fx, 2, none⟩ = some (.slice fAn fnn fcn) ∧ w'.cell? ⟨fx, 3, none⟩ = some (.slice fAk fnk fck))) := fun w' hk => ⟨((k2.trans hk (fun _ _ x => x)).at_ HB.out.2.2.2.2.2.2.2.1 (fun x => x)).tcells, (hk.at_ a8 (fun x => x)).tcells⟩
  clear k2 a8 vf HC
  have KC : Hid (Keep (fun _ => False) W2 W2) := Keep.refl _ _
  obtain ⟨⟨xdl, xd0, xd1, xd2, xd3⟩, ⟨xfl, xf0, xf1, xf2, xf3⟩⟩ := HC2.out W2 KC.out
  have HC1 : Hid (∀ w', Keep (fun _ => False) W2 w' → Calls Tryd.prog 15 #[.agg #[.int .i64 fk, .string fnm, .slice fAn fnn fcn, .slice fAk fnk fck], .agg #[.int .i64 0, .string ⟨#[]⟩, .slice none 0 0, .slice none 0 0]] w' fun e w'' => e = .returned (.bool true) ∧ Keep (fun _ => False) w' w'') := fun w' hk => by
    have := rfits_any (r := ⟨fk, fnm, fAn, fnn, fcn, fAk, fnk, fck⟩) (r' := ⟨0, ⟨#[]⟩, none, 0, 0, none, 0, 0⟩) (HB.out.2.1.step (HD.out.1.trans hk (fun _ _ x => x))) (HD.out.2.2.step hk) (HB.out.2.2.2.1.step (HD.out.1.trans hk (fun _ _ x => x)))
    rw [aw_c1] at this
    exact this
  have HN1 : Hid (∀ w', Keep (fun _ => False) W2 w' → Calls Tryd.prog 19 #[.agg #[.int .i64 fk, .string fnm, .slice fAn fnn fcn, .slice fAk fnk fck], .agg #[.int .i64 0, .string ⟨#[]⟩, .slice none 0 0, .slice none 0 0]] w' fun e w'' => e = .returned (.bool true) ∧ Keep (fun _ => False) w' w'') := fun w' hk => by
    have := rnaive_any (r := ⟨fk, fnm, fAn, fnn, fcn, fAk, fnk, fck⟩) (r' := ⟨0, ⟨#[]⟩, none, 0, 0, none, 0, 0⟩) (HB.out.2.1.step (HD.out.1.trans hk (fun _ _ x => x))) (HD.out.2.2.step hk) (HB.out.2.2.2.1.step (HD.out.1.trans hk (fun _ _ x => x)))
    rw [aw_c2] at this
    exact this
  have HP1 : Hid (∀ w', Keep (fun _ => False) W2 w' → Calls Tryd.prog 17 #[.agg #[.int .i64 fk, .string fnm, .slice fAn fnn fcn, .slice fAk fnk fck], .agg #[.int .i64 0, .string ⟨#[]⟩, .slice none 0 0, .slice none 0 0]] w' fun e w'' => e = .returned (.bool true) ∧ Keep (fun _ => False) w' w'') := fun w' hk => by
    have := rpos_any (r := ⟨fk, fnm, fAn, fnn, fcn, fAk, fnk, fck⟩) (r' := ⟨0, ⟨#[]⟩, none, 0, 0, none, 0, 0⟩) (HB.out.2.1.step (HD.out.1.trans hk (fun _ _ x => x))) (HD.out.2.2.step hk) (HB.out.2.2.2.1.step (HD.out.1.trans hk (fun _ _ x => x)))
    rw [aw_c3] at this
    exact this
  have HG1 : Hid (∀ w', Keep (fun _ => False) W2 w' → Calls Tryd.prog 18 #[.agg #[.int .i64 fk, .string fnm, .slice fAn fnn fcn, .slice fAk fnk fck], .agg #[.int .i64 0, .string ⟨#[]⟩, .slice none 0 0, .slice none 0 0]] w' fun e w'' => e = .returned (.bool false) ∧ Keep (fun _ => False) w' w'') := fun w' hk => by
    have := rneg_any (r := ⟨fk, fnm, fAn, fnn, fcn, fAk, fnk, fck⟩) (r' := ⟨0, ⟨#[]⟩, none, 0, 0, none, 0, 0⟩) (HB.out.2.1.step (HD.out.1.trans hk (fun _ _ x => x))) (HD.out.2.2.step hk) (HB.out.2.2.2.1.step (HD.out.1.trans hk (fun _ _ x => x)))
    rw [aw_c4] at this
    exact this
  go_wp2_with (first
    | (go_at_call 15; (with_reducible refine (HC1.out _ KC.out).mono ?_); rintro e w3 ⟨rfl, hk⟩; have KN := Lib.hid (KC.out.trans hk (fun _ _ x => x)); clear KC hk xdl xd0 xd1 xd2 xd3 xfl xf0 xf1 xf2 xf3; have KC := KN; clear KN; obtain ⟨⟨xdl, xd0, xd1, xd2, xd3⟩, ⟨xfl, xf0, xf1, xf2, xf3⟩⟩ := HC2.out _ KC.out)
    | (go_at_call 19; (with_reducible refine (HN1.out _ KC.out).mono ?_); rintro e w3 ⟨rfl, hk⟩; have KN := Lib.hid (KC.out.trans hk (fun _ _ x => x)); clear KC hk xdl xd0 xd1 xd2 xd3 xfl xf0 xf1 xf2 xf3; have KC := KN; clear KN; obtain ⟨⟨xdl, xd0, xd1, xd2, xd3⟩, ⟨xfl, xf0, xf1, xf2, xf3⟩⟩ := HC2.out _ KC.out)
    | (go_at_call 17; (with_reducible refine (HP1.out _ KC.out).mono ?_); rintro e w3 ⟨rfl, hk⟩; have KN := Lib.hid (KC.out.trans hk (fun _ _ x => x)); clear KC hk xdl xd0 xd1 xd2 xd3 xfl xf0 xf1 xf2 xf3; have KC := KN; clear KN; obtain ⟨⟨xdl, xd0, xd1, xd2, xd3⟩, ⟨xfl, xf0, xf1, xf2, xf3⟩⟩ := HC2.out _ KC.out)
    | (go_at_call 18; (with_reducible refine (HG1.out _ KC.out).mono ?_); rintro e w3 ⟨rfl, hk⟩; have KN := Lib.hid (KC.out.trans hk (fun _ _ x => x)); clear KC hk xdl xd0 xd1 xd2 xd3 xfl xf0 xf1 xf2 xf3; have KC := KN; clear KN; obtain ⟨⟨xdl, xd0, xd1, xd2, xd3⟩, ⟨xfl, xf0, xf1, xf2, xf3⟩⟩ := HC2.out _ KC.out))
  go_ret
  exact ⟨rfl, (HB.out.1.trans HD.out.1 (fun _ _ x => x)).trans KC.out (fun _ _ x => x)⟩
end Go.Proofs.YtbanpohholnkaaaDoor
