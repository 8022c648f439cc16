/-
  Walk: graduslaw03.awake. Conditions: none.
-/
import Derived.Test.YtomhhpjpmlpijaaDoorWShowF
import Derived.Test.YtomhhpjpmlpijaaDoorLits
import Derived.Test.YtomhhpjpmlpijaaDoorOpen
namespace Go.Proofs.YtomhhpjpmlpijaaDoor
open Go.RowKit

theorem Rd.lit {w : World} {X : Nat → Prop} {b : Nat} {e : TypeId} {cs : Array Value} {n size : Nat} (h : At w b e cs) (hX : ¬ X b) (hs : cs.size = n * size) : Rd w X size (.slice (some ⟨b, 0, none⟩) n n) n cs.toList := by
  refine ⟨by simpa using hs, _, _, rfl, Nat.le_refl _, fun _ => ⟨b, 0, rfl, h.lt, hX, fun j hj => ?_⟩⟩
  rw [Nat.zero_add, h.cell]
  simp

theorem tv_base {w : World} (k : Int) : TyV w nX ⟨k, ⟨#[]⟩, none, 0, 0, none, 0, 0⟩ (.mk k ⟨#[]⟩ [] []) :=
  TyV.mk (rs := []) ⟨rfl, Nat.zero_le _, Nat.zero_le _⟩ rfl rfl (Rd.nil w nX 1) rfl (Rd.nil w nX 4) trivial
theorem tv_two {w : World} {b : Nat} {e : TypeId} {q1 q2 : Tv} {t1 t2 : Ty} (k : Int) (h : At w b e (q1.vals ++ q2.vals).toArray) (h1 : TyV w nX q1 t1) (h2 : TyV w nX q2 t2) : TyV w nX ⟨k, ⟨#[]⟩, none, 0, 0, some ⟨b, 0, none⟩, 2, 2⟩ (.mk k ⟨#[]⟩ [] [t1, t2]) :=
  TyV.mk (rs := [q1, q2]) ⟨rfl, Nat.zero_le _, (by decide : 2 ≤ 140737488355328)⟩ rfl rfl (Rd.nil w nX 1) rfl (by have := Rd.lit (X := nX) (size := 4) (n := 2) h (fun x => x) rfl; simpa [tflat, Ty.kids] using this) ⟨h1, h2, trivial⟩
theorem tv_rec {w : World} {b c : Nat} {e f : TypeId} {q1 q2 : Tv} {t1 t2 : Ty} {s1 s2 : ByteArray} (hc : At w c f #[.string s1, .string s2]) (h : At w b e (q1.vals ++ q2.vals).toArray) (h1 : TyV w nX q1 t1) (h2 : TyV w nX q2 t2) : TyV w nX ⟨5, ⟨#[]⟩, some ⟨c, 0, none⟩, 2, 2, some ⟨b, 0, none⟩, 2, 2⟩ (.mk 5 ⟨#[]⟩ [s1, s2] [t1, t2]) :=
  TyV.mk (rs := [q1, q2]) ⟨rfl, (by decide : 2 ≤ 140737488355328), (by decide : 2 ≤ 140737488355328)⟩ rfl rfl (Rd.lit (X := nX) (size := 1) (n := 2) hc (fun x => x) rfl) rfl (by have := Rd.lit (X := nX) (size := 4) (n := 2) h (fun x => x) rfl; simpa [tflat, Ty.kids] using this) ⟨h1, h2, trivial⟩
theorem gen_world {P : Program} {c : Code} {Q : Exit → Act → World → Prop} {a : Act} {w : World} (h : ∀ W, W = w → c.wp P Q a W) : c.wp P Q a w := h w rfl
set_option maxRecDepth 100000 in
set_option maxHeartbeats 4000000 in
theorem awake_any {w : World} (hT : Tab w) :
    Calls Tryd.prog 11 #[] w fun e w' => e = .returned (.bool true) ∧ Keep (fun _ => False) w w' := by
  have H := Lib.hid hT
  clear hT
  go_enter Tryd.func11, Tryd.ntmps11
  go_upto_region 6 with fail
  refine gen_world ?_
  intro W hW
  have kW : Keep (fun _ => False) w W := by rw [hW]; repeat (first | exact Keep.refl _ w | refine Keep.alloc ?_ _)
  obtain ⟨b, hb⟩ : ∃ b, b = w.heap.size := ⟨_, rfl⟩
  rw [← hb]
  have a0 : At W b 25 #[.int .i64 3, .string ⟨#[]⟩, .slice none 0 0, .slice none 0 0] := by rw [hW, hb]; repeat (first | exact At.new_at (by simp) | refine At.alloc ?_ _)
  have a2 : At W (b + 1 + 1) 25 #[.int .i64 1, .string ⟨#[]⟩, .slice none 0 0, .slice none 0 0, .int .i64 3, .string ⟨#[]⟩, .slice none 0 0, .slice none 0 0] := by rw [hW, hb]; repeat (first | exact At.new_at (by simp) | refine At.alloc ?_ _)
  have a3 : At W (b + 1 + 1 + 1) 25 #[.int .i64 4, .string ⟨#[]⟩, .slice none 0 0, .slice none 0 0, .int .i64 7, .string ⟨#[]⟩, .slice none 0 0, .slice (some ⟨b + 1 + 1, 0, none⟩) 2 2] := by rw [hW, hb]; repeat (first | exact At.new_at (by simp) | refine At.alloc ?_ _)
  have a4 : At W (b + 1 + 1 + 1 + 1) 25 #[.int .i64 7, .string ⟨#[]⟩, .slice none 0 0, .slice (some ⟨b + 1 + 1 + 1, 0, none⟩) 2 2] := by rw [hW, hb]; repeat (first | exact At.new_at (by simp) | refine At.alloc ?_ _)
  have a5 : At W (b + 1 + 1 + 1 + 1 + 1) 25 #[.int .i64 3, .string ⟨#[]⟩, .slice none 0 0, .slice none 0 0, .int .i64 0, .string ⟨#[]⟩, .slice none 0 0, .slice none 0 0] := by rw [hW, hb]; repeat (first | exact At.new_at (by simp) | refine At.alloc ?_ _)
  have a7 : At W (b + 1 + 1 + 1 + 1 + 1 + 1 + 1) 9 #[.string ⟨#[98]⟩, .string ⟨#[97]⟩] := by rw [hW, hb]; repeat (first | exact At.new_at (by simp) | refine At.alloc ?_ _)
  have a8 : At W (b + 1 + 1 + 1 + 1 + 1 + 1 + 1 + 1) 25 #[.int .i64 3, .string ⟨#[]⟩, .slice none 0 0, .slice none 0 0, .int .i64 6, .string ⟨#[]⟩, .slice none 0 0, .slice (some ⟨b + 1 + 1 + 1 + 1 + 1, 0, none⟩) 2 2] := by rw [hW, hb]; repeat (first | exact At.new_at (by simp) | refine At.alloc ?_ _)
  have a9 : At W (b + 1 + 1 + 1 + 1 + 1 + 1 + 1 + 1 + 1) 25 #[.int .i64 5, .string ⟨#[]⟩, .slice (some ⟨b + 1 + 1 + 1 + 1 + 1 + 1 + 1, 0, none⟩) 2 2, .slice (some ⟨b + 1 + 1 + 1 + 1 + 1 + 1 + 1 + 1, 0, none⟩) 2 2] := by rw [hW, hb]; repeat (first | exact At.new_at (by simp) | refine At.alloc ?_ _)
  have hTW : Tab W := H.out.step kW
  have hU : TyV W nX ⟨7, ⟨#[]⟩, none, 0, 0, some ⟨b + 1 + 1 + 1, 0, none⟩, 2, 2⟩ eU := tv_two 7 a3 (tv_base 4) (tv_two 7 a2 (tv_base 1) (tv_base 3))
  have hR : TyV W nX ⟨5, ⟨#[]⟩, some ⟨b + 1 + 1 + 1 + 1 + 1 + 1 + 1, 0, none⟩, 2, 2, some ⟨b + 1 + 1 + 1 + 1 + 1 + 1 + 1 + 1, 0, none⟩, 2, 2⟩ eR := tv_rec a7 a8 (tv_base 3) (tv_two 6 a5 (tv_base 3) (tv_base 0))
  have hn := Norm_any (X := nX) (fun _ h => h.elim) hTW hU
  rw [norm_U] at hn
  unfold Tv.val at hn
  simp only at hn
  clear hW hb a2 a3 a5 a7 a8
  generalize b + 1 + 1 + 1 + 1 + 1 + 1 + 1 + 1 + 1 = p9 at *
  generalize b + 1 + 1 + 1 + 1 + 1 + 1 + 1 + 1 = p8 at *
  generalize b + 1 + 1 + 1 + 1 + 1 + 1 + 1 = p7 at *
  generalize b + 1 + 1 + 1 + 1 + 1 + 1 = p6 at *
  generalize b + 1 + 1 + 1 + 1 + 1 = p5 at *
  generalize b + 1 + 1 + 1 + 1 = p4 at *
  generalize b + 1 + 1 + 1 = p3 at *
  generalize b + 1 + 1 = p2 at *
  generalize b + 1 = p1 at *
  have x0 := a4.cell 0
  have x1 := a4.cell 1
  have x2 := a4.cell 2
  have x3 := a4.cell 3
  have xl := a4.lt
  simp only [List.getElem?_toArray, List.getElem?_cons_succ, List.getElem?_cons_zero] at x0 x1 x2 x3
  have HB := Lib.hid (And.intro a0 (And.intro a4 (And.intro a9 (And.intro hU (And.intro hR (And.intro hTW kW))))))
  clear a0 a4 a9 hU hR hTW kW
  go_upto_region 7 with (go_at_call 13; refine hn.mono ?_; rintro e w1 ⟨⟨⟨pk, pnm, pAn, pnn, pcn, pAk, pnk, pck⟩, he, hp⟩, hk⟩; simp only [Tv.val] at he; subst he; have H1 := Lib.hid (And.intro hk hp); clear hk hn hp)
  refine gen_world ?_
  intro W1 hW1
  have k1 : Keep (fun _ => False) W W1 := by rw [hW1]; exact H1.out.1.alloc _
  have b1 : At W1 w1.heap.size 25 #[.int .i64 pk, .string pnm, .slice pAn pnn pcn, .slice pAk pnk pck] := by rw [hW1]; exact At.new _ _ _
  have v1 := H1.out.2.step (show Keep (fun _ => False) w1 W1 by rw [hW1]; exact (Keep.refl _ w1).alloc _)
  clear hW1 H1 x0 x1 x2 x3 xl
  generalize w1.heap.size = q1 at *
  have hn := Norm_any (X := nX) (fun _ h => h.elim) (HB.out.2.2.2.2.2.1.step k1) (HB.out.2.2.2.2.1.step k1)
  rw [norm_R] at hn
  unfold Tv.val at hn
  simp only at hn
  have a9 := k1.at_ HB.out.2.2.1 (fun x => x)
  have x0 := a9.cell 0
  have x1 := a9.cell 1
  have x2 := a9.cell 2
  have x3 := a9.cell 3
  have xl := a9.lt
  simp only [List.getElem?_toArray, List.getElem?_cons_succ, List.getElem?_cons_zero] at x0 x1 x2 x3
  have HC := Lib.hid (And.intro k1 (And.intro b1 v1))
  clear k1 b1 v1 a9
  go_upto_region 8 with (go_at_call 13; refine hn.mono ?_; rintro e w2 ⟨⟨⟨qk, qnm, qAn, qnn, qcn, qAk, qnk, qck⟩, he, hp⟩, hk⟩; simp only [Tv.val] at he; subst he; have H1 := Lib.hid (And.intro hk hp); clear hk hn hp)
  refine gen_world ?_
  intro W2 hW2
  have k2 : Keep (fun _ => False) W1 W2 := by rw [hW2]; exact H1.out.1.alloc _
  have b2 : At W2 w2.heap.size 25 #[.int .i64 qk, .string qnm, .slice qAn qnn qcn, .slice qAk qnk qck] := by rw [hW2]; exact At.new _ _ _
  have v2 := H1.out.2.step (show Keep (fun _ => False) w2 W2 by rw [hW2]; exact (Keep.refl _ w2).alloc _)
  clear hW2 H1 x0 x1 x2 x3 xl
  generalize w2.heap.size = q2 at *
  have kk2 := HC.out.1.trans k2 (fun _ _ x => x)
  have aW : At (W2.alloc (.cells #[.int .i64 0, .string ⟨#[]⟩, .slice none 0 0, .slice none 0 0, .int .i64 3, .string ⟨#[]⟩, .slice none 0 0, .slice none 0 0] 25)) W2.heap.size 25 #[.int .i64 0, .string ⟨#[]⟩, .slice none 0 0, .slice none 0 0, .int .i64 3, .string ⟨#[]⟩, .slice none 0 0, .slice none 0 0] := At.new _ _ _
  have hn := Norm_any (X := nX) (t := eW) (fun _ h => h.elim) ((HB.out.2.2.2.2.2.1.step kk2).step ((Keep.refl _ W2).alloc _)) (tv_two 7 aW (tv_base 0) (tv_base 3))
  rw [norm_W] at hn
  unfold Tv.val at hn
  simp only at hn
  have a0 := kk2.at_ HB.out.1 (fun x => x)
  have x0 := a0.cell 0
  have x1 := a0.cell 1
  have x2 := a0.cell 2
  have x3 := a0.cell 3
  have xl := a0.lt
  simp only [List.getElem?_toArray, List.getElem?_cons_succ, List.getElem?_cons_zero] at x0 x1 x2 x3
  have HD := Lib.hid (And.intro k2 (And.intro b2 (And.intro v2 kk2)))
  clear k2 b2 v2 kk2 a0 aW
  go_upto_region 9 with (go_at_call 13; refine hn.mono ?_; rintro e w3 ⟨he, hk⟩; unfold NormP at he; simp only [Tv.val, tv0] at he; subst he; have H1 := Lib.hid hk; clear hk hn)
  refine gen_world ?_
  intro W3 hW3
  have k3 : Keep (fun _ => False) W2 W3 := by rw [hW3]; exact (((Keep.refl _ W2).alloc _).trans H1.out (fun _ _ x => x)).alloc _
  clear hW3 H1 x0 x1 x2 x3 xl
  have kk3 := HD.out.1.trans k3 (fun _ _ x => x)
  have kk4 := HD.out.2.2.2.trans k3 (fun _ _ x => x)
  obtain ⟨hsA⟩ : Nonempty (∀ w', Keep (fun _ => False) W3 w' → Calls Tryd.prog 21 #[.agg #[.int .i64 pk, .string pnm, .slice pAn pnn pcn, .slice pAk pnk pck]] w' fun e w'' => e = .returned (.string ⟨#[110, 117, 108, 108, 32, 124, 32, 105, 110, 116, 32, 124, 32, 115, 116, 114]⟩) ∧ Keep (fun _ => False) w' w'') := ⟨fun w' hk => by
    have := Show_any (X := nX) (fun _ h => h.elim) ((HB.out.2.2.2.2.2.1.step kk4).step hk) ((HC.out.2.2.step kk3).step hk)
    rw [show_A] at this
    exact this⟩
  obtain ⟨hsB⟩ : Nonempty (∀ w', Keep (fun _ => False) W3 w' → Calls Tryd.prog 21 #[.agg #[.int .i64 qk, .string qnm, .slice qAn qnn qcn, .slice qAk qnk qck]] w' fun e w'' => e = .returned (.string ⟨#[123, 97, 58, 32, 105, 110, 116, 32, 45, 62, 32, 97, 110, 121, 44, 32, 98, 58, 32, 105, 110, 116, 125]⟩) ∧ Keep (fun _ => False) w' w'') := ⟨fun w' hk => by
    have := Show_any (X := nX) (fun _ h => h.elim) ((HB.out.2.2.2.2.2.1.step kk4).step hk) ((HD.out.2.2.1.step k3).step hk)
    rw [show_B] at this
    exact this⟩
  obtain ⟨hsU⟩ : Nonempty (∀ w', Keep (fun _ => False) W3 w' → Calls Tryd.prog 21 #[.agg #[.int .i64 7, .string ⟨#[]⟩, .slice none 0 0, .slice (some ⟨p3, 0, none⟩) 2 2]] w' fun e w'' => e = .returned (.string ⟨#[]⟩) ∧ Keep (fun _ => False) w' w'') := ⟨fun w' hk => by
    have := Show_any (X := nX) (fun _ h => h.elim) ((HB.out.2.2.2.2.2.1.step kk4).step hk) ((HB.out.2.2.2.1.step kk4).step hk)
    rw [show_U] at this
    exact this⟩
  obtain ⟨hF⟩ : Nonempty (∀ w', Keep (fun _ => False) W3 w' → At w' q1 25 #[.int .i64 pk, .string pnm, .slice pAn pnn pcn, .slice pAk pnk pck] ∧ At w' q2 25 #[.int .i64 qk, .string qnm, .slice qAn qnn qcn, .slice qAk qnk qck] ∧ At w' p4 25 #[.int .i64 7, .string ⟨#[]⟩, .slice none 0 0, .slice (some ⟨p3, 0, none⟩) 2 2]) := ⟨fun w' hk => ⟨(kk3.trans hk (fun _ _ x => x)).at_ HC.out.2.1 (fun x => x), (k3.trans hk (fun _ _ x => x)).at_ HD.out.2.1 (fun x => x), (kk4.trans hk (fun _ _ x => x)).at_ HB.out.2.1 (fun x => x)⟩⟩
  have a1 := (hF W3 (Keep.refl _ _)).1
  have x0 := a1.cell 0
  have x1 := a1.cell 1
  have x2 := a1.cell 2
  have x3 := a1.cell 3
  have xl := a1.lt
  simp only [List.getElem?_toArray, List.getElem?_cons_succ, List.getElem?_cons_zero] at x0 x1 x2 x3
  have hcA := hsA W3 (Keep.refl _ _)
  have HS := Lib.hid (And.intro hsB (And.intro hsU (And.intro hF (HB.out.2.2.2.2.2.2.trans kk4 (fun _ _ x => x)))))
  clear hsA hsB hsU hF k3 kk3 kk4 HB HC HD a1
  go_wp2_with (first
    | (go_at_call 21; refine hcA.mono ?_; rintro e w4 ⟨rfl, hk⟩; have aq := (HS.out.2.2.1 w4 hk).2.1; have y0 := aq.cell 0; have y1 := aq.cell 1; have y2 := aq.cell 2; have y3 := aq.cell 3; have yl := aq.lt; simp only [List.getElem?_toArray, List.getElem?_cons_succ, List.getElem?_cons_zero] at y0 y1 y2 y3; have hcB := HS.out.1 w4 hk; have K4 := Lib.hid hk; clear hk hcA aq)
    | (go_at_call 21; refine hcB.mono ?_; rintro e w5 ⟨rfl, hk⟩; have k5 := K4.out.trans hk (fun _ _ x => x); have aq := (HS.out.2.2.1 w5 k5).2.2; have z0 := aq.cell 0; have z1 := aq.cell 1; have z2 := aq.cell 2; have z3 := aq.cell 3; have zl := aq.lt; simp only [List.getElem?_toArray, List.getElem?_cons_succ, List.getElem?_cons_zero] at z0 z1 z2 z3; have hcU := HS.out.2.1 w5 k5; have K5 := Lib.hid k5; clear hk k5 hcB aq)
    | (go_at_call 21; refine hcU.mono ?_; rintro e w6 ⟨rfl, hk⟩; have K6 := Lib.hid (K5.out.trans hk (fun _ _ x => x)); clear hk hcU))
  go_ret
  exact ⟨rfl, HS.out.2.2.2.trans K6.out (fun _ _ x => x)⟩
end Go.Proofs.YtomhhpjpmlpijaaDoor
