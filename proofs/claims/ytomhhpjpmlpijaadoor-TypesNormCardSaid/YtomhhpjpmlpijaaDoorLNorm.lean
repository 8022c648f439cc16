/-
  Walk: graduslaw03.TypesNorm. Conditions: the table strings.asciiSpace lies as the program lays it.
-/
import Derived.Test.YtomhhpjpmlpijaaDoorWAwake
import Derived.Test.YtomhhpjpmlpijaaDoorWRNormF
import Derived.Test.YtomhhpjpmlpijaaDoorNf
namespace Go.Proofs.YtomhhpjpmlpijaaDoor
open Go.RowKit

set_option maxRecDepth 100000 in
set_option maxHeartbeats 16000000 in
theorem norm_law {W : World} {r : Tv} {t : Ty} (hT : Tab W) (h : TyV W nX r t) :
    Calls Tryd.prog 3 #[r.val] W fun e w' => e = .returned (.bool true) ∧ Keep (fun _ => False) W w' := by
  obtain ⟨k, nm, An, nn, cn, Ak, nk, ck⟩ := r
  have kw : Keep (fun _ => False) W (W.alloc (.cells #[.int .i64 k, .string nm, .slice An nn cn, .slice Ak nk ck] 25)) := (Keep.refl _ W).alloc _
  have a0 : At (W.alloc (.cells #[.int .i64 k, .string nm, .slice An nn cn, .slice Ak nk ck] 25)) W.heap.size 25 #[.int .i64 k, .string nm, .slice An nn cn, .slice Ak nk ck] := At.new _ _ _
  have haw := awake_any (hT.step kw)
  have H := Lib.hid (And.intro kw (And.intro a0 (And.intro (h.step kw) (hT.step kw))))
  clear h hT kw a0
  unfold Tv.val
  simp only
  go_enter Tryd.func3, Tryd.ntmps3
  go_upto_region 1 with fail
  generalize (W.alloc (.cells #[.int .i64 k, .string nm, .slice An nn cn, .slice Ak nk ck] 25)) = w1 at *
  generalize W.heap.size = bx at *
  have HM : Hid (∀ w', Keep (fun _ => False) w1 w' → Calls Tryd.prog 12 #[.agg #[.int .i64 k, .string nm, .slice An nn cn, .slice Ak nk ck], .int .i64 (2000 : Int)] w' fun e w'' => ∃ z : Nat, e = .returned (.int .i64 z) ∧ Keep (fun _ => False) w' w'') := fun w' hk => (small_any t w' ⟨k, nm, An, nn, cn, Ak, nk, ck⟩ 2000 (by omega) (by omega) (H.out.2.2.1.step hk)).mono fun e w'' ⟨z, a, _, b, c⟩ => ⟨z, a, c⟩
  have HC : Hid (∀ w', Keep (fun _ => False) w1 w' → bx < w'.heap.size ∧ w'.cell? ⟨bx, 0, none⟩ = some (.int .i64 k) ∧ w'.cell? ⟨bx, 1, none⟩ = some (.string nm) ∧ w'.cell? ⟨bx, 2, none⟩ = some (.slice An nn cn) ∧ w'.cell? ⟨bx, 3, none⟩ = some (.slice Ak nk ck)) := fun w' hk => (hk.at_ H.out.2.1 (fun x => x)).tcells
  have HN : Hid (∀ w', Keep (fun _ => False) w1 w' → Calls Tryd.prog 13 #[.agg #[.int .i64 k, .string nm, .slice An nn cn, .slice Ak nk ck]] w' fun e w'' => NormP nX (NormT t) e w'' ∧ Keep (fun _ => False) w' w'') := fun w' hk => Norm_any (r := ⟨k, nm, An, nn, cn, Ak, nk, ck⟩) (fun _ h => h.elim) (H.out.2.2.2.step hk) (H.out.2.2.1.step hk)
  have HRN : Hid (∀ w', Keep (fun _ => False) w1 w' → Calls Tryd.prog 14 #[.agg #[.int .i64 k, .string nm, .slice An nn cn, .slice Ak nk ck]] w' fun e w'' => NormP nX (NormT t) e w'' ∧ Keep (fun _ => False) w' w'') := fun w' hk => rNorm_any (r := ⟨k, nm, An, nn, cn, Ak, nk, ck⟩) (fun _ h => h.elim) (H.out.2.2.1.step hk)
  cases hno : NormT t with
  | none =>
    rw [hno] at HN HRN
    clear hno
    have HS0 : Hid (∀ w', Calls Tryd.prog 15 #[.agg #[.int .i64 0, .string ⟨#[]⟩, .slice none 0 0, .slice none 0 0], .agg #[.int .i64 0, .string ⟨#[]⟩, .slice none 0 0, .slice none 0 0]] w' fun e w'' => e = .returned (.bool true) ∧ Keep (fun _ => False) w' w'') := fun w' => by
      have := rSame_any ty0 ty0 w' tv0 tv0 (TyV.zero w' nX) (TyV.zero w' nX)
      rw [sameT_refl] at this
      exact this
    go_wp2_with (first
        | (go_at_call 11; refine haw.mono ?_; rintro e w2 ⟨rfl, hk⟩; obtain ⟨xl, x0, x1, x2, x3⟩ := HC.out w2 hk; have hm := HM.out w2 hk; have K2 := Lib.hid hk; clear hk haw)
        | (go_at_call 12; refine hm.mono ?_; rintro e w3 ⟨z, rfl, hk⟩; have k3 := K2.out.trans hk (fun _ _ x => x); clear xl x0 x1 x2 x3; obtain ⟨xl, x0, x1, x2, x3⟩ := HC.out w3 k3; have hn := HN.out w3 k3; have K3 := Lib.hid k3; clear hk hm k3)
        | (go_at_call 13; refine hn.mono ?_; rintro e w4 ⟨he, hk⟩; unfold NormP at he; simp only [Tv.val, tv0] at he; subst he; have k4 := K3.out.trans hk (fun _ _ x => x); clear xl x0 x1 x2 x3; obtain ⟨xl, x0, x1, x2, x3⟩ := HC.out w4 k4; have hr := HRN.out (w4.alloc (.cells #[.int .i64 0, .string ⟨#[]⟩, .slice none 0 0, .slice none 0 0] 25)) (k4.alloc _); have K4 := Lib.hid k4; clear hk hn k4)
        | (go_at_call 14; refine hr.mono ?_; rintro e w5 ⟨he, hk⟩; unfold NormP at he; simp only [Tv.val, tv0] at he; subst he; obtain ⟨yl, y0, y1, y2, y3⟩ := (hk.at_ (At.new w4 25 #[.int .i64 0, .string ⟨#[]⟩, .slice none 0 0, .slice none 0 0]) (fun x => x)).tcells; have hs := HS0.out (w5.alloc (.cells #[.int .i64 0, .string ⟨#[]⟩, .slice none 0 0, .slice none 0 0] 25)); have K5 := Lib.hid hk; clear hk hr)
        | (go_at_call 15; refine hs.mono ?_; rintro e w6 ⟨rfl, hk⟩; have K6 := Lib.hid hk; clear hk hs))
    all_goals go_ret
    all_goals first
      | exact ⟨rfl, (((H.out.1.trans K4.out (fun _ _ x => x)).alloc _).trans (K5.out.alloc _) (fun _ _ x => x)).trans K6.out (fun _ _ x => x)⟩
      | exact ⟨rfl, H.out.1.trans K3.out (fun _ _ x => x)⟩
  | some n =>
    rw [hno] at HN HRN
    have HF := Lib.hid (NormT_again hno)
    clear hno
    go_wp2_with (first
        | (go_at_call 11; refine haw.mono ?_; rintro e w2 ⟨rfl, hk⟩; obtain ⟨xl, x0, x1, x2, x3⟩ := HC.out w2 hk; have hm := HM.out w2 hk; have K2 := Lib.hid hk; clear hk haw)
        | (go_at_call 12; refine hm.mono ?_; rintro e w3 ⟨z, rfl, hk⟩; have k3 := K2.out.trans hk (fun _ _ x => x); clear xl x0 x1 x2 x3; obtain ⟨xl, x0, x1, x2, x3⟩ := HC.out w3 k3; have hn := HN.out w3 k3; have K3 := Lib.hid k3; clear hk hm k3)
        | (go_at_call 13; refine hn.mono ?_; rintro e w4 ⟨⟨⟨pk, pnm, pAn, pnn, pcn, pAk, pnk, pck⟩, he, htp⟩, hk⟩; simp only [Tv.val] at he; subst he; have k4 := K3.out.trans hk (fun _ _ x => x); clear xl x0 x1 x2 x3; obtain ⟨xl, x0, x1, x2, x3⟩ := HC.out w4 k4; have hr := HRN.out (w4.alloc (.cells #[.int .i64 pk, .string pnm, .slice pAn pnn pcn, .slice pAk pnk pck] 25)) (k4.alloc _); have K4 := Lib.hid (And.intro k4 htp); clear hk hn k4 htp)
        | (go_at_call 14; refine hr.mono ?_; rintro e w5 ⟨⟨⟨qk, qnm, qAn, qnn, qcn, qAk, qnk, qck⟩, he, htq⟩, hk⟩; simp only [Tv.val] at he; subst he; clear xl x0 x1 x2 x3; obtain ⟨yl, y0, y1, y2, y3⟩ := (hk.at_ (At.new w4 25 #[.int .i64 pk, .string pnm, .slice pAn pnn pcn, .slice pAk pnk pck]) (fun x => x)).tcells; have hs := rSame_any n n (w5.alloc (.cells #[.int .i64 qk, .string qnm, .slice qAn qnn qcn, .slice qAk qnk qck] 25)) ⟨pk, pnm, pAn, pnn, pcn, pAk, pnk, pck⟩ ⟨qk, qnm, qAn, qnn, qcn, qAk, qnk, qck⟩ (K4.out.2.step (((Keep.refl _ w4).alloc (.cells #[.int .i64 pk, .string pnm, .slice pAn pnn pcn, .slice pAk pnk pck] 25)).trans (hk.alloc _) (fun _ _ x => x))) (htq.step ((Keep.refl _ w5).alloc _)); rw [sameT_refl] at hs; unfold Tv.val at hs; simp only at hs; have K5 := Lib.hid (And.intro hk htq); clear hk hr htq)
        | (go_at_call 15; refine hs.mono ?_; rintro e w6 ⟨rfl, hk⟩; clear yl y0 y1 y2 y3; obtain ⟨yl, y0, y1, y2, y3⟩ := (((K5.out.1.alloc (.cells #[.int .i64 qk, .string qnm, .slice qAn qnn qcn, .slice qAk qnk qck] 25)).trans hk (fun _ _ x => x)).at_ (At.new w4 25 #[.int .i64 pk, .string pnm, .slice pAn pnn pcn, .slice pAk pnk pck]) (fun x => x)).tcells; have hm2 := Norm_any (r := ⟨pk, pnm, pAn, pnn, pcn, pAk, pnk, pck⟩) (fun _ h => h.elim) (H.out.2.2.2.step ((K4.out.1.alloc (.cells #[.int .i64 pk, .string pnm, .slice pAn pnn pcn, .slice pAk pnk pck] 25)).trans ((K5.out.1.alloc (.cells #[.int .i64 qk, .string qnm, .slice qAn qnn qcn, .slice qAk qnk qck] 25)).trans hk (fun _ _ x => x)) (fun _ _ x => x))) (K4.out.2.step (((Keep.refl _ w4).alloc (.cells #[.int .i64 pk, .string pnm, .slice pAn pnn pcn, .slice pAk pnk pck] 25)).trans ((K5.out.1.alloc (.cells #[.int .i64 qk, .string qnm, .slice qAn qnn qcn, .slice qAk qnk qck] 25)).trans hk (fun _ _ x => x)) (fun _ _ x => x))); rw [HF.out] at hm2; unfold Tv.val at hm2; simp only at hm2; have K6 := Lib.hid hk; clear hk hs)
        | (go_at_call 13; refine hm2.mono ?_; rintro e w7 ⟨⟨⟨gk, gnm, gAn, gnn, gcn, gAk, gnk, gck⟩, he, htg⟩, hk⟩; simp only [Tv.val] at he; subst he; have hk6 := (K5.out.1.alloc (.cells #[.int .i64 qk, .string qnm, .slice qAn qnn qcn, .slice qAk qnk qck] 25)).trans (K6.out.trans hk (fun _ _ x => x)) (fun _ _ x => x); clear yl y0 y1 y2 y3; obtain ⟨yl, y0, y1, y2, y3⟩ := (hk6.at_ (At.new w4 25 #[.int .i64 pk, .string pnm, .slice pAn pnn pcn, .slice pAk pnk pck]) (fun x => x)).tcells; have hs2 := rSame_any n n (w7.alloc (.cells #[.int .i64 gk, .string gnm, .slice gAn gnn gcn, .slice gAk gnk gck] 25)) ⟨gk, gnm, gAn, gnn, gcn, gAk, gnk, gck⟩ ⟨pk, pnm, pAn, pnn, pcn, pAk, pnk, pck⟩ (htg.step ((Keep.refl _ w7).alloc _)) (K4.out.2.step (((Keep.refl _ w4).alloc (.cells #[.int .i64 pk, .string pnm, .slice pAn pnn pcn, .slice pAk pnk pck] 25)).trans (hk6.alloc _) (fun _ _ x => x))); rw [sameT_refl] at hs2; unfold Tv.val at hs2; simp only at hs2; have K7 := Lib.hid hk6; clear hk hm2 htg hk6)
        | (go_at_call 15; refine hs2.mono ?_; rintro e w8 ⟨rfl, hk⟩; have K8 := Lib.hid hk; clear hk hs2))
    all_goals go_ret
    all_goals first
      | exact ⟨rfl, (((H.out.1.trans K4.out.1 (fun _ _ x => x)).alloc _).trans (K7.out.alloc _) (fun _ _ x => x)).trans K8.out (fun _ _ x => x)⟩
      | exact ⟨rfl, H.out.1.trans K3.out (fun _ _ x => x)⟩
end Go.Proofs.YtomhhpjpmlpijaaDoor
