/-
  Walk: graduslaw03.TypesMeasure. Conditions: the table strings.asciiSpace lies as the program lays it.
-/
import Derived.Test.YtomhhpjpmlpijaaDoorWAwake
import Derived.Test.YtomhhpjpmlpijaaDoorWRMany
import Derived.Test.YtomhhpjpmlpijaaDoorWRSame
namespace Go.Proofs.YtomhhpjpmlpijaaDoor
open Go.RowKit

set_option maxRecDepth 100000 in
set_option maxHeartbeats 4000000 in
theorem measure_law {W : World} {r : Tv} {t : Ty} (hT : Tab W) (h : TyV W nX r t) :
    Calls Tryd.prog 4 #[r.val] W fun e w' => e = .returned (.bool true) ∧ Keep (fun _ => False) W w' := by
  obtain ⟨k, nm, An, nn, cn, Ak, nk, ck⟩ := r
  have kw : Keep (fun _ => False) W (W.alloc (.cells #[.int .i64 k, .string nm, .slice An nn cn, .slice Ak nk ck] 25)) := (Keep.refl _ W).alloc _
  have a0 : At (W.alloc (.cells #[.int .i64 k, .string nm, .slice An nn cn, .slice Ak nk ck] 25)) W.heap.size 25 #[.int .i64 k, .string nm, .slice An nn cn, .slice Ak nk ck] := At.new _ _ _
  have haw := awake_any (hT.step kw)
  have H := Lib.hid (And.intro kw (And.intro a0 (h.step kw)))
  clear h hT kw a0
  unfold Tv.val
  simp only
  go_enter Tryd.func4, Tryd.ntmps4
  go_upto_region 1 with fail
  generalize (W.alloc (.cells #[.int .i64 k, .string nm, .slice An nn cn, .slice Ak nk ck] 25)) = w1 at *
  generalize W.heap.size = bx at *
  have HM : Hid (∀ w', Keep (fun _ => False) w1 w' → Calls Tryd.prog 12 #[.agg #[.int .i64 k, .string nm, .slice An nn cn, .slice Ak nk ck], .int .i64 (2000 : Int)] w' fun e w'' => ∃ z : Nat, e = .returned (.int .i64 z) ∧ Keep (fun _ => False) w' w'') := fun w' hk => (small_any t w' ⟨k, nm, An, nn, cn, Ak, nk, ck⟩ 2000 (by omega) (by omega) (H.out.2.2.step hk)).mono fun e w'' ⟨z, a, _, _, b⟩ => ⟨z, a, b⟩
  have HS1 : Hid (∀ w', Keep (fun _ => False) w1 w' → Calls Tryd.prog 16 #[.agg #[.int .i64 k, .string nm, .slice An nn cn, .slice Ak nk ck]] w' fun e w'' => e = .returned (.int .i64 (min t.size 201 : Nat)) ∧ Keep (fun _ => False) w' w'') := fun w' hk => size_any t w' ⟨k, nm, An, nn, cn, Ak, nk, ck⟩ (H.out.2.2.step hk)
  have HS2 : Hid (∀ w', Keep (fun _ => False) w1 w' → Calls Tryd.prog 17 #[.agg #[.int .i64 k, .string nm, .slice An nn cn, .slice Ak nk ck]] w' fun e w'' => e = .returned (.int .i64 (min t.size 201 : Nat)) ∧ Keep (fun _ => False) w' w'') := fun w' hk => rSize_any (r := ⟨k, nm, An, nn, cn, Ak, nk, ck⟩) (H.out.2.2.step hk)
  have HH1 : Hid (∀ w', Keep (fun _ => False) w1 w' → Calls Tryd.prog 18 #[.agg #[.int .i64 k, .string nm, .slice An nn cn, .slice Ak nk ck]] w' fun e w'' => e = .returned (.int .i64 (min t.ht 17 : Nat)) ∧ Keep (fun _ => False) w' w'') := fun w' hk => Height_any (r := ⟨k, nm, An, nn, cn, Ak, nk, ck⟩) (H.out.2.2.step hk)
  have HH2 : Hid (∀ w', Keep (fun _ => False) w1 w' → Calls Tryd.prog 19 #[.agg #[.int .i64 k, .string nm, .slice An nn cn, .slice Ak nk ck]] w' fun e w'' => e = .returned (.int .i64 (min t.ht 17 : Nat)) ∧ Keep (fun _ => False) w' w'') := fun w' hk => rHeight_any (r := ⟨k, nm, An, nn, cn, Ak, nk, ck⟩) (H.out.2.2.step hk)
  have HC : Hid (∀ w', Keep (fun _ => False) w1 w' → bx < w'.heap.size ∧ w'.cell? ⟨bx, 0, none⟩ = some (.int .i64 k) ∧ w'.cell? ⟨bx, 1, none⟩ = some (.string nm) ∧ w'.cell? ⟨bx, 2, none⟩ = some (.slice An nn cn) ∧ w'.cell? ⟨bx, 3, none⟩ = some (.slice Ak nk ck)) := fun w' hk => (hk.at_ H.out.2.1 (fun x => x)).tcells
  generalize min t.size 201 = sz at *
  generalize min t.ht 17 = ht at *
  have d1 : ((sz : Int) == (sz : Int)) = true := by simp
  have d2 : ((ht : Int) == (ht : Int)) = true := by simp
  go_wp2_with (first | (go_at_call 11; refine haw.mono ?_; rintro e w2 ⟨rfl, hk⟩; obtain ⟨xl, x0, x1, x2, x3⟩ := HC.out w2 hk; have hm := HM.out w2 hk; have K2 := Lib.hid hk; clear hk haw) | (go_at_call 12; (refine hm.mono ?_; rintro e w3 ⟨z, rfl, hk⟩; have k3 := K2.out.trans hk (fun _ _ x => x); have hsx := HC.out w3.drew k3.drew; have KK := Lib.hid k3.drew; have K3 := Lib.hid k3; clear hk hm k3 xl x0 x1 x2 x3)))
  · go_ret
    exact ⟨rfl, H.out.1.trans K3.out (fun _ _ x => x)⟩
  · go_region_held3 (fun w' => bx < w'.heap.size ∧ w'.cell? ⟨bx, 0, none⟩ = some (.int .i64 k) ∧ w'.cell? ⟨bx, 1, none⟩ = some (.string nm) ∧ w'.cell? ⟨bx, 2, none⟩ = some (.slice An nn cn) ∧ w'.cell? ⟨bx, 3, none⟩ = some (.slice Ak nk ck))
      (first | exact HC.out _ KK.out | exact HC.out _ K3.out)
      (first
        | (go_at_call 16; refine (HS1.out _ KK.out).mono ?_; rintro e w' ⟨rfl, hk⟩; have k3 := KK.out.trans hk (fun _ _ x => x); clear KK; have KK := Lib.hid k3; clear hk k3)
        | (go_at_call 17; refine (HS2.out _ KK.out).mono ?_; rintro e w' ⟨rfl, hk⟩; have k3 := KK.out.trans hk (fun _ _ x => x); clear KK; have KK := Lib.hid k3; clear hk k3)
        | (go_at_call 18; refine (HH1.out _ KK.out).mono ?_; rintro e w' ⟨rfl, hk⟩; have k3 := KK.out.trans hk (fun _ _ x => x); clear KK; have KK := Lib.hid k3; clear hk k3)
        | (go_at_call 19; refine (HH2.out _ KK.out).mono ?_; rintro e w' ⟨rfl, hk⟩; have k3 := KK.out.trans hk (fun _ _ x => x); clear KK; have KK := Lib.hid k3; clear hk k3))
    all_goals
      go_wp2_with fail
      go_ret
      exact ⟨rfl, H.out.1.trans KK.out (fun _ _ x => x)⟩
end Go.Proofs.YtomhhpjpmlpijaaDoor
