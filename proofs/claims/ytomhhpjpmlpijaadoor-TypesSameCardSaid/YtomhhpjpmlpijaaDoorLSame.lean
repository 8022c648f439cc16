/-
  Walk: graduslaw03.TypesSame. Conditions: the table strings.asciiSpace lies as the program lays it.
-/
import Derived.Test.YtomhhpjpmlpijaaDoorWAwake
import Derived.Test.YtomhhpjpmlpijaaDoorWRSame
namespace Go.Proofs.YtomhhpjpmlpijaaDoor
open Go.RowKit

set_option maxRecDepth 100000 in
set_option maxHeartbeats 4000000 in
theorem same_law {W : World} {r r' : Tv} {a b : Ty} (hT : Tab W) (h : TyV W nX r a) (h' : TyV W nX r' b) :
    Calls Tryd.prog 5 #[r.val, r'.val] W fun e w' => e = .returned (.bool true) ∧ Keep (fun _ => False) W w' := by
  obtain ⟨k, nm, An, nn, cn, Ak, nk, ck⟩ := r
  obtain ⟨k', nm', An', nn', cn', Ak', nk', ck'⟩ := r'
  have kw : Keep (fun _ => False) W ((W.alloc (.cells #[.int .i64 k, .string nm, .slice An nn cn, .slice Ak nk ck] 25)).alloc (.cells #[.int .i64 k', .string nm', .slice An' nn' cn', .slice Ak' nk' ck'] 25)) := ((Keep.refl _ W).alloc _).alloc _
  have a0 : At ((W.alloc (.cells #[.int .i64 k, .string nm, .slice An nn cn, .slice Ak nk ck] 25)).alloc (.cells #[.int .i64 k', .string nm', .slice An' nn' cn', .slice Ak' nk' ck'] 25)) W.heap.size 25 #[.int .i64 k, .string nm, .slice An nn cn, .slice Ak nk ck] := (At.new _ _ _).alloc _
  have b0 : At ((W.alloc (.cells #[.int .i64 k, .string nm, .slice An nn cn, .slice Ak nk ck] 25)).alloc (.cells #[.int .i64 k', .string nm', .slice An' nn' cn', .slice Ak' nk' ck'] 25)) (W.heap.size + 1) 25 #[.int .i64 k', .string nm', .slice An' nn' cn', .slice Ak' nk' ck'] := At.new_at (by simp)
  have haw := awake_any (hT.step kw)
  have H := Lib.hid (And.intro kw (And.intro a0 (And.intro b0 (And.intro (h.step kw) (h'.step kw)))))
  clear h h' hT kw a0 b0
  unfold Tv.val
  simp only
  go_enter Tryd.func5, Tryd.ntmps5
  go_upto_region 1 with fail
  generalize ((W.alloc (.cells #[.int .i64 k, .string nm, .slice An nn cn, .slice Ak nk ck] 25)).alloc (.cells #[.int .i64 k', .string nm', .slice An' nn' cn', .slice Ak' nk' ck'] 25)) = w1 at *
  generalize W.heap.size = bx at *
  generalize bx + 1 = by_ at *
  have HM : Hid (∀ w', Keep (fun _ => False) w1 w' → Calls Tryd.prog 12 #[.agg #[.int .i64 k, .string nm, .slice An nn cn, .slice Ak nk ck], .int .i64 (2000 : Int)] w' fun e w'' => ∃ z : Nat, e = .returned (.int .i64 z) ∧ Keep (fun _ => False) w' w'') := fun w' hk => (small_any a w' ⟨k, nm, An, nn, cn, Ak, nk, ck⟩ 2000 (by omega) (by omega) (H.out.2.2.2.1.step hk)).mono fun e w'' ⟨z, a, _, _, b⟩ => ⟨z, a, b⟩
  have HM2 : Hid (∀ w', Keep (fun _ => False) w1 w' → Calls Tryd.prog 12 #[.agg #[.int .i64 k', .string nm', .slice An' nn' cn', .slice Ak' nk' ck'], .int .i64 (2000 : Int)] w' fun e w'' => ∃ z : Nat, e = .returned (.int .i64 z) ∧ Keep (fun _ => False) w' w'') := fun w' hk => (small_any b w' ⟨k', nm', An', nn', cn', Ak', nk', ck'⟩ 2000 (by omega) (by omega) (H.out.2.2.2.2.step hk)).mono fun e w'' ⟨z, a, _, _, b⟩ => ⟨z, a, b⟩
  have HS1 : Hid (∀ w', Keep (fun _ => False) w1 w' → Calls Tryd.prog 20 #[.agg #[.int .i64 k, .string nm, .slice An nn cn, .slice Ak nk ck], .agg #[.int .i64 k', .string nm', .slice An' nn' cn', .slice Ak' nk' ck']] w' fun e w'' => e = .returned (.bool (sameT a b)) ∧ Keep (fun _ => False) w' w'') := fun w' hk => same_any a b w' ⟨k, nm, An, nn, cn, Ak, nk, ck⟩ ⟨k', nm', An', nn', cn', Ak', nk', ck'⟩ (H.out.2.2.2.1.step hk) (H.out.2.2.2.2.step hk)
  have HS2 : Hid (∀ w', Keep (fun _ => False) w1 w' → Calls Tryd.prog 20 #[.agg #[.int .i64 k', .string nm', .slice An' nn' cn', .slice Ak' nk' ck'], .agg #[.int .i64 k, .string nm, .slice An nn cn, .slice Ak nk ck]] w' fun e w'' => e = .returned (.bool (sameT a b)) ∧ Keep (fun _ => False) w' w'') := fun w' hk => by
    rw [sameT_comm a b]
    exact same_any b a w' ⟨k', nm', An', nn', cn', Ak', nk', ck'⟩ ⟨k, nm, An, nn, cn, Ak, nk, ck⟩ (H.out.2.2.2.2.step hk) (H.out.2.2.2.1.step hk)
  have HS3 : Hid (∀ w', Keep (fun _ => False) w1 w' → Calls Tryd.prog 15 #[.agg #[.int .i64 k, .string nm, .slice An nn cn, .slice Ak nk ck], .agg #[.int .i64 k', .string nm', .slice An' nn' cn', .slice Ak' nk' ck']] w' fun e w'' => e = .returned (.bool (sameT a b)) ∧ Keep (fun _ => False) w' w'') := fun w' hk => rSame_any a b w' ⟨k, nm, An, nn, cn, Ak, nk, ck⟩ ⟨k', nm', An', nn', cn', Ak', nk', ck'⟩ (H.out.2.2.2.1.step hk) (H.out.2.2.2.2.step hk)
  have HS4 : Hid (∀ w', Keep (fun _ => False) w1 w' → Calls Tryd.prog 20 #[.agg #[.int .i64 k, .string nm, .slice An nn cn, .slice Ak nk ck], .agg #[.int .i64 k, .string nm, .slice An nn cn, .slice Ak nk ck]] w' fun e w'' => e = .returned (.bool true) ∧ Keep (fun _ => False) w' w'') := fun w' hk => by
    have := same_any a a w' ⟨k, nm, An, nn, cn, Ak, nk, ck⟩ ⟨k, nm, An, nn, cn, Ak, nk, ck⟩ (H.out.2.2.2.1.step hk) (H.out.2.2.2.1.step hk)
    rw [sameT_refl] at this
    exact this
  have HC : Hid (∀ w', Keep (fun _ => False) w1 w' → (bx < w'.heap.size ∧ w'.cell? ⟨bx, 0, none⟩ = some (.int .i64 k) ∧ w'.cell? ⟨bx, 1, none⟩ = some (.string nm) ∧ w'.cell? ⟨bx, 2, none⟩ = some (.slice An nn cn) ∧ w'.cell? ⟨bx, 3, none⟩ = some (.slice Ak nk ck)) ∧ (by_ < w'.heap.size ∧ w'.cell? ⟨by_, 0, none⟩ = some (.int .i64 k') ∧ w'.cell? ⟨by_, 1, none⟩ = some (.string nm') ∧ w'.cell? ⟨by_, 2, none⟩ = some (.slice An' nn' cn') ∧ w'.cell? ⟨by_, 3, none⟩ = some (.slice Ak' nk' ck'))) := fun w' hk => ⟨(hk.at_ H.out.2.1 (fun x => x)).tcells, (hk.at_ H.out.2.2.1 (fun x => x)).tcells⟩
  cases hsx : sameT a b
  all_goals
    rw [hsx] at HS1 HS2 HS3
    clear hsx
    go_wp2_with (first
      | (go_at_call 11; refine haw.mono ?_; rintro e w2 ⟨rfl, hk⟩; obtain ⟨⟨xl, x0, x1, x2, x3⟩, ⟨yl, y0, y1, y2, y3⟩⟩ := HC.out w2 hk; have hm := HM.out w2 hk; have K2 := Lib.hid hk; clear hk haw)
      | (go_at_call 12; refine hm.mono ?_; rintro e w3 ⟨z, rfl, hk⟩; have k3 := K2.out.trans hk (fun _ _ x => x); clear xl x0 x1 x2 x3 yl y0 y1 y2 y3; obtain ⟨⟨xl, x0, x1, x2, x3⟩, ⟨yl, y0, y1, y2, y3⟩⟩ := HC.out w3 k3; have hm2 := HM2.out w3 k3; have K3 := Lib.hid k3; clear hk hm k3)
      | (go_at_call 12; refine hm2.mono ?_; rintro e w4 ⟨z2, rfl, hk⟩; have k3 := K3.out.trans hk (fun _ _ x => x); clear xl x0 x1 x2 x3 yl y0 y1 y2 y3; obtain ⟨⟨xl, x0, x1, x2, x3⟩, ⟨yl, y0, y1, y2, y3⟩⟩ := HC.out w4 k3; have hs1 := HS1.out w4 k3; have K4 := Lib.hid k3; clear hk hm2 k3)
      | (go_at_call 20; refine hs1.mono ?_; rintro e w5 ⟨rfl, hk⟩; have k3 := K4.out.trans hk (fun _ _ x => x); clear xl x0 x1 x2 x3 yl y0 y1 y2 y3; obtain ⟨⟨xl, x0, x1, x2, x3⟩, ⟨yl, y0, y1, y2, y3⟩⟩ := HC.out w5 k3; have hs2 := HS2.out w5 k3; have K5 := Lib.hid k3; clear hk hs1 k3)
      | (go_at_call 20; refine hs2.mono ?_; rintro e w6 ⟨rfl, hk⟩; have k3 := K5.out.trans hk (fun _ _ x => x); clear xl x0 x1 x2 x3 yl y0 y1 y2 y3; obtain ⟨⟨xl, x0, x1, x2, x3⟩, ⟨yl, y0, y1, y2, y3⟩⟩ := HC.out w6 k3; have hs3 := HS3.out w6 k3; have K6 := Lib.hid k3; clear hk hs2 k3)
      | (go_at_call 15; refine hs3.mono ?_; rintro e w7 ⟨rfl, hk⟩; have k3 := K6.out.trans hk (fun _ _ x => x); clear xl x0 x1 x2 x3 yl y0 y1 y2 y3; obtain ⟨⟨xl, x0, x1, x2, x3⟩, ⟨yl, y0, y1, y2, y3⟩⟩ := HC.out w7 k3; have hs4 := HS4.out w7 k3; have K7 := Lib.hid k3; clear hk hs3 k3)
      | (go_at_call 20; refine hs4.mono ?_; rintro e w8 ⟨rfl, hk⟩; have K8 := Lib.hid (K7.out.trans hk (fun _ _ x => x)); clear hk hs4))
    all_goals go_ret
    all_goals first
      | exact ⟨rfl, H.out.1.trans K8.out (fun _ _ x => x)⟩
      | exact ⟨rfl, H.out.1.trans K4.out (fun _ _ x => x)⟩
      | exact ⟨rfl, H.out.1.trans K3.out (fun _ _ x => x)⟩
end Go.Proofs.YtomhhpjpmlpijaaDoor
