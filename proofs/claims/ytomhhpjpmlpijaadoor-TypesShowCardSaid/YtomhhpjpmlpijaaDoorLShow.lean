/-
  Walk: graduslaw03.TypesShow. Conditions: the table strings.asciiSpace lies as the program lays it.
-/
import Derived.Test.YtomhhpjpmlpijaaDoorWAwake
import Derived.Test.YtomhhpjpmlpijaaDoorWRShowF
import Derived.Test.YtomhhpjpmlpijaaDoorInj
namespace Go.Proofs.YtomhhpjpmlpijaaDoor
open Go.RowKit

set_option maxRecDepth 100000 in
set_option maxHeartbeats 4000000 in
theorem show_law {W : World} {r r' : Tv} {a b : Ty} (hT : Tab W) (h : TyV W nX r a) (h' : TyV W nX r' b) :
    Calls Tryd.prog 6 #[r.val, r'.val] W fun e w' => e = .returned (.bool true) ∧ Keep (fun _ => False) W w' := by
  obtain ⟨k, nm, An, nn, cn, Ak, nk, ck⟩ := r
  obtain ⟨k', nm', An', nn', cn', Ak', nk', ck'⟩ := r'
  have kw : Keep (fun _ => False) W ((W.alloc (.cells #[.int .i64 k, .string nm, .slice An nn cn, .slice Ak nk ck] 25)).alloc (.cells #[.int .i64 k', .string nm', .slice An' nn' cn', .slice Ak' nk' ck'] 25)) := ((Keep.refl _ W).alloc _).alloc _
  have a0 : At ((W.alloc (.cells #[.int .i64 k, .string nm, .slice An nn cn, .slice Ak nk ck] 25)).alloc (.cells #[.int .i64 k', .string nm', .slice An' nn' cn', .slice Ak' nk' ck'] 25)) W.heap.size 25 #[.int .i64 k, .string nm, .slice An nn cn, .slice Ak nk ck] := (At.new _ _ _).alloc _
  have b0 : At ((W.alloc (.cells #[.int .i64 k, .string nm, .slice An nn cn, .slice Ak nk ck] 25)).alloc (.cells #[.int .i64 k', .string nm', .slice An' nn' cn', .slice Ak' nk' ck'] 25)) (W.heap.size + 1) 25 #[.int .i64 k', .string nm', .slice An' nn' cn', .slice Ak' nk' ck'] := At.new_at (by simp)
  have haw := awake_any (hT.step kw)
  have H := Lib.hid (And.intro kw (And.intro a0 (And.intro b0 (And.intro (h.step kw) (And.intro (h'.step kw) (hT.step kw))))))
  clear h h' hT kw a0 b0
  unfold Tv.val
  simp only
  go_enter Tryd.func6, Tryd.ntmps6
  go_upto_region 1 with fail
  generalize ((W.alloc (.cells #[.int .i64 k, .string nm, .slice An nn cn, .slice Ak nk ck] 25)).alloc (.cells #[.int .i64 k', .string nm', .slice An' nn' cn', .slice Ak' nk' ck'] 25)) = w1 at *
  generalize W.heap.size = bx at *
  generalize bx + 1 = by_ at *
  have HM : Hid (∀ w', Keep (fun _ => False) w1 w' → Calls Tryd.prog 12 #[.agg #[.int .i64 k, .string nm, .slice An nn cn, .slice Ak nk ck], .int .i64 (2000 : Int)] w' fun e w'' => ∃ z : Nat, e = .returned (.int .i64 z) ∧ Keep (fun _ => False) w' w'') := fun w' hk => (small_any a w' ⟨k, nm, An, nn, cn, Ak, nk, ck⟩ 2000 (by omega) (by omega) (H.out.2.2.2.1.step hk)).mono fun e w'' ⟨z, a, _, _, b⟩ => ⟨z, a, b⟩
  have HM2 : Hid (∀ w', Keep (fun _ => False) w1 w' → Calls Tryd.prog 12 #[.agg #[.int .i64 k', .string nm', .slice An' nn' cn', .slice Ak' nk' ck'], .int .i64 (2000 : Int)] w' fun e w'' => ∃ z : Nat, e = .returned (.int .i64 z) ∧ Keep (fun _ => False) w' w'') := fun w' hk => (small_any b w' ⟨k', nm', An', nn', cn', Ak', nk', ck'⟩ 2000 (by omega) (by omega) (H.out.2.2.2.2.1.step hk)).mono fun e w'' ⟨z, a, _, _, b⟩ => ⟨z, a, b⟩
  have HX1 : Hid (∀ w', Keep (fun _ => False) w1 w' → Calls Tryd.prog 21 #[.agg #[.int .i64 k, .string nm, .slice An nn cn, .slice Ak nk ck]] w' fun e w'' => e = .returned (.string (ShowS a)) ∧ Keep (fun _ => False) w' w'') := fun w' hk => Show_any (X := nX) (r := ⟨k, nm, An, nn, cn, Ak, nk, ck⟩) (fun _ h => h.elim) (H.out.2.2.2.2.2.step hk) (H.out.2.2.2.1.step hk)
  have HX2 : Hid (∀ w', Keep (fun _ => False) w1 w' → Calls Tryd.prog 21 #[.agg #[.int .i64 k', .string nm', .slice An' nn' cn', .slice Ak' nk' ck']] w' fun e w'' => e = .returned (.string (ShowS b)) ∧ Keep (fun _ => False) w' w'') := fun w' hk => Show_any (X := nX) (r := ⟨k', nm', An', nn', cn', Ak', nk', ck'⟩) (fun _ h => h.elim) (H.out.2.2.2.2.2.step hk) (H.out.2.2.2.2.1.step hk)
  have HX3 : Hid (∀ w', Keep (fun _ => False) w1 w' → Calls Tryd.prog 22 #[.agg #[.int .i64 k, .string nm, .slice An nn cn, .slice Ak nk ck]] w' fun e w'' => e = .returned (.string (ShowS a)) ∧ Keep (fun _ => False) w' w'') := fun w' hk => rShow_any (X := nX) (r := ⟨k, nm, An, nn, cn, Ak, nk, ck⟩) (fun _ h => h.elim) (H.out.2.2.2.1.step hk)
  have HX4 : Hid (∀ w', Keep (fun _ => False) w1 w' → Calls Tryd.prog 22 #[.agg #[.int .i64 k', .string nm', .slice An' nn' cn', .slice Ak' nk' ck']] w' fun e w'' => e = .returned (.string (ShowS b)) ∧ Keep (fun _ => False) w' w'') := fun w' hk => rShow_any (X := nX) (r := ⟨k', nm', An', nn', cn', Ak', nk', ck'⟩) (fun _ h => h.elim) (H.out.2.2.2.2.1.step hk)
  have HX5 : Hid (∀ w', Keep (fun _ => False) w1 w' → Calls Tryd.prog 20 #[.agg #[.int .i64 k, .string nm, .slice An nn cn, .slice Ak nk ck], .agg #[.int .i64 k', .string nm', .slice An' nn' cn', .slice Ak' nk' ck']] w' fun e w'' => e = .returned (.bool (sameT a b)) ∧ Keep (fun _ => False) w' w'') := fun w' hk => same_any a b w' ⟨k, nm, An, nn, cn, Ak, nk, ck⟩ ⟨k', nm', An', nn', cn', Ak', nk', ck'⟩ (H.out.2.2.2.1.step hk) (H.out.2.2.2.2.1.step hk)
  have hinj : ShowS a = ShowS b → ShowS a ≠ ⟨#[]⟩ → sameT a b = true := fun h1 h2 => sameT_iff.2 (ShowS_inj h1 h2)
  have HC : Hid (∀ w', Keep (fun _ => False) w1 w' → (bx < w'.heap.size ∧ w'.cell? ⟨bx, 0, none⟩ = some (.int .i64 k) ∧ w'.cell? ⟨bx, 1, none⟩ = some (.string nm) ∧ w'.cell? ⟨bx, 2, none⟩ = some (.slice An nn cn) ∧ w'.cell? ⟨bx, 3, none⟩ = some (.slice Ak nk ck)) ∧ (by_ < w'.heap.size ∧ w'.cell? ⟨by_, 0, none⟩ = some (.int .i64 k') ∧ w'.cell? ⟨by_, 1, none⟩ = some (.string nm') ∧ w'.cell? ⟨by_, 2, none⟩ = some (.slice An' nn' cn') ∧ w'.cell? ⟨by_, 3, none⟩ = some (.slice Ak' nk' ck'))) := fun w' hk => ⟨(hk.at_ H.out.2.1 (fun x => x)).tcells, (hk.at_ H.out.2.2.1 (fun x => x)).tcells⟩
  have HI := Lib.hid hinj
  clear hinj
  generalize ShowS a = xs at *
  generalize ShowS b = ys at *
  generalize sameT a b = sm at *
  have dx : (xs.toList != xs.toList) = false := by simp
  have dy : (ys.toList != ys.toList) = false := by simp
  have ex : (xs.toList == xs.toList) = true := by simp
  have ey : (ys.toList == ys.toList) = true := by simp
  rcases (by
    by_cases h1 : xs = ys
    · by_cases h2 : xs = ⟨#[]⟩
      · exact .inr (.inl ⟨h1, h2⟩)
      · exact .inr (.inr ⟨h1, h2⟩)
    · exact .inl h1 : xs ≠ ys ∨ (xs = ys ∧ xs = ⟨#[]⟩) ∨ (xs = ys ∧ xs ≠ ⟨#[]⟩)) with h1 | ⟨rfl, rfl⟩ | ⟨rfl, h2⟩
  · have d1 := str_bne h1
    have d2 : (xs.toList != ys.toList) = true := by simp [bne, d1]
    clear HI h1
    go_wp2_with (first
      | (go_at_call 11; (with_reducible refine haw.mono ?_); rintro e w2 ⟨rfl, hk⟩; have k3 := hk; obtain ⟨⟨xl, x0, x1, x2, x3⟩, ⟨yl, y0, y1, y2, y3⟩⟩ := HC.out w2 k3; have hm := HM.out w2 k3; have K2 := Lib.hid k3; clear hk haw k3)
      | (go_at_call 12; (with_reducible refine hm.mono ?_); rintro e w3 ⟨z1, rfl, hk⟩; have k3 := K2.out.trans hk (fun _ _ x => x); clear xl x0 x1 x2 x3 yl y0 y1 y2 y3; obtain ⟨⟨xl, x0, x1, x2, x3⟩, ⟨yl, y0, y1, y2, y3⟩⟩ := HC.out w3 k3; have hm2 := HM2.out w3 k3; have K3 := Lib.hid k3; clear hk hm k3)
      | (go_at_call 12; (with_reducible refine hm2.mono ?_); rintro e w4 ⟨z2, rfl, hk⟩; have k3 := K3.out.trans hk (fun _ _ x => x); clear xl x0 x1 x2 x3 yl y0 y1 y2 y3; obtain ⟨⟨xl, x0, x1, x2, x3⟩, ⟨yl, y0, y1, y2, y3⟩⟩ := HC.out w4 k3; have hx1 := HX1.out w4 k3; have K4 := Lib.hid k3; clear hk hm2 k3)
      | (go_at_call 21; (with_reducible refine hx1.mono ?_); rintro e w5 ⟨rfl, hk⟩; have k3 := K4.out.trans hk (fun _ _ x => x); clear xl x0 x1 x2 x3 yl y0 y1 y2 y3; obtain ⟨⟨xl, x0, x1, x2, x3⟩, ⟨yl, y0, y1, y2, y3⟩⟩ := HC.out w5 k3; have hx2 := HX2.out w5 k3; have K5 := Lib.hid k3; clear hk hx1 k3)
      | (go_at_call 21; (with_reducible refine hx2.mono ?_); rintro e w6 ⟨rfl, hk⟩; have k3 := K5.out.trans hk (fun _ _ x => x); clear xl x0 x1 x2 x3 yl y0 y1 y2 y3; obtain ⟨⟨xl, x0, x1, x2, x3⟩, ⟨yl, y0, y1, y2, y3⟩⟩ := HC.out w6 k3; have hx3 := HX3.out w6 k3; have K6 := Lib.hid k3; clear hk hx2 k3)
      | (go_at_call 22; (with_reducible refine hx3.mono ?_); rintro e w7 ⟨rfl, hk⟩; have k3 := K6.out.trans hk (fun _ _ x => x); clear xl x0 x1 x2 x3 yl y0 y1 y2 y3; obtain ⟨⟨xl, x0, x1, x2, x3⟩, ⟨yl, y0, y1, y2, y3⟩⟩ := HC.out w7 k3; have hx4 := HX4.out w7 k3; have K7 := Lib.hid k3; clear hk hx3 k3)
      | (go_at_call 22; (with_reducible refine hx4.mono ?_); rintro e w8 ⟨rfl, hk⟩; have k3 := K7.out.trans hk (fun _ _ x => x); clear xl x0 x1 x2 x3 yl y0 y1 y2 y3; obtain ⟨⟨xl, x0, x1, x2, x3⟩, ⟨yl, y0, y1, y2, y3⟩⟩ := HC.out w8 k3; have hx5 := HX5.out w8 k3; have K8 := Lib.hid k3; clear hk hx4 k3)
      | (go_at_call 20; (with_reducible refine hx5.mono ?_); rintro e w9 ⟨rfl, hk⟩; have k3 := K8.out.trans hk (fun _ _ x => x); clear xl x0 x1 x2 x3 yl y0 y1 y2 y3; obtain ⟨⟨xl, x0, x1, x2, x3⟩, ⟨yl, y0, y1, y2, y3⟩⟩ := HC.out w9 k3; have K9 := Lib.hid k3; clear hk hx5 k3))
    all_goals go_ret
    all_goals first
      | exact ⟨rfl, H.out.1.trans K9.out (fun _ _ x => x)⟩
      | exact ⟨rfl, H.out.1.trans K8.out (fun _ _ x => x)⟩
      | exact ⟨rfl, H.out.1.trans K4.out (fun _ _ x => x)⟩
      | exact ⟨rfl, H.out.1.trans K3.out (fun _ _ x => x)⟩
  · clear HI
    go_wp2_with (first
      | (go_at_call 11; (with_reducible refine haw.mono ?_); rintro e w2 ⟨rfl, hk⟩; have k3 := hk; obtain ⟨⟨xl, x0, x1, x2, x3⟩, ⟨yl, y0, y1, y2, y3⟩⟩ := HC.out w2 k3; have hm := HM.out w2 k3; have K2 := Lib.hid k3; clear hk haw k3)
      | (go_at_call 12; (with_reducible refine hm.mono ?_); rintro e w3 ⟨z1, rfl, hk⟩; have k3 := K2.out.trans hk (fun _ _ x => x); clear xl x0 x1 x2 x3 yl y0 y1 y2 y3; obtain ⟨⟨xl, x0, x1, x2, x3⟩, ⟨yl, y0, y1, y2, y3⟩⟩ := HC.out w3 k3; have hm2 := HM2.out w3 k3; have K3 := Lib.hid k3; clear hk hm k3)
      | (go_at_call 12; (with_reducible refine hm2.mono ?_); rintro e w4 ⟨z2, rfl, hk⟩; have k3 := K3.out.trans hk (fun _ _ x => x); clear xl x0 x1 x2 x3 yl y0 y1 y2 y3; obtain ⟨⟨xl, x0, x1, x2, x3⟩, ⟨yl, y0, y1, y2, y3⟩⟩ := HC.out w4 k3; have hx1 := HX1.out w4 k3; have K4 := Lib.hid k3; clear hk hm2 k3)
      | (go_at_call 21; (with_reducible refine hx1.mono ?_); rintro e w5 ⟨rfl, hk⟩; have k3 := K4.out.trans hk (fun _ _ x => x); clear xl x0 x1 x2 x3 yl y0 y1 y2 y3; obtain ⟨⟨xl, x0, x1, x2, x3⟩, ⟨yl, y0, y1, y2, y3⟩⟩ := HC.out w5 k3; have hx2 := HX2.out w5 k3; have K5 := Lib.hid k3; clear hk hx1 k3)
      | (go_at_call 21; (with_reducible refine hx2.mono ?_); rintro e w6 ⟨rfl, hk⟩; have k3 := K5.out.trans hk (fun _ _ x => x); clear xl x0 x1 x2 x3 yl y0 y1 y2 y3; obtain ⟨⟨xl, x0, x1, x2, x3⟩, ⟨yl, y0, y1, y2, y3⟩⟩ := HC.out w6 k3; have hx3 := HX3.out w6 k3; have K6 := Lib.hid k3; clear hk hx2 k3)
      | (go_at_call 22; (with_reducible refine hx3.mono ?_); rintro e w7 ⟨rfl, hk⟩; have k3 := K6.out.trans hk (fun _ _ x => x); clear xl x0 x1 x2 x3 yl y0 y1 y2 y3; obtain ⟨⟨xl, x0, x1, x2, x3⟩, ⟨yl, y0, y1, y2, y3⟩⟩ := HC.out w7 k3; have hx4 := HX4.out w7 k3; have K7 := Lib.hid k3; clear hk hx3 k3)
      | (go_at_call 22; (with_reducible refine hx4.mono ?_); rintro e w8 ⟨rfl, hk⟩; have k3 := K7.out.trans hk (fun _ _ x => x); clear xl x0 x1 x2 x3 yl y0 y1 y2 y3; obtain ⟨⟨xl, x0, x1, x2, x3⟩, ⟨yl, y0, y1, y2, y3⟩⟩ := HC.out w8 k3; have hx5 := HX5.out w8 k3; have K8 := Lib.hid k3; clear hk hx4 k3)
      | (go_at_call 20; (with_reducible refine hx5.mono ?_); rintro e w9 ⟨rfl, hk⟩; have k3 := K8.out.trans hk (fun _ _ x => x); clear xl x0 x1 x2 x3 yl y0 y1 y2 y3; obtain ⟨⟨xl, x0, x1, x2, x3⟩, ⟨yl, y0, y1, y2, y3⟩⟩ := HC.out w9 k3; have K9 := Lib.hid k3; clear hk hx5 k3))
    all_goals go_ret
    all_goals first
      | exact ⟨rfl, H.out.1.trans K9.out (fun _ _ x => x)⟩
      | exact ⟨rfl, H.out.1.trans K8.out (fun _ _ x => x)⟩
      | exact ⟨rfl, H.out.1.trans K4.out (fun _ _ x => x)⟩
      | exact ⟨rfl, H.out.1.trans K3.out (fun _ _ x => x)⟩
  · have hsm := HI.out rfl h2
    subst hsm
    have d3 := str_bne h2
    have d4 : ¬ xs.toList = [] := fun e => h2 (str_eq_iff.1 (by rw [e]; simp))
    clear HI h2
    go_wp2_with (first
      | (go_at_call 11; (with_reducible refine haw.mono ?_); rintro e w2 ⟨rfl, hk⟩; have k3 := hk; obtain ⟨⟨xl, x0, x1, x2, x3⟩, ⟨yl, y0, y1, y2, y3⟩⟩ := HC.out w2 k3; have hm := HM.out w2 k3; have K2 := Lib.hid k3; clear hk haw k3)
      | (go_at_call 12; (with_reducible refine hm.mono ?_); rintro e w3 ⟨z1, rfl, hk⟩; have k3 := K2.out.trans hk (fun _ _ x => x); clear xl x0 x1 x2 x3 yl y0 y1 y2 y3; obtain ⟨⟨xl, x0, x1, x2, x3⟩, ⟨yl, y0, y1, y2, y3⟩⟩ := HC.out w3 k3; have hm2 := HM2.out w3 k3; have K3 := Lib.hid k3; clear hk hm k3)
      | (go_at_call 12; (with_reducible refine hm2.mono ?_); rintro e w4 ⟨z2, rfl, hk⟩; have k3 := K3.out.trans hk (fun _ _ x => x); clear xl x0 x1 x2 x3 yl y0 y1 y2 y3; obtain ⟨⟨xl, x0, x1, x2, x3⟩, ⟨yl, y0, y1, y2, y3⟩⟩ := HC.out w4 k3; have hx1 := HX1.out w4 k3; have K4 := Lib.hid k3; clear hk hm2 k3)
      | (go_at_call 21; (with_reducible refine hx1.mono ?_); rintro e w5 ⟨rfl, hk⟩; have k3 := K4.out.trans hk (fun _ _ x => x); clear xl x0 x1 x2 x3 yl y0 y1 y2 y3; obtain ⟨⟨xl, x0, x1, x2, x3⟩, ⟨yl, y0, y1, y2, y3⟩⟩ := HC.out w5 k3; have hx2 := HX2.out w5 k3; have K5 := Lib.hid k3; clear hk hx1 k3)
      | (go_at_call 21; (with_reducible refine hx2.mono ?_); rintro e w6 ⟨rfl, hk⟩; have k3 := K5.out.trans hk (fun _ _ x => x); clear xl x0 x1 x2 x3 yl y0 y1 y2 y3; obtain ⟨⟨xl, x0, x1, x2, x3⟩, ⟨yl, y0, y1, y2, y3⟩⟩ := HC.out w6 k3; have hx3 := HX3.out w6 k3; have K6 := Lib.hid k3; clear hk hx2 k3)
      | (go_at_call 22; (with_reducible refine hx3.mono ?_); rintro e w7 ⟨rfl, hk⟩; have k3 := K6.out.trans hk (fun _ _ x => x); clear xl x0 x1 x2 x3 yl y0 y1 y2 y3; obtain ⟨⟨xl, x0, x1, x2, x3⟩, ⟨yl, y0, y1, y2, y3⟩⟩ := HC.out w7 k3; have hx4 := HX4.out w7 k3; have K7 := Lib.hid k3; clear hk hx3 k3)
      | (go_at_call 22; (with_reducible refine hx4.mono ?_); rintro e w8 ⟨rfl, hk⟩; have k3 := K7.out.trans hk (fun _ _ x => x); clear xl x0 x1 x2 x3 yl y0 y1 y2 y3; obtain ⟨⟨xl, x0, x1, x2, x3⟩, ⟨yl, y0, y1, y2, y3⟩⟩ := HC.out w8 k3; have hx5 := HX5.out w8 k3; have K8 := Lib.hid k3; clear hk hx4 k3)
      | (go_at_call 20; (with_reducible refine hx5.mono ?_); rintro e w9 ⟨rfl, hk⟩; have k3 := K8.out.trans hk (fun _ _ x => x); clear xl x0 x1 x2 x3 yl y0 y1 y2 y3; obtain ⟨⟨xl, x0, x1, x2, x3⟩, ⟨yl, y0, y1, y2, y3⟩⟩ := HC.out w9 k3; have K9 := Lib.hid k3; clear hk hx5 k3))
    all_goals go_ret
    all_goals first
      | exact ⟨rfl, H.out.1.trans K9.out (fun _ _ x => x)⟩
      | exact ⟨rfl, H.out.1.trans K8.out (fun _ _ x => x)⟩
      | exact ⟨rfl, H.out.1.trans K4.out (fun _ _ x => x)⟩
      | exact ⟨rfl, H.out.1.trans K3.out (fun _ _ x => x)⟩
end Go.Proofs.YtomhhpjpmlpijaaDoor
