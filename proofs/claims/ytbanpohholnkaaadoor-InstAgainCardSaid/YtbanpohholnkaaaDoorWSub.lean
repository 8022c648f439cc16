/-
  Walks: rel.Sub, Fits, Naive, Pos, Neg of whatever two types. Conditions: the table strings.asciiSpace lies as the program lays it.
-/
import Derived.Test.YtbanpohholnkaaaDoorWNormal
import Derived.Test.YtbanpohholnkaaaDoorWNaive2
import Derived.Test.YtbanpohholnkaaaDoorWBlames2
namespace Go.Proofs.YtbanpohholnkaaaDoor
open Go.RowKit

set_option maxRecDepth 100000 in
set_option maxHeartbeats 4000000 in
theorem rsub_any {w : World} {r r' : Tv} {a b : Ty} (hT : Tab w) (h : TyV w nX r a) (h' : TyV w nX r' b) :
    Calls Tryd.prog 16 #[r.val, r'.val] w fun e w' => e = .returned (.bool (subT a b)) ∧ Keep (fun _ => False) w w' := by
  obtain ⟨k, nm, An, nn, cn, Ak, nk, ck⟩ := r
  obtain ⟨k', nm', An', nn', cn', Ak', nk', ck'⟩ := r'
  have kw : Keep (fun _ => False) w ((w.alloc (.cells #[.int .i64 k, .string nm, .slice An nn cn, .slice Ak nk ck] 25)).alloc (.cells #[.int .i64 k', .string nm', .slice An' nn' cn', .slice Ak' nk' ck'] 25)) := ((Keep.refl _ w).alloc _).alloc _
  have a0 : At ((w.alloc (.cells #[.int .i64 k, .string nm, .slice An nn cn, .slice Ak nk ck] 25)).alloc (.cells #[.int .i64 k', .string nm', .slice An' nn' cn', .slice Ak' nk' ck'] 25)) w.heap.size 25 #[.int .i64 k, .string nm, .slice An nn cn, .slice Ak nk ck] := (At.new _ _ _).alloc _
  have a1 : At ((w.alloc (.cells #[.int .i64 k, .string nm, .slice An nn cn, .slice Ak nk ck] 25)).alloc (.cells #[.int .i64 k', .string nm', .slice An' nn' cn', .slice Ak' nk' ck'] 25)) (w.heap.size + 1) 25 #[.int .i64 k', .string nm', .slice An' nn' cn', .slice Ak' nk' ck'] := At.new_at (by simp)
  have H := Lib.hid (And.intro kw (And.intro a0 (And.intro a1 (And.intro (hT.step kw) (And.intro (h.step kw) (h'.step kw))))))
  clear hT h h' kw a0 a1
  unfold Tv.val
  simp only
  go_enter Tryd.func16, Tryd.ntmps16
  go_upto_region 1 with fail
  generalize ((w.alloc (.cells #[.int .i64 k, .string nm, .slice An nn cn, .slice Ak nk ck] 25)).alloc (.cells #[.int .i64 k', .string nm', .slice An' nn' cn', .slice Ak' nk' ck'] 25)) = w1 at *
  generalize w.heap.size = bx at *
  generalize bx + 1 = by_ at *
  have HC : Hid (∀ w', Keep (fun _ => False) w1 w' → (bx < w'.heap.size ∧ w'.cell? ⟨bx, 0, none⟩ = some (.int .i64 k) ∧ w'.cell? ⟨bx, 1, none⟩ = some (.string nm) ∧ w'.cell? ⟨bx, 2, none⟩ = some (.slice An nn cn) ∧ w'.cell? ⟨bx, 3, none⟩ = some (.slice Ak nk ck)) ∧ (by_ < w'.heap.size ∧ w'.cell? ⟨by_, 0, none⟩ = some (.int .i64 k') ∧ w'.cell? ⟨by_, 1, none⟩ = some (.string nm') ∧ w'.cell? ⟨by_, 2, none⟩ = some (.slice An' nn' cn') ∧ w'.cell? ⟨by_, 3, none⟩ = some (.slice Ak' nk' ck'))) := fun w' hk => ⟨(hk.at_ H.out.2.1 (fun x => x)).tcells, (hk.at_ H.out.2.2.1 (fun x => x)).tcells⟩
  have kal : Keep (fun _ => False) w1 (w1.alloc (.cells #[.int .i64 k, .string nm, .slice An nn cn, .slice Ak nk ck, .int .i64 k', .string nm', .slice An' nn' cn', .slice Ak' nk' ck'] 25)) := (Keep.refl _ w1).alloc _
  have hn := normal_any (A := some ⟨w1.heap.size, 0, none⟩) (n := 2) (c := 2) (l := [a, b]) (rs := [⟨k, nm, An, nn, cn, Ak, nk, ck⟩, ⟨k', nm', An', nn', cn', Ak', nk', ck'⟩]) (by decide) (H.out.2.2.2.1.step kal) (by have := Rd.lit (X := nX) (size := 4) (n := 2) (At.new w1 25 #[.int .i64 k, .string nm, .slice An nn cn, .slice Ak nk ck, .int .i64 k', .string nm', .slice An' nn' cn', .slice Ak' nk' ck']) (fun x => x) rfl; simpa [tflat, Tv.vals] using this) ⟨H.out.2.2.2.2.1.step kal, H.out.2.2.2.2.2.step kal, trivial⟩
  have KAL := Lib.hid kal
  obtain ⟨⟨xl, x0, x1, x2, x3⟩, ⟨yl, y0, y1, y2, y3⟩⟩ := HC.out w1 (Keep.refl _ _)
  clear kal
  have hres : subT a b = ([a, b].all normB && belowT false a b) := by unfold subT; simp
  have HR := Lib.hid hres
  clear hres
  cases hnb : [a, b].all normB
  · rw [hnb] at hn HR
    clear hnb
    go_wp2_with (go_at_call 33; refine hn.mono ?_; rintro e w2 ⟨rfl, hk2⟩; have K2 := Lib.hid hk2; clear hk2 hn)
    go_ret
    exact ⟨ret_bool HR.out.symm, (H.out.1.trans KAL.out (fun _ _ x => x)).trans K2.out (fun _ _ x => x)⟩
  · have hna : normB a = true ∧ normB b = true := by simpa using hnb
    have hb : ∀ w', Keep (fun _ => False) w1 w' → Calls Tryd.prog 34 #[.agg #[.int .i64 k, .string nm, .slice An nn cn, .slice Ak nk ck], .agg #[.int .i64 k', .string nm', .slice An' nn' cn', .slice Ak' nk' ck'], .bool false] w' fun e w'' => e = .returned (.bool (belowT false a b)) ∧ Keep (fun _ => False) w' w'' := fun w' hk => below_any _ a b false (Nat.le_refl _) (normB_nf hna.1) (normB_nf hna.2) w' ⟨k, nm, An, nn, cn, Ak, nk, ck⟩ ⟨k', nm', An', nn', cn', Ak', nk', ck'⟩ (H.out.2.2.2.2.1.step hk) (H.out.2.2.2.2.2.step hk)
    have HB := Lib.hid hb
    rw [hnb] at hn HR
    clear hnb hna hb
    go_wp2_with (first
      | (go_at_call 33; refine hn.mono ?_; rintro e w2 ⟨rfl, hk2⟩; have k2 := KAL.out.trans hk2 (fun _ _ x => x); clear xl x0 x1 x2 x3 yl y0 y1 y2 y3; obtain ⟨⟨xl, x0, x1, x2, x3⟩, ⟨yl, y0, y1, y2, y3⟩⟩ := HC.out w2 k2; have hb := HB.out w2 k2; have K2 := Lib.hid k2; clear hk2 hn k2)
      | (go_at_call 34; refine hb.mono ?_; rintro e w3 ⟨rfl, hk3⟩; have K3 := Lib.hid (K2.out.trans hk3 (fun _ _ x => x)); clear hk3 hb))
    go_ret
    exact ⟨ret_bool HR.out.symm, H.out.1.trans K3.out (fun _ _ x => x)⟩
set_option maxRecDepth 100000 in
set_option maxHeartbeats 4000000 in
theorem rfits_any {w : World} {r r' : Tv} {a b : Ty} (hT : Tab w) (h : TyV w nX r a) (h' : TyV w nX r' b) :
    Calls Tryd.prog 15 #[r.val, r'.val] w fun e w' => e = .returned (.bool (fitsT a b)) ∧ Keep (fun _ => False) w w' := by
  obtain ⟨k, nm, An, nn, cn, Ak, nk, ck⟩ := r
  obtain ⟨k', nm', An', nn', cn', Ak', nk', ck'⟩ := r'
  have kw : Keep (fun _ => False) w ((w.alloc (.cells #[.int .i64 k, .string nm, .slice An nn cn, .slice Ak nk ck] 25)).alloc (.cells #[.int .i64 k', .string nm', .slice An' nn' cn', .slice Ak' nk' ck'] 25)) := ((Keep.refl _ w).alloc _).alloc _
  have a0 : At ((w.alloc (.cells #[.int .i64 k, .string nm, .slice An nn cn, .slice Ak nk ck] 25)).alloc (.cells #[.int .i64 k', .string nm', .slice An' nn' cn', .slice Ak' nk' ck'] 25)) w.heap.size 25 #[.int .i64 k, .string nm, .slice An nn cn, .slice Ak nk ck] := (At.new _ _ _).alloc _
  have a1 : At ((w.alloc (.cells #[.int .i64 k, .string nm, .slice An nn cn, .slice Ak nk ck] 25)).alloc (.cells #[.int .i64 k', .string nm', .slice An' nn' cn', .slice Ak' nk' ck'] 25)) (w.heap.size + 1) 25 #[.int .i64 k', .string nm', .slice An' nn' cn', .slice Ak' nk' ck'] := At.new_at (by simp)
  have H := Lib.hid (And.intro kw (And.intro a0 (And.intro a1 (And.intro (hT.step kw) (And.intro (h.step kw) (h'.step kw))))))
  clear hT h h' kw a0 a1
  unfold Tv.val
  simp only
  go_enter Tryd.func15, Tryd.ntmps15
  go_upto_region 1 with fail
  generalize ((w.alloc (.cells #[.int .i64 k, .string nm, .slice An nn cn, .slice Ak nk ck] 25)).alloc (.cells #[.int .i64 k', .string nm', .slice An' nn' cn', .slice Ak' nk' ck'] 25)) = w1 at *
  generalize w.heap.size = bx at *
  generalize bx + 1 = by_ at *
  have HC : Hid (∀ w', Keep (fun _ => False) w1 w' → (bx < w'.heap.size ∧ w'.cell? ⟨bx, 0, none⟩ = some (.int .i64 k) ∧ w'.cell? ⟨bx, 1, none⟩ = some (.string nm) ∧ w'.cell? ⟨bx, 2, none⟩ = some (.slice An nn cn) ∧ w'.cell? ⟨bx, 3, none⟩ = some (.slice Ak nk ck)) ∧ (by_ < w'.heap.size ∧ w'.cell? ⟨by_, 0, none⟩ = some (.int .i64 k') ∧ w'.cell? ⟨by_, 1, none⟩ = some (.string nm') ∧ w'.cell? ⟨by_, 2, none⟩ = some (.slice An' nn' cn') ∧ w'.cell? ⟨by_, 3, none⟩ = some (.slice Ak' nk' ck'))) := fun w' hk => ⟨(hk.at_ H.out.2.1 (fun x => x)).tcells, (hk.at_ H.out.2.2.1 (fun x => x)).tcells⟩
  have kal : Keep (fun _ => False) w1 (w1.alloc (.cells #[.int .i64 k, .string nm, .slice An nn cn, .slice Ak nk ck, .int .i64 k', .string nm', .slice An' nn' cn', .slice Ak' nk' ck'] 25)) := (Keep.refl _ w1).alloc _
  have hn := normal_any (A := some ⟨w1.heap.size, 0, none⟩) (n := 2) (c := 2) (l := [a, b]) (rs := [⟨k, nm, An, nn, cn, Ak, nk, ck⟩, ⟨k', nm', An', nn', cn', Ak', nk', ck'⟩]) (by decide) (H.out.2.2.2.1.step kal) (by have := Rd.lit (X := nX) (size := 4) (n := 2) (At.new w1 25 #[.int .i64 k, .string nm, .slice An nn cn, .slice Ak nk ck, .int .i64 k', .string nm', .slice An' nn' cn', .slice Ak' nk' ck']) (fun x => x) rfl; simpa [tflat, Tv.vals] using this) ⟨H.out.2.2.2.2.1.step kal, H.out.2.2.2.2.2.step kal, trivial⟩
  have KAL := Lib.hid kal
  obtain ⟨⟨xl, x0, x1, x2, x3⟩, ⟨yl, y0, y1, y2, y3⟩⟩ := HC.out w1 (Keep.refl _ _)
  clear kal
  have hres : fitsT a b = ([a, b].all normB && belowT true a b) := by unfold fitsT; simp
  have HR := Lib.hid hres
  clear hres
  cases hnb : [a, b].all normB
  · rw [hnb] at hn HR
    clear hnb
    go_wp2_with (go_at_call 33; refine hn.mono ?_; rintro e w2 ⟨rfl, hk2⟩; have K2 := Lib.hid hk2; clear hk2 hn)
    go_ret
    exact ⟨ret_bool HR.out.symm, (H.out.1.trans KAL.out (fun _ _ x => x)).trans K2.out (fun _ _ x => x)⟩
  · have hna : normB a = true ∧ normB b = true := by simpa using hnb
    have hb : ∀ w', Keep (fun _ => False) w1 w' → Calls Tryd.prog 34 #[.agg #[.int .i64 k, .string nm, .slice An nn cn, .slice Ak nk ck], .agg #[.int .i64 k', .string nm', .slice An' nn' cn', .slice Ak' nk' ck'], .bool true] w' fun e w'' => e = .returned (.bool (belowT true a b)) ∧ Keep (fun _ => False) w' w'' := fun w' hk => below_any _ a b true (Nat.le_refl _) (normB_nf hna.1) (normB_nf hna.2) w' ⟨k, nm, An, nn, cn, Ak, nk, ck⟩ ⟨k', nm', An', nn', cn', Ak', nk', ck'⟩ (H.out.2.2.2.2.1.step hk) (H.out.2.2.2.2.2.step hk)
    have HB := Lib.hid hb
    rw [hnb] at hn HR
    clear hnb hna hb
    go_wp2_with (first
      | (go_at_call 33; refine hn.mono ?_; rintro e w2 ⟨rfl, hk2⟩; have k2 := KAL.out.trans hk2 (fun _ _ x => x); clear xl x0 x1 x2 x3 yl y0 y1 y2 y3; obtain ⟨⟨xl, x0, x1, x2, x3⟩, ⟨yl, y0, y1, y2, y3⟩⟩ := HC.out w2 k2; have hb := HB.out w2 k2; have K2 := Lib.hid k2; clear hk2 hn k2)
      | (go_at_call 34; refine hb.mono ?_; rintro e w3 ⟨rfl, hk3⟩; have K3 := Lib.hid (K2.out.trans hk3 (fun _ _ x => x)); clear hk3 hb))
    go_ret
    exact ⟨ret_bool HR.out.symm, H.out.1.trans K3.out (fun _ _ x => x)⟩
set_option maxRecDepth 100000 in
set_option maxHeartbeats 4000000 in
theorem rnaive_any {w : World} {r r' : Tv} {a b : Ty} (hT : Tab w) (h : TyV w nX r a) (h' : TyV w nX r' b) :
    Calls Tryd.prog 19 #[r.val, r'.val] w fun e w' => e = .returned (.bool (naiT a b)) ∧ Keep (fun _ => False) w w' := by
  obtain ⟨k, nm, An, nn, cn, Ak, nk, ck⟩ := r
  obtain ⟨k', nm', An', nn', cn', Ak', nk', ck'⟩ := r'
  have kw : Keep (fun _ => False) w ((w.alloc (.cells #[.int .i64 k, .string nm, .slice An nn cn, .slice Ak nk ck] 25)).alloc (.cells #[.int .i64 k', .string nm', .slice An' nn' cn', .slice Ak' nk' ck'] 25)) := ((Keep.refl _ w).alloc _).alloc _
  have a0 : At ((w.alloc (.cells #[.int .i64 k, .string nm, .slice An nn cn, .slice Ak nk ck] 25)).alloc (.cells #[.int .i64 k', .string nm', .slice An' nn' cn', .slice Ak' nk' ck'] 25)) w.heap.size 25 #[.int .i64 k, .string nm, .slice An nn cn, .slice Ak nk ck] := (At.new _ _ _).alloc _
  have a1 : At ((w.alloc (.cells #[.int .i64 k, .string nm, .slice An nn cn, .slice Ak nk ck] 25)).alloc (.cells #[.int .i64 k', .string nm', .slice An' nn' cn', .slice Ak' nk' ck'] 25)) (w.heap.size + 1) 25 #[.int .i64 k', .string nm', .slice An' nn' cn', .slice Ak' nk' ck'] := At.new_at (by simp)
  have H := Lib.hid (And.intro kw (And.intro a0 (And.intro a1 (And.intro (hT.step kw) (And.intro (h.step kw) (h'.step kw))))))
  clear hT h h' kw a0 a1
  unfold Tv.val
  simp only
  go_enter Tryd.func19, Tryd.ntmps19
  go_upto_region 1 with fail
  generalize ((w.alloc (.cells #[.int .i64 k, .string nm, .slice An nn cn, .slice Ak nk ck] 25)).alloc (.cells #[.int .i64 k', .string nm', .slice An' nn' cn', .slice Ak' nk' ck'] 25)) = w1 at *
  generalize w.heap.size = bx at *
  generalize bx + 1 = by_ at *
  have HC : Hid (∀ w', Keep (fun _ => False) w1 w' → (bx < w'.heap.size ∧ w'.cell? ⟨bx, 0, none⟩ = some (.int .i64 k) ∧ w'.cell? ⟨bx, 1, none⟩ = some (.string nm) ∧ w'.cell? ⟨bx, 2, none⟩ = some (.slice An nn cn) ∧ w'.cell? ⟨bx, 3, none⟩ = some (.slice Ak nk ck)) ∧ (by_ < w'.heap.size ∧ w'.cell? ⟨by_, 0, none⟩ = some (.int .i64 k') ∧ w'.cell? ⟨by_, 1, none⟩ = some (.string nm') ∧ w'.cell? ⟨by_, 2, none⟩ = some (.slice An' nn' cn') ∧ w'.cell? ⟨by_, 3, none⟩ = some (.slice Ak' nk' ck'))) := fun w' hk => ⟨(hk.at_ H.out.2.1 (fun x => x)).tcells, (hk.at_ H.out.2.2.1 (fun x => x)).tcells⟩
  have kal : Keep (fun _ => False) w1 (w1.alloc (.cells #[.int .i64 k, .string nm, .slice An nn cn, .slice Ak nk ck, .int .i64 k', .string nm', .slice An' nn' cn', .slice Ak' nk' ck'] 25)) := (Keep.refl _ w1).alloc _
  have hn := normal_any (A := some ⟨w1.heap.size, 0, none⟩) (n := 2) (c := 2) (l := [a, b]) (rs := [⟨k, nm, An, nn, cn, Ak, nk, ck⟩, ⟨k', nm', An', nn', cn', Ak', nk', ck'⟩]) (by decide) (H.out.2.2.2.1.step kal) (by have := Rd.lit (X := nX) (size := 4) (n := 2) (At.new w1 25 #[.int .i64 k, .string nm, .slice An nn cn, .slice Ak nk ck, .int .i64 k', .string nm', .slice An' nn' cn', .slice Ak' nk' ck']) (fun x => x) rfl; simpa [tflat, Tv.vals] using this) ⟨H.out.2.2.2.2.1.step kal, H.out.2.2.2.2.2.step kal, trivial⟩
  have KAL := Lib.hid kal
  obtain ⟨⟨xl, x0, x1, x2, x3⟩, ⟨yl, y0, y1, y2, y3⟩⟩ := HC.out w1 (Keep.refl _ _)
  clear kal
  have hres : naiT a b = ([a, b].all normB && naiveT a b) := by unfold naiT; simp
  have HR := Lib.hid hres
  clear hres
  cases hnb : [a, b].all normB
  · rw [hnb] at hn HR
    clear hnb
    go_wp2_with (go_at_call 33; refine hn.mono ?_; rintro e w2 ⟨rfl, hk2⟩; have K2 := Lib.hid hk2; clear hk2 hn)
    go_ret
    exact ⟨ret_bool HR.out.symm, (H.out.1.trans KAL.out (fun _ _ x => x)).trans K2.out (fun _ _ x => x)⟩
  · have hna : normB a = true ∧ normB b = true := by simpa using hnb
    have hb : ∀ w', Keep (fun _ => False) w1 w' → Calls Tryd.prog 36 #[.agg #[.int .i64 k, .string nm, .slice An nn cn, .slice Ak nk ck], .agg #[.int .i64 k', .string nm', .slice An' nn' cn', .slice Ak' nk' ck']] w' fun e w'' => e = .returned (.bool (naiveT a b)) ∧ Keep (fun _ => False) w' w'' := fun w' hk => naive_any _ a b (Nat.le_refl _) (normB_nf hna.1) (normB_nf hna.2) w' ⟨k, nm, An, nn, cn, Ak, nk, ck⟩ ⟨k', nm', An', nn', cn', Ak', nk', ck'⟩ (H.out.2.2.2.2.1.step hk) (H.out.2.2.2.2.2.step hk)
    have HB := Lib.hid hb
    rw [hnb] at hn HR
    clear hnb hna hb
    go_wp2_with (first
      | (go_at_call 33; refine hn.mono ?_; rintro e w2 ⟨rfl, hk2⟩; have k2 := KAL.out.trans hk2 (fun _ _ x => x); clear xl x0 x1 x2 x3 yl y0 y1 y2 y3; obtain ⟨⟨xl, x0, x1, x2, x3⟩, ⟨yl, y0, y1, y2, y3⟩⟩ := HC.out w2 k2; have hb := HB.out w2 k2; have K2 := Lib.hid k2; clear hk2 hn k2)
      | (go_at_call 36; refine hb.mono ?_; rintro e w3 ⟨rfl, hk3⟩; have K3 := Lib.hid (K2.out.trans hk3 (fun _ _ x => x)); clear hk3 hb))
    go_ret
    exact ⟨ret_bool HR.out.symm, H.out.1.trans K3.out (fun _ _ x => x)⟩
set_option maxRecDepth 100000 in
set_option maxHeartbeats 4000000 in
theorem rpos_any {w : World} {r r' : Tv} {a b : Ty} (hT : Tab w) (h : TyV w nX r a) (h' : TyV w nX r' b) :
    Calls Tryd.prog 17 #[r.val, r'.val] w fun e w' => e = .returned (.bool (posT a b)) ∧ Keep (fun _ => False) w w' := by
  obtain ⟨k, nm, An, nn, cn, Ak, nk, ck⟩ := r
  obtain ⟨k', nm', An', nn', cn', Ak', nk', ck'⟩ := r'
  have kw : Keep (fun _ => False) w ((w.alloc (.cells #[.int .i64 k, .string nm, .slice An nn cn, .slice Ak nk ck] 25)).alloc (.cells #[.int .i64 k', .string nm', .slice An' nn' cn', .slice Ak' nk' ck'] 25)) := ((Keep.refl _ w).alloc _).alloc _
  have a0 : At ((w.alloc (.cells #[.int .i64 k, .string nm, .slice An nn cn, .slice Ak nk ck] 25)).alloc (.cells #[.int .i64 k', .string nm', .slice An' nn' cn', .slice Ak' nk' ck'] 25)) w.heap.size 25 #[.int .i64 k, .string nm, .slice An nn cn, .slice Ak nk ck] := (At.new _ _ _).alloc _
  have a1 : At ((w.alloc (.cells #[.int .i64 k, .string nm, .slice An nn cn, .slice Ak nk ck] 25)).alloc (.cells #[.int .i64 k', .string nm', .slice An' nn' cn', .slice Ak' nk' ck'] 25)) (w.heap.size + 1) 25 #[.int .i64 k', .string nm', .slice An' nn' cn', .slice Ak' nk' ck'] := At.new_at (by simp)
  have H := Lib.hid (And.intro kw (And.intro a0 (And.intro a1 (And.intro (hT.step kw) (And.intro (h.step kw) (h'.step kw))))))
  clear hT h h' kw a0 a1
  unfold Tv.val
  simp only
  go_enter Tryd.func17, Tryd.ntmps17
  go_upto_region 1 with fail
  generalize ((w.alloc (.cells #[.int .i64 k, .string nm, .slice An nn cn, .slice Ak nk ck] 25)).alloc (.cells #[.int .i64 k', .string nm', .slice An' nn' cn', .slice Ak' nk' ck'] 25)) = w1 at *
  generalize w.heap.size = bx at *
  generalize bx + 1 = by_ at *
  have HC : Hid (∀ w', Keep (fun _ => False) w1 w' → (bx < w'.heap.size ∧ w'.cell? ⟨bx, 0, none⟩ = some (.int .i64 k) ∧ w'.cell? ⟨bx, 1, none⟩ = some (.string nm) ∧ w'.cell? ⟨bx, 2, none⟩ = some (.slice An nn cn) ∧ w'.cell? ⟨bx, 3, none⟩ = some (.slice Ak nk ck)) ∧ (by_ < w'.heap.size ∧ w'.cell? ⟨by_, 0, none⟩ = some (.int .i64 k') ∧ w'.cell? ⟨by_, 1, none⟩ = some (.string nm') ∧ w'.cell? ⟨by_, 2, none⟩ = some (.slice An' nn' cn') ∧ w'.cell? ⟨by_, 3, none⟩ = some (.slice Ak' nk' ck'))) := fun w' hk => ⟨(hk.at_ H.out.2.1 (fun x => x)).tcells, (hk.at_ H.out.2.2.1 (fun x => x)).tcells⟩
  have kal : Keep (fun _ => False) w1 (w1.alloc (.cells #[.int .i64 k, .string nm, .slice An nn cn, .slice Ak nk ck, .int .i64 k', .string nm', .slice An' nn' cn', .slice Ak' nk' ck'] 25)) := (Keep.refl _ w1).alloc _
  have hn := normal_any (A := some ⟨w1.heap.size, 0, none⟩) (n := 2) (c := 2) (l := [a, b]) (rs := [⟨k, nm, An, nn, cn, Ak, nk, ck⟩, ⟨k', nm', An', nn', cn', Ak', nk', ck'⟩]) (by decide) (H.out.2.2.2.1.step kal) (by have := Rd.lit (X := nX) (size := 4) (n := 2) (At.new w1 25 #[.int .i64 k, .string nm, .slice An nn cn, .slice Ak nk ck, .int .i64 k', .string nm', .slice An' nn' cn', .slice Ak' nk' ck']) (fun x => x) rfl; simpa [tflat, Tv.vals] using this) ⟨H.out.2.2.2.2.1.step kal, H.out.2.2.2.2.2.step kal, trivial⟩
  have KAL := Lib.hid kal
  obtain ⟨⟨xl, x0, x1, x2, x3⟩, ⟨yl, y0, y1, y2, y3⟩⟩ := HC.out w1 (Keep.refl _ _)
  clear kal
  have hres : posT a b = ([a, b].all normB && blamesT true a b) := by unfold posT; simp
  have HR := Lib.hid hres
  clear hres
  cases hnb : [a, b].all normB
  · rw [hnb] at hn HR
    clear hnb
    go_wp2_with (go_at_call 33; refine hn.mono ?_; rintro e w2 ⟨rfl, hk2⟩; have K2 := Lib.hid hk2; clear hk2 hn)
    go_ret
    exact ⟨ret_bool HR.out.symm, (H.out.1.trans KAL.out (fun _ _ x => x)).trans K2.out (fun _ _ x => x)⟩
  · have hna : normB a = true ∧ normB b = true := by simpa using hnb
    have hb : ∀ w', Keep (fun _ => False) w1 w' → Calls Tryd.prog 35 #[.agg #[.int .i64 k, .string nm, .slice An nn cn, .slice Ak nk ck], .agg #[.int .i64 k', .string nm', .slice An' nn' cn', .slice Ak' nk' ck'], .bool true] w' fun e w'' => e = .returned (.bool (blamesT true a b)) ∧ Keep (fun _ => False) w' w'' := fun w' hk => blames_any _ a b true (Nat.le_refl _) (normB_nf hna.1) (normB_nf hna.2) w' ⟨k, nm, An, nn, cn, Ak, nk, ck⟩ ⟨k', nm', An', nn', cn', Ak', nk', ck'⟩ (H.out.2.2.2.2.1.step hk) (H.out.2.2.2.2.2.step hk)
    have HB := Lib.hid hb
    rw [hnb] at hn HR
    clear hnb hna hb
    go_wp2_with (first
      | (go_at_call 33; refine hn.mono ?_; rintro e w2 ⟨rfl, hk2⟩; have k2 := KAL.out.trans hk2 (fun _ _ x => x); clear xl x0 x1 x2 x3 yl y0 y1 y2 y3; obtain ⟨⟨xl, x0, x1, x2, x3⟩, ⟨yl, y0, y1, y2, y3⟩⟩ := HC.out w2 k2; have hb := HB.out w2 k2; have K2 := Lib.hid k2; clear hk2 hn k2)
      | (go_at_call 35; refine hb.mono ?_; rintro e w3 ⟨rfl, hk3⟩; have K3 := Lib.hid (K2.out.trans hk3 (fun _ _ x => x)); clear hk3 hb))
    go_ret
    exact ⟨ret_bool HR.out.symm, H.out.1.trans K3.out (fun _ _ x => x)⟩
set_option maxRecDepth 100000 in
set_option maxHeartbeats 4000000 in
theorem rneg_any {w : World} {r r' : Tv} {a b : Ty} (hT : Tab w) (h : TyV w nX r a) (h' : TyV w nX r' b) :
    Calls Tryd.prog 18 #[r.val, r'.val] w fun e w' => e = .returned (.bool (negT a b)) ∧ Keep (fun _ => False) w w' := by
  obtain ⟨k, nm, An, nn, cn, Ak, nk, ck⟩ := r
  obtain ⟨k', nm', An', nn', cn', Ak', nk', ck'⟩ := r'
  have kw : Keep (fun _ => False) w ((w.alloc (.cells #[.int .i64 k, .string nm, .slice An nn cn, .slice Ak nk ck] 25)).alloc (.cells #[.int .i64 k', .string nm', .slice An' nn' cn', .slice Ak' nk' ck'] 25)) := ((Keep.refl _ w).alloc _).alloc _
  have a0 : At ((w.alloc (.cells #[.int .i64 k, .string nm, .slice An nn cn, .slice Ak nk ck] 25)).alloc (.cells #[.int .i64 k', .string nm', .slice An' nn' cn', .slice Ak' nk' ck'] 25)) w.heap.size 25 #[.int .i64 k, .string nm, .slice An nn cn, .slice Ak nk ck] := (At.new _ _ _).alloc _
  have a1 : At ((w.alloc (.cells #[.int .i64 k, .string nm, .slice An nn cn, .slice Ak nk ck] 25)).alloc (.cells #[.int .i64 k', .string nm', .slice An' nn' cn', .slice Ak' nk' ck'] 25)) (w.heap.size + 1) 25 #[.int .i64 k', .string nm', .slice An' nn' cn', .slice Ak' nk' ck'] := At.new_at (by simp)
  have H := Lib.hid (And.intro kw (And.intro a0 (And.intro a1 (And.intro (hT.step kw) (And.intro (h.step kw) (h'.step kw))))))
  clear hT h h' kw a0 a1
  unfold Tv.val
  simp only
  go_enter Tryd.func18, Tryd.ntmps18
  go_upto_region 1 with fail
  generalize ((w.alloc (.cells #[.int .i64 k, .string nm, .slice An nn cn, .slice Ak nk ck] 25)).alloc (.cells #[.int .i64 k', .string nm', .slice An' nn' cn', .slice Ak' nk' ck'] 25)) = w1 at *
  generalize w.heap.size = bx at *
  generalize bx + 1 = by_ at *
  have HC : Hid (∀ w', Keep (fun _ => False) w1 w' → (bx < w'.heap.size ∧ w'.cell? ⟨bx, 0, none⟩ = some (.int .i64 k) ∧ w'.cell? ⟨bx, 1, none⟩ = some (.string nm) ∧ w'.cell? ⟨bx, 2, none⟩ = some (.slice An nn cn) ∧ w'.cell? ⟨bx, 3, none⟩ = some (.slice Ak nk ck)) ∧ (by_ < w'.heap.size ∧ w'.cell? ⟨by_, 0, none⟩ = some (.int .i64 k') ∧ w'.cell? ⟨by_, 1, none⟩ = some (.string nm') ∧ w'.cell? ⟨by_, 2, none⟩ = some (.slice An' nn' cn') ∧ w'.cell? ⟨by_, 3, none⟩ = some (.slice Ak' nk' ck'))) := fun w' hk => ⟨(hk.at_ H.out.2.1 (fun x => x)).tcells, (hk.at_ H.out.2.2.1 (fun x => x)).tcells⟩
  have kal : Keep (fun _ => False) w1 (w1.alloc (.cells #[.int .i64 k, .string nm, .slice An nn cn, .slice Ak nk ck, .int .i64 k', .string nm', .slice An' nn' cn', .slice Ak' nk' ck'] 25)) := (Keep.refl _ w1).alloc _
  have hn := normal_any (A := some ⟨w1.heap.size, 0, none⟩) (n := 2) (c := 2) (l := [a, b]) (rs := [⟨k, nm, An, nn, cn, Ak, nk, ck⟩, ⟨k', nm', An', nn', cn', Ak', nk', ck'⟩]) (by decide) (H.out.2.2.2.1.step kal) (by have := Rd.lit (X := nX) (size := 4) (n := 2) (At.new w1 25 #[.int .i64 k, .string nm, .slice An nn cn, .slice Ak nk ck, .int .i64 k', .string nm', .slice An' nn' cn', .slice Ak' nk' ck']) (fun x => x) rfl; simpa [tflat, Tv.vals] using this) ⟨H.out.2.2.2.2.1.step kal, H.out.2.2.2.2.2.step kal, trivial⟩
  have KAL := Lib.hid kal
  obtain ⟨⟨xl, x0, x1, x2, x3⟩, ⟨yl, y0, y1, y2, y3⟩⟩ := HC.out w1 (Keep.refl _ _)
  clear kal
  have hres : negT a b = ([a, b].all normB && blamesT false a b) := by unfold negT; simp
  have HR := Lib.hid hres
  clear hres
  cases hnb : [a, b].all normB
  · rw [hnb] at hn HR
    clear hnb
    go_wp2_with (go_at_call 33; refine hn.mono ?_; rintro e w2 ⟨rfl, hk2⟩; have K2 := Lib.hid hk2; clear hk2 hn)
    go_ret
    exact ⟨ret_bool HR.out.symm, (H.out.1.trans KAL.out (fun _ _ x => x)).trans K2.out (fun _ _ x => x)⟩
  · have hna : normB a = true ∧ normB b = true := by simpa using hnb
    have hb : ∀ w', Keep (fun _ => False) w1 w' → Calls Tryd.prog 35 #[.agg #[.int .i64 k, .string nm, .slice An nn cn, .slice Ak nk ck], .agg #[.int .i64 k', .string nm', .slice An' nn' cn', .slice Ak' nk' ck'], .bool false] w' fun e w'' => e = .returned (.bool (blamesT false a b)) ∧ Keep (fun _ => False) w' w'' := fun w' hk => blames_any _ a b false (Nat.le_refl _) (normB_nf hna.1) (normB_nf hna.2) w' ⟨k, nm, An, nn, cn, Ak, nk, ck⟩ ⟨k', nm', An', nn', cn', Ak', nk', ck'⟩ (H.out.2.2.2.2.1.step hk) (H.out.2.2.2.2.2.step hk)
    have HB := Lib.hid hb
    rw [hnb] at hn HR
    clear hnb hna hb
    go_wp2_with (first
      | (go_at_call 33; refine hn.mono ?_; rintro e w2 ⟨rfl, hk2⟩; have k2 := KAL.out.trans hk2 (fun _ _ x => x); clear xl x0 x1 x2 x3 yl y0 y1 y2 y3; obtain ⟨⟨xl, x0, x1, x2, x3⟩, ⟨yl, y0, y1, y2, y3⟩⟩ := HC.out w2 k2; have hb := HB.out w2 k2; have K2 := Lib.hid k2; clear hk2 hn k2)
      | (go_at_call 35; refine hb.mono ?_; rintro e w3 ⟨rfl, hk3⟩; have K3 := Lib.hid (K2.out.trans hk3 (fun _ _ x => x)); clear hk3 hb))
    go_ret
    exact ⟨ret_bool HR.out.symm, H.out.1.trans K3.out (fun _ _ x => x)⟩
end Go.Proofs.YtbanpohholnkaaaDoor
