/-
  Walk: types.Norm. Conditions: the table strings.asciiSpace lies as the program lays it.
-/
import Derived.Test.YtbanpohholnkaaaDoorWNorm
namespace Go.Proofs.YtbanpohholnkaaaDoor
open Go.RowKit

/-- A type and OK, or nothing and ErrType. -/
def NormP (X : Nat → Prop) (o : Option Ty) (e : Ending) (w : World) : Prop :=
  match o with
  | none => e = .returned (.tuple #[tv0.val, .int .i64 9])
  | some t => ∃ r : Tv, e = .returned (.tuple #[r.val, .int .i64 0]) ∧ TyV w X r t
set_option maxRecDepth 100000 in
set_option maxHeartbeats 4000000 in
theorem Norm_any {w : World} {X : Nat → Prop} {r : Tv} {t : Ty} (hX : ∀ i, X i → i < w.heap.size) (hT : Tab w) (h : TyV w X r t) :
    Calls Tryd.prog 42 #[r.val] w fun e w' => NormP X (NormT t) e w' ∧ Keep (fun _ => False) w w' := by
  obtain ⟨k, nm, An, nn, cn, Ak, nk, ck⟩ := r
  have kw : Keep (fun _ => False) w ((w.alloc (.cells #[.int .i64 k, .string nm, .slice An nn cn, .slice Ak nk ck] 25)).alloc (.cells #[.int .i64 0, .string ⟨#[]⟩, .slice none 0 0, .slice none 0 0] 25)) := ((Keep.refl _ w).alloc _).alloc _
  have abx : At ((w.alloc (.cells #[.int .i64 k, .string nm, .slice An nn cn, .slice Ak nk ck] 25)).alloc (.cells #[.int .i64 0, .string ⟨#[]⟩, .slice none 0 0, .slice none 0 0] 25)) w.heap.size 25 #[.int .i64 k, .string nm, .slice An nn cn, .slice Ak nk ck] := (At.new _ _ _).alloc _
  have arb : At ((w.alloc (.cells #[.int .i64 k, .string nm, .slice An nn cn, .slice Ak nk ck] 25)).alloc (.cells #[.int .i64 0, .string ⟨#[]⟩, .slice none 0 0, .slice none 0 0] 25)) (w.heap.size + 1) 25 #[.int .i64 0, .string ⟨#[]⟩, .slice none 0 0, .slice none 0 0] := At.new_at (by simp)
  have hh := Height_any (h.step kw)
  have HS := fun (w' : World) (hk : Keep (fun _ => False) ((w.alloc (.cells #[.int .i64 k, .string nm, .slice An nn cn, .slice Ak nk ck] 25)).alloc (.cells #[.int .i64 0, .string ⟨#[]⟩, .slice none 0 0, .slice none 0 0] 25)) w') => size_any t w' _ ((h.step kw).step hk)
  have HS := Lib.hid HS
  have H := Lib.hid (And.intro h (And.intro hX (And.intro hT (And.intro kw (And.intro abx arb)))))
  unfold Tv.val at hh ⊢
  simp only at hh ⊢
  clear h hX hT kw abx arb
  by_cases h16 : 16 < t.ht
  · have hno : NormT t = none := by unfold NormT; rw [if_pos (.inl h16)]
    have e17 : min t.ht 17 = 17 := by omega
    rw [hno]
    rw [e17] at hh
    clear hno e17 h16
    go_enter Tryd.func42, Tryd.ntmps42
    go_wp2_with (go_at_call 40; refine hh.mono ?_; rintro e w2 ⟨rfl, hk2⟩; have ra := hk2.at_ H.out.2.2.2.2.2 (fun x => x); have rf0 := ra.frozen 0; have rf1 := ra.frozen 1; have rf2 := ra.frozen 2; have rf3 := ra.frozen 3; have rc0 := ra.cell 0; have rc1 := ra.cell 1; have rc2 := ra.cell 2; have rc3 := ra.cell 3; have rl2 := ra.lt; simp only [List.getElem?_toArray, List.getElem?_cons_succ, List.getElem?_cons_zero] at rc0 rc1 rc2 rc3; have H3 := Lib.hid (And.intro hk2 ra); clear hk2 hh ra)
    (try simp only [Exit.inBlock, Exit.then])
    refine bodyPost_ret (ret_cell rfl rfl ((((H3.out.2.set 0 _).set 1 _).set 2 _).set 3 _)) rfl ?_
    exact ⟨rfl, Keep.set4 (H.out.2.2.2.1.trans H3.out.1 (fun _ _ x => x)) (.inr (by omega)) _ _ _ _⟩
  · have e17 : min t.ht 17 = t.ht := by omega
    have hht : t.ht ≤ 16 := by omega
    have d16 : decide (16 < (t.ht : Int)) = false := by simp; omega
    rw [e17] at hh
    clear h16 e17
    have hty0 : ¬ 200 < t.size → NormT t = normT t := fun h2 => by unfold NormT; rw [if_neg (by omega)]
    have HTY := Lib.hid hty0
    clear hty0
    generalize t.ht = th at *
    by_cases h200 : 200 < t.size
    · have hno : NormT t = none := by unfold NormT; rw [if_pos (.inr h200)]
      have HZ := Lib.hid (show min t.size 201 = 201 by omega)
      rw [hno]
      clear hno h200
      go_enter Tryd.func42, Tryd.ntmps42
      go_wp2_with (first | (go_at_call 40; refine hh.mono ?_; rintro e w2 ⟨rfl, hk2⟩; have ax := hk2.at_ H.out.2.2.2.2.1 (fun x => x); have x0 := ax.cell 0; have x1 := ax.cell 1; have x2 := ax.cell 2; have x3 := ax.cell 3; have xl := ax.lt; simp only [List.getElem?_toArray, List.getElem?_cons_succ, List.getElem?_cons_zero] at x0 x1 x2 x3; have hs := HS.out w2 hk2; unfold Tv.val at hs; simp only at hs; rw [HZ.out] at hs; have H2 := Lib.hid hk2; clear hk2 hh ax) | (go_at_call 39; refine hs.mono ?_; rintro e w3 ⟨rfl, hk3⟩; have k13 := H2.out.trans hk3 (fun _ _ x => x); have ra := k13.at_ H.out.2.2.2.2.2 (fun x => x); have rf0 := ra.frozen 0; have rf1 := ra.frozen 1; have rf2 := ra.frozen 2; have rf3 := ra.frozen 3; have rc0 := ra.cell 0; have rc1 := ra.cell 1; have rc2 := ra.cell 2; have rc3 := ra.cell 3; have rl2 := ra.lt; simp only [List.getElem?_toArray, List.getElem?_cons_succ, List.getElem?_cons_zero] at rc0 rc1 rc2 rc3; have HA := Lib.hid ra; clear ra; have H3 := Lib.hid k13; clear hk3 hs k13))
      (try simp only [Exit.inBlock, Exit.then])
      refine bodyPost_ret (ret_cell rfl rfl ((((HA.out.set 0 _).set 1 _).set 2 _).set 3 _)) rfl ?_
      exact ⟨rfl, Keep.set4 (H.out.2.2.2.1.trans H3.out (fun _ _ x => x)) (.inr (by omega)) _ _ _ _⟩
    · have hty : NormT t = normT t := HTY.out h200
      have HZ := Lib.hid (show min t.size 201 = t.size by omega)
      have d200 : decide (200 < (t.size : Int)) = false := by simp; omega
      have HNm : ∀ (w3 : World), Keep (fun _ => False) ((w.alloc (.cells #[.int .i64 k, .string nm, .slice An nn cn, .slice Ak nk ck] 25)).alloc (.cells #[.int .i64 0, .string ⟨#[]⟩, .slice none 0 0, .slice none 0 0] 25)) w3 → Calls Tryd.prog 64 #[.agg #[.int .i64 k, .string nm, .slice An nn cn, .slice Ak nk ck]] w3 fun e w' => OptP (fun g => X g ∨ g = w.heap.size + 1) (normT t) e w' ∧ Keep (fun _ => False) w3 w' := by
        intro w3 hk
        have hk0 := H.out.2.2.2.1.trans hk (fun _ _ x => x)
        exact norm_any t w3 (fun g => X g ∨ g = w.heap.size + 1) ⟨k, nm, An, nn, cn, Ak, nk, ck⟩ (fun i hi => by
          rcases hi with hi | hi
          · have h1 := H.out.2.1 i hi
            have h2 := hk0.size
            omega
          · have h1 := H.out.2.2.2.2.2.lt
            have h2 := hk.size
            omega) (H.out.2.2.1.step hk0) (by omega) (H.out.1.keep hk0 (fun _ _ x => x.elim) (fun i hi hx => by
              rcases hx with hx | hx
              · exact hx
              · omega))
      rw [hty]
      have HNm := Lib.hid HNm
      clear h200 hty
      generalize t.size = ts at *
      cases ho : normT t with
      | none =>
        rw [ho] at HNm
        clear ho
        go_enter Tryd.func42, Tryd.ntmps42
        go_wp2_with (first | (go_at_call 40; refine hh.mono ?_; rintro e w2 ⟨rfl, hk2⟩; have ax := hk2.at_ H.out.2.2.2.2.1 (fun x => x); have x0 := ax.cell 0; have x1 := ax.cell 1; have x2 := ax.cell 2; have x3 := ax.cell 3; have xl := ax.lt; simp only [List.getElem?_toArray, List.getElem?_cons_succ, List.getElem?_cons_zero] at x0 x1 x2 x3; have hs := HS.out w2 hk2; unfold Tv.val at hs; simp only at hs; rw [HZ.out] at hs; have H2 := Lib.hid hk2; clear hk2 hh ax) | (go_at_call 39; refine hs.mono ?_; rintro e w3 ⟨rfl, hk3⟩; have k13 := H2.out.trans hk3 (fun _ _ x => x); have ay := k13.at_ H.out.2.2.2.2.1 (fun x => x); have y0 := ay.cell 0; have y1 := ay.cell 1; have y2 := ay.cell 2; have y3 := ay.cell 3; have yl := ay.lt; simp only [List.getElem?_toArray, List.getElem?_cons_succ, List.getElem?_cons_zero] at y0 y1 y2 y3; have hn := HNm.out w3 k13; clear ay; have H3 := Lib.hid k13; clear hk3 hs k13) | (go_at_call 64; refine hn.mono ?_; rintro e w4 ⟨⟨⟨pk, pnm, pAn, pnn, pcn, pAk, pnk, pck⟩, he⟩, hk4⟩; simp only [Tv.val] at he; subst he; have k14 := H3.out.trans hk4 (fun _ _ x => x); have ra := k14.at_ H.out.2.2.2.2.2 (fun x => x); have rf0 := ra.frozen 0; have rf1 := ra.frozen 1; have rf2 := ra.frozen 2; have rf3 := ra.frozen 3; have rc0 := ra.cell 0; have rc1 := ra.cell 1; have rc2 := ra.cell 2; have rc3 := ra.cell 3; have rl2 := ra.lt; simp only [List.getElem?_toArray, List.getElem?_cons_succ, List.getElem?_cons_zero] at rc0 rc1 rc2 rc3; have H4 := Lib.hid (And.intro k14 (And.intro ra trivial)); clear hk4 hn k14 ra))
        (try simp only [Exit.inBlock, Exit.then])
        refine bodyPost_ret (ret_cell rfl rfl (((((H4.out.2.1.set 0 _).set 1 _).set 2 _).set 3 _).alloc _)) rfl ?_
        exact ⟨rfl, (Keep.set4 (H.out.2.2.2.1.trans H4.out.1 (fun _ _ x => x)) (.inr (by omega)) _ _ _ _).alloc _⟩
      | some t' =>
        rw [ho] at HNm
        clear ho
        go_enter Tryd.func42, Tryd.ntmps42
        go_wp2_with (first | (go_at_call 40; refine hh.mono ?_; rintro e w2 ⟨rfl, hk2⟩; have ax := hk2.at_ H.out.2.2.2.2.1 (fun x => x); have x0 := ax.cell 0; have x1 := ax.cell 1; have x2 := ax.cell 2; have x3 := ax.cell 3; have xl := ax.lt; simp only [List.getElem?_toArray, List.getElem?_cons_succ, List.getElem?_cons_zero] at x0 x1 x2 x3; have hs := HS.out w2 hk2; unfold Tv.val at hs; simp only at hs; rw [HZ.out] at hs; have H2 := Lib.hid hk2; clear hk2 hh ax) | (go_at_call 39; refine hs.mono ?_; rintro e w3 ⟨rfl, hk3⟩; have k13 := H2.out.trans hk3 (fun _ _ x => x); have ay := k13.at_ H.out.2.2.2.2.1 (fun x => x); have y0 := ay.cell 0; have y1 := ay.cell 1; have y2 := ay.cell 2; have y3 := ay.cell 3; have yl := ay.lt; simp only [List.getElem?_toArray, List.getElem?_cons_succ, List.getElem?_cons_zero] at y0 y1 y2 y3; have hn := HNm.out w3 k13; clear ay; have H3 := Lib.hid k13; clear hk3 hs k13) | (go_at_call 64; refine hn.mono ?_; rintro e w4 ⟨⟨⟨pk, pnm, pAn, pnn, pcn, pAk, pnk, pck⟩, he, htp⟩, hk4⟩; simp only [Tv.val] at he; subst he; have k14 := H3.out.trans hk4 (fun _ _ x => x); have ra := k14.at_ H.out.2.2.2.2.2 (fun x => x); have rf0 := ra.frozen 0; have rf1 := ra.frozen 1; have rf2 := ra.frozen 2; have rf3 := ra.frozen 3; have rc0 := ra.cell 0; have rc1 := ra.cell 1; have rc2 := ra.cell 2; have rc3 := ra.cell 3; have rl2 := ra.lt; simp only [List.getElem?_toArray, List.getElem?_cons_succ, List.getElem?_cons_zero] at rc0 rc1 rc2 rc3; have H4 := Lib.hid (And.intro k14 (And.intro ra htp)); clear hk4 hn k14 ra))
        (try simp only [Exit.inBlock, Exit.then])
        refine bodyPost_ret (ret_cell rfl rfl (((((H4.out.2.1.set 0 _).set 1 _).set 2 _).set 3 _).alloc _)) rfl ?_
        have hs4 := (Keep.set4 (Keep.refl (fun g => g = w.heap.size + 1) w4) (.inl rfl) (.int .i64 pk) (.string pnm) (.slice pAn pnn pcn) (.slice pAk pnk pck)).alloc (.cells #[.int .i64 pk, .string pnm, .slice pAn pnn pcn, .slice pAk pnk pck] 25)
        exact ⟨⟨⟨pk, pnm, pAn, pnn, pcn, pAk, pnk, pck⟩, rfl, H4.out.2.2.keep hs4 (fun _ _ hx => .inr hx) (fun _ _ hx => .inl hx)⟩, (H.out.2.2.2.1.trans H4.out.1 (fun _ _ x => x)).weak hs4 (fun g hg => by omega)⟩
end Go.Proofs.YtbanpohholnkaaaDoor
