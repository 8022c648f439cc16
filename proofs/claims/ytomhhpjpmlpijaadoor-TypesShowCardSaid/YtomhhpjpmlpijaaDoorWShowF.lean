/-
  Walk: types.Show. Conditions: none.
-/
import Derived.Test.YtomhhpjpmlpijaaDoorWShow
import Derived.Test.YtomhhpjpmlpijaaDoorNf
namespace Go.Proofs.YtomhhpjpmlpijaaDoor
open Go.RowKit

set_option maxRecDepth 100000 in
set_option maxHeartbeats 4000000 in
theorem Show_any {w : World} {X : Nat → Prop} {r : Tv} {t : Ty} (hX : ∀ i, X i → i < w.heap.size) (hT : Tab w) (h : TyV w X r t) :
    Calls Tryd.prog 21 #[r.val] w fun e w' => e = .returned (.string (ShowS t)) ∧ Keep (fun _ => False) w w' := by
  obtain ⟨k, nm, An, nn, cn, Ak, nk, ck⟩ := r
  have kw : Keep (fun _ => False) w (w.alloc (.cells #[.int .i64 k, .string nm, .slice An nn cn, .slice Ak nk ck] 25)) := (Keep.refl _ w).alloc _
  have abx : At (w.alloc (.cells #[.int .i64 k, .string nm, .slice An nn cn, .slice Ak nk ck] 25)) w.heap.size 25 #[.int .i64 k, .string nm, .slice An nn cn, .slice Ak nk ck] := At.new _ _ _
  have hn := Norm_any (fun i hi => Nat.lt_of_lt_of_le (hX i hi) kw.size) (hT.step kw) (h.step kw)
  have H := Lib.hid (And.intro (h.step kw) (And.intro kw abx))
  unfold Tv.val at hn ⊢
  simp only at hn ⊢
  clear h hX hT kw abx
  cases hno : NormT t with
  | none =>
    have hs : ShowS t = ⟨#[]⟩ := by unfold ShowS; rw [if_neg]; rw [hno]; simp
    rw [hs]
    rw [hno] at hn
    clear hs hno
    go_enter Tryd.func21, Tryd.ntmps21
    go_wp2_with (go_at_call 13; refine hn.mono ?_; rintro e w2 ⟨he, hk2⟩; unfold NormP at he; simp only [Tv.val, tv0] at he; subst he; have ax := hk2.at_ H.out.2.2 (fun x => x); have x0 := ax.cell 0; have x1 := ax.cell 1; have x2 := ax.cell 2; have x3 := ax.cell 3; have xl := ax.lt; simp only [List.getElem?_toArray, List.getElem?_cons_succ, List.getElem?_cons_zero] at x0 x1 x2 x3; have H2 := Lib.hid hk2; clear hk2 hn ax)
    go_ret
    exact ⟨rfl, (H.out.2.1.trans H2.out (fun _ _ x => x)).alloc _⟩
  | some n =>
    rw [hno] at hn
    have hnf := NormT_nf hno
    by_cases hnt : n = t
    · subst hnt
      have hs : ShowS n = showT n := by unfold ShowS; rw [if_pos hno]
      rw [hs]
      have hsh : ShowOk X n := show_any n hnf.1.wf (by omega)
      have HS := Lib.hid hsh
      clear hs hno hnf hsh
      go_enter Tryd.func21, Tryd.ntmps21
      go_wp2_with (first
        | (go_at_call 13; refine hn.mono ?_; rintro e w2 ⟨⟨⟨pk, pnm, pAn, pnn, pcn, pAk, pnk, pck⟩, he, hp⟩, hk2⟩; simp only [Tv.val] at he; subst he; have ax := hk2.at_ H.out.2.2 (fun x => x); have x0 := ax.cell 0; have x1 := ax.cell 1; have x2 := ax.cell 2; have x3 := ax.cell 3; have xl := ax.lt; simp only [List.getElem?_toArray, List.getElem?_cons_succ, List.getElem?_cons_zero] at x0 x1 x2 x3; have hsm := same_any n n (w2.alloc (.cells #[.int .i64 pk, .string pnm, .slice pAn pnn pcn, .slice pAk pnk pck] 25)) _ _ (hp.box _) ((H.out.1.step hk2).box _); rw [sameT_refl] at hsm; unfold Tv.val at hsm; simp only at hsm; have H2 := Lib.hid (And.intro (hk2.alloc (.cells #[.int .i64 pk, .string pnm, .slice pAn pnn pcn, .slice pAk pnk pck] 25)) ax); clear hk2 hn ax hp)
        | (go_at_call 20; refine hsm.mono ?_; rintro e w3 ⟨rfl, hk3⟩; have k13 := H2.out.1.trans hk3 (fun _ _ x => x); have ay := k13.at_ H.out.2.2 (fun x => x); have y0 := ay.cell 0; have y1 := ay.cell 1; have y2 := ay.cell 2; have y3 := ay.cell 3; have yl := ay.lt; simp only [List.getElem?_toArray, List.getElem?_cons_succ, List.getElem?_cons_zero] at y0 y1 y2 y3; have hsh := HS.out _ _ (H.out.1.step k13); unfold Tv.val at hsh; simp only at hsh; have H3 := Lib.hid k13; clear hk3 k13 ay hsm)
        | (go_at_call 32; refine hsh.mono ?_; rintro e w4 ⟨rfl, hk4⟩; have H4 := Lib.hid (H3.out.trans hk4 (fun _ _ x => x)); clear hk4 hsh))
      go_ret
      exact ⟨rfl, H.out.2.1.trans H4.out (fun _ _ x => x)⟩
    · have hs : ShowS t = ⟨#[]⟩ := by unfold ShowS; rw [if_neg]; rw [hno]; simpa using hnt
      rw [hs]
      have HN := Lib.hid (sameT_ne hnt)
      clear hs hno hnf hnt
      go_enter Tryd.func21, Tryd.ntmps21
      go_wp2_with (first
        | (go_at_call 13; refine hn.mono ?_; rintro e w2 ⟨⟨⟨pk, pnm, pAn, pnn, pcn, pAk, pnk, pck⟩, he, hp⟩, hk2⟩; simp only [Tv.val] at he; subst he; have ax := hk2.at_ H.out.2.2 (fun x => x); have x0 := ax.cell 0; have x1 := ax.cell 1; have x2 := ax.cell 2; have x3 := ax.cell 3; have xl := ax.lt; simp only [List.getElem?_toArray, List.getElem?_cons_succ, List.getElem?_cons_zero] at x0 x1 x2 x3; have hsm := same_any n t (w2.alloc (.cells #[.int .i64 pk, .string pnm, .slice pAn pnn pcn, .slice pAk pnk pck] 25)) _ _ (hp.box _) ((H.out.1.step hk2).box _); rw [HN.out] at hsm; unfold Tv.val at hsm; simp only at hsm; have H2 := Lib.hid (And.intro (hk2.alloc (.cells #[.int .i64 pk, .string pnm, .slice pAn pnn pcn, .slice pAk pnk pck] 25)) ax); clear hk2 hn ax hp)
        | (go_at_call 20; refine hsm.mono ?_; rintro e w3 ⟨rfl, hk3⟩; have H3 := Lib.hid (H2.out.1.trans hk3 (fun _ _ x => x)); clear hk3 hsm))
      go_ret
      exact ⟨rfl, H.out.2.1.trans H3.out (fun _ _ x => x)⟩
end Go.Proofs.YtomhhpjpmlpijaaDoor
