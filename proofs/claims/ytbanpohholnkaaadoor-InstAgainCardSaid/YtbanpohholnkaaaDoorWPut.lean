/-
  Walk: the closure of types.union. Conditions: none.
-/
import Derived.Test.YtbanpohholnkaaaDoorWName
namespace Go.Proofs.YtbanpohholnkaaaDoor
open Go.RowKit

theorem tagT_le (t : Ty) : tagT t ≤ 5 := by unfold tagT; split <;> omega
theorem tagT_ge (t : Ty) : -1 ≤ tagT t := by unfold tagT; split <;> omega
/-- The array of members by tags, at block bo. -/
structure OfV (w0 w : World) (X : Nat → Prop) (bo : Nat) (cs : Array Value) (os : List (Option Ty)) : Prop where
  at_ : At w bo 105 cs
  len : os.length = 6
  size : cs.size = 6
  emp : ∀ i : Nat, os[i]? = some none → cs[i]? = some (.pointer none)
  has : ∀ (i : Nat) (t : Ty), os[i]? = some (some t) → ∃ (b : Nat) (r : Tv), cs[i]? = some (.pointer (some ⟨b, 0, none⟩)) ∧ At w b 25 r.vals.toArray ∧ TyV w0 X r t
theorem At.ne {w : World} {b b' : Nat} {e e' : TypeId} {c c' : Array Value} (h : At w b e c) (h' : At w b' e' c') (hne : e ≠ e') : b ≠ b' := by
  rintro rfl
  unfold At at h h'
  rw [h] at h'
  simp only [Option.some.injEq, Obj.cells.injEq] at h'
  exact hne h'.2.1
noncomputable def putT (os : List (Option Ty)) (k : Ty) : Bool × List (Option Ty) :=
  if tagT k < 0 then (false, os) else
    match os[(tagT k).toNat]? with
    | some (some m) => (sameT k m, os)
    | _ => (true, os.set (tagT k).toNat (some k))
theorem putT_neg {os : List (Option Ty)} {k : Ty} (h : tagT k < 0) : putT os k = (false, os) := by simp [putT, h]
theorem putT_some {os : List (Option Ty)} {k m : Ty} {n : Nat} (h : tagT k = n) (hm : os[n]? = some (some m)) : putT os k = (sameT k m, os) := by
  have h1 : ¬ tagT k < 0 := by omega
  have h2 : (tagT k).toNat = n := by omega
  unfold putT
  rw [if_neg h1, h2, hm]
theorem putT_none {os : List (Option Ty)} {k : Ty} {n : Nat} (h : tagT k = n) (hm : os[n]? = some none) : putT os k = (true, os.set n (some k)) := by
  have h1 : ¬ tagT k < 0 := by omega
  have h2 : (tagT k).toNat = n := by omega
  unfold putT
  rw [if_neg h1, h2, hm]
theorem OfV.keep {w0 w w' : World} {X Y : Nat → Prop} {bo : Nat} {cs : Array Value} {os : List (Option Ty)} (h : OfV w0 w X bo cs os) (k : Keep Y w w') (hb : ¬ Y bo) (hY : ∀ i cs', Y i → ¬ At w i 25 cs') : OfV w0 w' X bo cs os :=
  ⟨k.at_ h.at_ hb, h.len, h.size, h.emp, fun i t ht => by
    obtain ⟨b, r, h1, h2, h3⟩ := h.has i t ht
    exact ⟨b, r, h1, k.at_ h2 (fun hy => hY b _ hy h2), h3⟩⟩
theorem OfV.step {w0 w w' : World} {X : Nat → Prop} {bo : Nat} {cs : Array Value} {os : List (Option Ty)} (h : OfV w0 w X bo cs os) (k : Keep (fun _ => False) w w') : OfV w0 w' X bo cs os := h.keep k (fun x => x) (fun _ _ x => x.elim)
theorem OfV.set {w0 w : World} {X : Nat → Prop} {bo b n : Nat} {cs : Array Value} {os : List (Option Ty)} {r : Tv} {k : Ty} (h : OfV w0 w X bo cs os) (hn : n < 6) (hb : At w b 25 r.vals.toArray) (hr : TyV w0 X r k) :
    OfV w0 (w.setCell ⟨bo, n, none⟩ (.pointer (some ⟨b, 0, none⟩))) X bo (cs.setIfInBounds n (.pointer (some ⟨b, 0, none⟩))) (os.set n (some k)) := by
  have hne : ∀ {b' : Nat} {c' : Array Value}, At w b' 25 c' → b' ≠ bo := fun h' => h'.ne h.at_ (by decide)
  refine ⟨h.at_.set n _, by simp [h.len], by simp [h.size], fun i hi => ?_, fun i t hi => ?_⟩
  · rw [List.getElem?_set] at hi
    by_cases hin : n = i
    · subst hin
      rw [if_pos rfl, if_pos (by rw [h.len]; exact hn)] at hi
      simp at hi
    · rw [if_neg hin] at hi
      rw [Array.getElem?_setIfInBounds, if_neg hin]
      exact h.emp i hi
  · rw [List.getElem?_set] at hi
    by_cases hin : n = i
    · subst hin
      rw [if_pos rfl, if_pos (by rw [h.len]; exact hn)] at hi
      simp only [Option.some.injEq] at hi
      subst hi
      exact ⟨b, r, by rw [Array.getElem?_setIfInBounds, if_pos rfl, if_pos (by rw [h.size]; exact hn)], hb.far (hne hb) _, hr⟩
    · rw [if_neg hin] at hi
      obtain ⟨b', r', h1, h2, h3⟩ := h.has i t hi
      exact ⟨b', r', by rw [Array.getElem?_setIfInBounds, if_neg hin]; exact h1, h2.far (hne h2) _, h3⟩
theorem Keep.weak {w0 w w' : World} {Y : Nat → Prop} (h : Keep (fun _ => False) w0 w) (k : Keep Y w w') (hY : ∀ i, Y i → w0.heap.size ≤ i) : Keep (fun _ => False) w0 w' := h.trans k (fun i hi hy => by have := hY i hy; omega)

set_option maxHeartbeats 2000000 in
theorem put_any {w0 w : World} {X : Nat → Prop} {bo : Nat} {cs : Array Value} {os : List (Option Ty)} {r : Tv} {k : Ty} (hk0 : Keep (fun _ => False) w0 w) (hbo : w0.heap.size ≤ bo) (h : OfV w0 w X bo cs os) (hr : TyV w0 X r k) :
    Calls Tryd.prog 87 #[r.val, .pointer (some ⟨bo, 0, none⟩)] w fun e w' => ∃ cs', e = .returned (.bool (putT os k).1) ∧ OfV w0 w' X bo cs' (putT os k).2 ∧ Keep (fun i => i = bo) w w' := by
  obtain ⟨kk, nm, An, nn, cn, Ak, nk, ck⟩ := r
  have kb : Keep (fun _ => False) w (w.alloc (.cells #[.int .i64 kk, .string nm, .slice An nn cn, .slice Ak nk ck] 25)) := (Keep.refl _ w).alloc _
  have htg := tag_any ((hr.step hk0).box (.cells #[.int .i64 kk, .string nm, .slice An nn cn, .slice Ak nk ck] 25))
  have hbox : At (w.alloc (.cells #[.int .i64 kk, .string nm, .slice An nn cn, .slice Ak nk ck] 25)) w.heap.size 25 #[.int .i64 kk, .string nm, .slice An nn cn, .slice Ak nk ck] := At.new _ _ _
  have HB := Lib.hid (And.intro hbox (And.intro kb (And.intro hk0 (And.intro h hr))))
  clear hbox kb h
  unfold Tv.val at htg ⊢
  simp only at htg ⊢
  by_cases hneg : tagT k < 0
  · rw [putT_neg hneg]
    have hd : decide (tagT k < 0) = true := by simpa using hneg
    generalize tagT k = tg at *
    go_enter Tryd.func87, Tryd.ntmps87
    go_wp2_with (go_at_call 69; refine htg.mono ?_; rintro e w1 ⟨rfl, hk⟩; have HK := Lib.hid hk; clear hk htg)
    go_ret
    obtain ⟨h1, h2, h3, h4, h5⟩ := HB.out
    exact ⟨cs, rfl, (h4.step h2).step HK.out, (h2.trans HK.out (fun _ _ x => x)).mono (fun _ _ x => x.elim)⟩
  · obtain ⟨n, hn⟩ : ∃ n : Nat, tagT k = n := ⟨(tagT k).toNat, by omega⟩
    have hn5 : n < 6 := by have := tagT_le k; omega
    have hos : n < os.length := by rw [HB.out.2.2.2.1.len]; exact hn5
    obtain ⟨m, hm⟩ : ∃ m, os[n]? = some m := ⟨_, List.getElem?_eq_getElem hos⟩
    rw [hn] at htg
    cases m with
    | none =>
      rw [putT_none hn hm]
      have hc0 := HB.out.2.2.2.1.emp n hm
      clear hneg hos hr hk0
      go_enter Tryd.func87, Tryd.ntmps87
      have hbne : ¬ w.heap.size = bo := by have := HB.out.2.2.2.1.at_.lt; omega
      have hbne' : ¬ bo = w.heap.size := by have := HB.out.2.2.2.1.at_.lt; omega
      have hfin : ∀ w1, Keep (fun _ => False) (w.alloc (.cells #[.int .i64 kk, .string nm, .slice An nn cn, .slice Ak nk ck] 25)) w1 →
          (OfV w0 (w1.setCell ⟨bo, n, none⟩ (.pointer (some ⟨w.heap.size, 0, none⟩))) X bo (cs.setIfInBounds n (.pointer (some ⟨w.heap.size, 0, none⟩))) (os.set n (some k)) ∧ Keep (fun i => i = bo) w (w1.setCell ⟨bo, n, none⟩ (.pointer (some ⟨w.heap.size, 0, none⟩)))) ∧
          Calls Tryd.prog 54 #[.agg #[.int .i64 kk, .string nm, .slice An nn cn, .slice Ak nk ck], .agg #[.int .i64 kk, .string nm, .slice An nn cn, .slice Ak nk ck]] (w1.setCell ⟨bo, n, none⟩ (.pointer (some ⟨w.heap.size, 0, none⟩))).drew fun e w' => e = .returned (.bool true) ∧ Keep (fun _ => False) (w1.setCell ⟨bo, n, none⟩ (.pointer (some ⟨w.heap.size, 0, none⟩))).drew w' := by
        intro w1 hk
        obtain ⟨h1, h2, h3, h4, h5⟩ := HB.out
        have hkw : Keep (fun i => i = bo) w (w1.setCell ⟨bo, n, none⟩ (.pointer (some ⟨w.heap.size, 0, none⟩)))   := Keep.setCell (X := fun i => i = bo) (p := ⟨bo, n, none⟩) ((h2.trans hk (fun _ _ x => x)).mono (fun _ _ x => x.elim)) (.inl rfl) _
        have hr2 := (h5.step (h3.weak hkw (fun i hi => by subst hi; exact hbo))).step (Keep.refl (fun _ => False) _).drew
        have := same_any k k _ _ _ hr2 hr2
        rw [sameT_refl] at this
        exact ⟨⟨((h4.step h2).step hk).set (r := ⟨kk, nm, An, nn, cn, Ak, nk, ck⟩) hn5 (hk.at_ h1 (fun x => x)) h5, hkw⟩, this⟩
      have HF := Lib.hid hfin
      clear hfin
      go_wp2_with (go_at_call 69; refine htg.mono ?_; rintro e w1 ⟨rfl, hk⟩; have c1 := (hk.at_ (HB.out.2.2.2.1.at_.alloc _) (fun x => x)).cell n; rw [hc0] at c1; have f1 := (hk.at_ (HB.out.2.2.2.1.at_.alloc _) (fun x => x)).frozen n; have z1 := (hk.at_ (HB.out.2.2.2.1.at_.alloc _) (fun x => x)).lt; have ab := hk.at_ HB.out.1 (fun x => x); have b0 := ab.cell 0; have b1 := ab.cell 1; have b2 := ab.cell 2; have b3 := ab.cell 3; have zb := ab.lt; simp only [List.getElem?_toArray, List.getElem?_cons_succ, List.getElem?_cons_zero] at b0 b1 b2 b3; obtain ⟨hq, hsm⟩ := HF.out w1 hk; have HQ := Lib.hid hq; clear hk htg hq ab)
      go_region_with (go_at_call 54; refine hsm.mono ?_; rintro e w2 ⟨rfl, hk⟩; have HK2 := Lib.hid hk; clear hk hsm)
      all_goals (
        go_wp2_with fail
        go_ret
        exact ⟨_, rfl, HQ.out.1.step ((Keep.refl (fun _ => False) _).drew.trans HK2.out (fun _ _ x => x)), HQ.out.2.trans ((Keep.refl (fun i => i = bo) _).drew.trans HK2.out (fun _ _ x => x.elim)) (fun _ _ x => x)⟩)
    | some m =>
      rw [putT_some hn hm]
      obtain ⟨pb, ⟨mk, mnm, mAn, mnn, mcn, mAk, mnk, mck⟩, hc0, hpa, hmr⟩ := HB.out.2.2.2.1.has n m hm
      have hpa' : At w pb 25 #[.int .i64 mk, .string mnm, .slice mAn mnn mcn, .slice mAk mnk mck] := hpa
      have HP := Lib.hid hpa'
      clear hneg hos hpa hpa'
      have hfin : ∀ w1, Keep (fun _ => False) (w.alloc (.cells #[.int .i64 kk, .string nm, .slice An nn cn, .slice Ak nk ck] 25)) w1 →
          Calls Tryd.prog 54 #[.agg #[.int .i64 kk, .string nm, .slice An nn cn, .slice Ak nk ck], .agg #[.int .i64 mk, .string mnm, .slice mAn mnn mcn, .slice mAk mnk mck]] w1.drew fun e w' => e = .returned (.bool (sameT k m)) ∧ Keep (fun _ => False) w1.drew w' := by
        intro w1 hk
        obtain ⟨h1, h2, h3, h4, h5⟩ := HB.out
        have hk2 := ((h3.trans h2 (fun _ _ x => x)).trans hk (fun _ _ x => x)).drew
        have := same_any k m w1.drew ⟨kk, nm, An, nn, cn, Ak, nk, ck⟩ ⟨mk, mnm, mAn, mnn, mcn, mAk, mnk, mck⟩ (h5.step hk2) (hmr.step hk2)
        exact this
      have HF := Lib.hid hfin
      clear hfin hmr hr hk0
      go_enter Tryd.func87, Tryd.ntmps87
      go_wp2_with (go_at_call 69; refine htg.mono ?_; rintro e w1 ⟨rfl, hk⟩; have c1 := (hk.at_ (HB.out.2.2.2.1.at_.alloc _) (fun x => x)).cell n; rw [hc0] at c1; have z1 := (hk.at_ (HB.out.2.2.2.1.at_.alloc _) (fun x => x)).lt; have ab := hk.at_ HB.out.1 (fun x => x); have b0 := ab.cell 0; have b1 := ab.cell 1; have b2 := ab.cell 2; have b3 := ab.cell 3; have zb := ab.lt; have am := hk.at_ (HP.out.alloc _) (fun x => x); have m0 := am.cell 0; have m1 := am.cell 1; have m2 := am.cell 2; have m3 := am.cell 3; have zm := am.lt; simp only [List.getElem?_toArray, List.getElem?_cons_succ, List.getElem?_cons_zero] at b0 b1 b2 b3 m0 m1 m2 m3; have hsm := HF.out w1 hk; have HK := Lib.hid hk; clear hk htg ab am)
      go_region_with (go_at_call 54; refine hsm.mono ?_; rintro e w2 ⟨rfl, hk⟩; have HK2 := Lib.hid hk; clear hk hsm)
      all_goals (
        go_wp2_with fail
        go_ret
        obtain ⟨h1, h2, h3, h4, h5⟩ := HB.out
        exact ⟨cs, rfl, ((h4.step h2).step HK.out).step ((Keep.refl (fun _ => False) _).drew.trans HK2.out (fun _ _ x => x)), ((h2.trans HK.out (fun _ _ x => x)).trans ((Keep.refl (fun _ => False) _).drew.trans HK2.out (fun _ _ x => x)) (fun _ _ x => x)).mono (fun _ _ x => x.elim)⟩)
end Go.Proofs.YtbanpohholnkaaaDoor
