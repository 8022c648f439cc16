/-
  Walk: (*Arena).marks: the walk. Conditions: as before.
-/
import Derived.Test.YtaklhkghjklkhaaWMarks2
namespace Go.Proofs.Ytaklhkghjklkhaa
open Go.RowKit
set_option maxHeartbeats 2000000 in
theorem marks_any {p n : Nat} {v lv : Value} {S : Ar} {ch : Nat → List Nat} {roots : List Int} {w : World} (h : ArV w p v (setM S fun _ => false)) (hCh : Chains S ch) (hlv : w.ownsRow 0 3 1 lv roots.length (ints roots))
    (hn : roots.length + wsum ch (fun _ => false) S.cs.length = n) (hn1 : n < 1099511627775) :
    Calls Try.prog 23 #[.pointer (some ⟨p, 0, none⟩), lv] w fun e w' => e = .returned (.tuple #[]) ∧ ∃ M, ArV w' p v (setM S M) ∧ (∀ i, M i = true ↔ Reach S ch roots i) ∧ Keep (fun k => fp p v k ∨ lv.ownBlock = some k) w w' := by
  have hne : ∀ i, fp p v i → lv.ownBlock ≠ some i := by
    intro i hi
    rcases hi with rfl | hi
    · exact own_at hlv h.head (by decide)
    · rcases own_cases h.own with ⟨rfl, _, _⟩ | ⟨g, cap, rfl, _, _⟩
      · simp [Value.ownBlock] at hi
      · have : g = i := by simpa [Value.ownBlock] using hi
        subst this
        exact own_own hlv h.own (by decide)
  obtain ⟨A0, cap0, rfl⟩ := own_slice hlv
  generalize hroots : roots.length = n0 at *
  have HR0 := Lib.hid hroots
  clear hroots
  have H0 : Hid (MarksInv w (fun k => fp p v k ∨ (Value.ownBlock (.slice A0 n0 cap0)) = some k) p v S ch roots w.heap.size n (w.alloc (.cells #[.slice A0 n0 cap0] 27))) :=
    ⟨fun _ => false, roots, .slice A0 n0 cap0, h.keep ((Keep.refl (fun _ => False) w).alloc _) (fun i hi hx => hx), At.new w _ _, (by rw [HR0.out]; exact hlv.alloc _), .start S ch roots, (by rw [HR0.out]; exact hn.symm), hn1, (Keep.refl _ w).alloc _, fun i hi => .inl (.inr hi)⟩
  have HN : Hid ((∀ i, fp p v i → (Value.ownBlock (.slice A0 n0 cap0)) ≠ some i) ∧ (∀ i, fp p v i → i < w.heap.size) ∧ ∀ i, (Value.ownBlock (.slice A0 n0 cap0)) = some i → i < w.heap.size) := ⟨hne, h.lt, fun i hi => own_lt hlv hi⟩
  have HCh := Lib.hid hCh
  clear h hCh hlv hn hn1 hne
  go_enter Try.func23, Try.ntmps23
  go_wp2
  go_loopg [] n (MarksInv w (fun k => fp p v k ∨ (Value.ownBlock (.slice A0 n0 cap0)) = some k) p v S ch roots w.heap.size)
  case atStart => exact H0.out
  case round =>
    clear H0
    obtain ⟨M, todo, tv, h, hq, ho, hJ, rfl, hk1, hk, hf⟩ := hrel
    have hq0 : wr.cell? ⟨w.heap.size, 0, none⟩ = some tv := hq.cell 0
    rcases List.eq_nil_or_concat todo with rfl | ⟨t1, r, rfl⟩
    · obtain ⟨A, cap, rfl⟩ : ∃ A cap, tv = .slice A 0 cap := by
        rcases own_cases ho with ⟨rfl, _, _⟩ | ⟨g, cap, rfl, _⟩
        · exact ⟨none, 0, rfl⟩
        · exact ⟨_, cap, rfl⟩
      have HX := Lib.hid (And.intro h (And.intro hJ hk))
      clear h hJ hk hq ho hf hk1
      go_wp2
      go_end0
      obtain ⟨h, hJ, hk⟩ := HX.out
      exact ⟨rfl, M, h, hJ.done, hk⟩
    · simp only [List.concat_eq_append] at ho hJ hk1
      have hL : (t1 ++ [r]).length = t1.length + 1 := by simp
      have hR : (ints (t1 ++ [r]))[t1.length]? = some (.int .i64 r) := by simp [ints]
      rw [hL] at ho hk1
      obtain ⟨tg, cap, rfl, hcap, htg⟩ : ∃ g cap, tv = .slice (some ⟨g, 0, none⟩) (t1.length + 1) cap ∧ t1.length + 1 ≤ cap ∧ g < wr.heap.size := by
        rcases own_cases ho with ⟨_, h0, _⟩ | ⟨g, cap, rfl, h1, h2⟩
        · omega
        · exact ⟨g, cap, rfl, h1, h2⟩
      have hcr : wr.cell? ⟨tg, t1.length, none⟩ = some (.int .i64 r) := by rw [ho.cellAt _ (by omega)]; exact hR
      have hqf := hq.frozen
      have hqz := hq.lt
      have ho1 : wr.ownsRow 0 3 1 (.slice (some ⟨tg, 0, none⟩) t1.length cap) t1.length (ints t1) := by
        rw [ints_append] at ho
        exact ownsRow_pop (by simp [ints]) ho
      have hpq : ∀ i, fp p v i → i ≠ w.heap.size := fun i hi e => by have := HN.out.2.1 i hi; omega
      have HA : ∀ u, ArV (wr.setCell ⟨w.heap.size, 0, none⟩ u) p v (setM S M) := fun u =>
        ⟨h.head.far (hpq p (.inl rfl)) u, ownsRow_setCell_ne h.own (fun e => hpq _ (.inr e) rfl) u⟩
      have HQ := Lib.hid (hq.set 0 (.slice (some ⟨tg, 0, none⟩) t1.length cap))
      have HK := Lib.hid (hk.setCell (p := ⟨w.heap.size, 0, none⟩) (.inr (Nat.le_refl _)) (.slice (some ⟨tg, 0, none⟩) t1.length cap))
      have hgq : tg ≠ w.heap.size := own_ne_at ho hq (by decide)
      have HO := Lib.hid (ownsRow_setCell_ne ho1 (a := ⟨w.heap.size, 0, none⟩) (by simpa [Value.ownBlock] using hgq) (.slice (some ⟨tg, 0, none⟩) t1.length cap))
      have HI := is_any (HA (.slice (some ⟨tg, 0, none⟩) t1.length cap)) r
      rw [setM_isB] at HI
      have HAA := Lib.hid HA
      have HJ := Lib.hid hJ
      have HF := Lib.hid hf
      clear hq hk h HA hJ hf ho ho1 hL hR hpq hgq
      generalize hm : t1.length = m at *
      have HM := Lib.hid hm
      clear hm
      cases hb : isB S r with
      | false =>
        rw [hb] at HI
        have HB := Lib.hid hb
        clear hb
        go_wp2_with (go_at_call 21; refine HI.mono ?_; rintro e w' ⟨rfl, rfl⟩)
        go_roundg (t1.length + wsum ch M S.cs.length)
        case measure => simp
        case rel =>
          have hm := HM.out
          subst hm
          exact ⟨M, t1, _, HAA.out _, HQ.out, HO.out, HJ.out.skip (.inl HB.out), rfl, by omega, HK.out, HF.out⟩
      | true =>
        rw [hb] at HI
        obtain ⟨k, c, rfl, hc, hfi⟩ := isB_true hb
        have hkl : k < S.cs.length := (List.getElem?_eq_some_iff.1 hc).1
        have hcM : (setM S M).cs[k]? = some { c with mark := M k } := by rw [setM_get, hc]; rfl
        obtain ⟨g, cap2, hv, hcc, hg, hpg, fg, hcell⟩ := (HAA.out (.slice (some ⟨tg, 0, none⟩) m cap)).form (i := k) (by rw [setM_length]; exact hkl)
        rw [setM_length] at hv
        subst hv
        obtain ⟨_, _, _, _, z4⟩ := hcell k _ hcM
        simp only at z4
        rw [setM_length] at hcc
        obtain ⟨y0, _⟩ := (HAA.out (.slice (some ⟨tg, 0, none⟩) m cap)).lens
        have hp := (HAA.out (.slice (some ⟨tg, 0, none⟩) m cap)).head.lt
        have HB := Lib.hid (And.intro hb (And.intro hc hfi))
        clear hb hc hfi hcM hcell
        cases hmk : M k with
        | true =>
          rw [hmk] at z4
          have HMK := Lib.hid hmk
          clear hmk
          go_wp2_with (go_at_call 21; refine HI.mono ?_; rintro e w' ⟨rfl, rfl⟩)
          go_roundg (t1.length + wsum ch M S.cs.length)
          case measure => simp
          case rel =>
            have hm := HM.out
            subst hm
            exact ⟨M, t1, _, HAA.out _, HQ.out, HO.out, HJ.out.skip (.inr ⟨k, rfl, HMK.out⟩), rfl, by omega, HK.out, HF.out⟩
        | false =>
          rw [hmk] at z4
          have hm := HM.out
          obtain ⟨hb, hc, hfi⟩ := HB.out
          have hw1 := wsum_mark ch M k S.cs.length hkl hmk
          have hsz : (wr.setCell ⟨w.heap.size, 0, none⟩ (.slice (some ⟨tg, 0, none⟩) m cap)).heap.size = wr.heap.size := by simp
          have hA2 := setM_set (HAA.out (.slice (some ⟨tg, 0, none⟩) m cap)) hc hpg
          have hqg : w.heap.size ≠ g := fun e => by have := HN.out.2.1 g (.inr rfl); omega
          have htgg : tg ≠ g := by
            have := own_own HO.out (HAA.out (.slice (some ⟨tg, 0, none⟩) m cap)).own (by decide)
            simpa [Value.ownBlock] using this
          have htp : tg ≠ p := own_ne_at HO.out (HAA.out (.slice (some ⟨tg, 0, none⟩) m cap)).head (by decide)
          have hq2 := HQ.out.far (p := ⟨g, k * 5 + 4, none⟩) hqg (.bool true)
          have ho2 := ownsRow_setCell_ne HO.out (a := ⟨g, k * 5 + 4, none⟩) (by simpa [Value.ownBlock] using htgg) (.bool true)
          have hcM : (setM S (markAt M k)).cs[k]? = some { c with mark := true } := by rw [setM_get, hc]; simp [markAt]
          have hch := setM_chain S (markAt M k) (HCh.out k c hc hfi)
          have HE := each_any (f := 30) (capt := #[.pointer (some ⟨w.heap.size, 0, none⟩)]) (MkI ((wr.setCell ⟨w.heap.size, 0, none⟩ (.slice (some ⟨tg, 0, none⟩) m cap)).setCell ⟨g, k * 5 + 4, none⟩ (.bool true)) (fun i => i = w.heap.size ∨ i = tg) p (.slice (some ⟨g, 0, none⟩) S.cs.length cap2) (setM S (markAt M k)) w.heap.size t1 (ch k))
            (fun j W hi => hi.1)
            ⟨hA2, .slice (some ⟨tg, 0, none⟩) m cap, hq2, (by simpa [slotsOf, hm] using ho2), Keep.refl _ _, fun i hi => .inl (.inr (by simpa [Value.ownBlock] using hi.symm))⟩ hcM hch
            (mk_step (by
              intro i hi
              rcases hi with rfl | hi
              · exact ⟨fun hx => by rcases hx with hx | hx; exact absurd (HN.out.2.1 i (.inl rfl)) (by omega); exact htp hx.symm, hA2.head.lt⟩
              · have hgi : g = i := by simpa [Value.ownBlock] using hi
                subst hgi
                exact ⟨fun hx => by rcases hx with hx | hx; exact hqg hx.symm; exact htgg hx.symm, by simpa using hg⟩) (.inl (.inl rfl)) hch (by omega)) call30
          have HMK := Lib.hid (And.intro hmk (And.intro hw1 (And.intro htgg htp)))
          have HHM := Lib.hid hm
          clear hmk hA2 hqg htgg htp hq2 ho2 hcM hch hm hb hc hfi hw1 hsz
          go_wp2_with (first | (go_at_call 21; refine HI.mono ?_; rintro e w' ⟨rfl, rfl⟩) | (go_at_call 28; refine HE.mono ?_; rintro e w' ⟨rfl, hi⟩; have HHI := Lib.hid hi; clear hi))
          obtain ⟨hmk, hw1, htgg, htp⟩ := HMK.out
          obtain ⟨ha, lv, hq3, ho3, hk3, hf3⟩ := HHI.out
          rw [setM_slots, List.take_length] at ho3
          have hs1 := adds_sum (slotsOf S.cs (ch k))
          rw [slotsOf_length] at hs1
          have hm := HHM.out
          go_roundg ((t1 ++ (slotsOf S.cs (ch k)).flatMap adds).length + wsum ch (markAt M k) S.cs.length)
          case measure => simp only [List.concat_eq_append, List.length_append, List.length_cons, List.length_nil]; omega
          case rel =>
            refine ⟨markAt M k, _, lv, ha, hq3, ho3, HJ.out.mark HB.out.1, rfl, ?_, ?_, ?_⟩
            · simp only [List.length_append]; omega
            · refine Keep.trans (Keep.setCell HK.out (p := ⟨g, k * 5 + 4, none⟩) (.inl (.inl (.inr rfl))) _) hk3 ?_
              intro i hi hx
              rcases hx with rfl | rfl
              · omega
              · rcases HF.out i (by simp [Value.ownBlock]) with h | h
                · exact h
                · omega
            · intro i hi
              rcases hf3 i hi with (rfl | rfl) | h
              · exact .inr (Nat.le_refl _)
              · exact HF.out i (by simp [Value.ownBlock])
              · have := HK.out.size; simp only [World.size_setCell] at this h; exact .inr (by omega)
end Go.Proofs.Ytaklhkghjklkhaa
