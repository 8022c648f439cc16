/-
  Walk: (*Arena).Collect. Conditions: the arena lies in memory in its order, no mark set; counts below 2^19.
-/
import Derived.Test.YtaklhkghjklkhaaInv2
namespace Go.Proofs.Ytaklhkghjklkhaa
open Go.RowKit

def ColInv (w : World) (X : Nat → Prop) (p : Nat) (v : Value) (S0 : Ar) (O0 : List Ob) (M : Nat → Bool) (k : Nat) (a : Value) (wr : World) : Prop :=
  ∃ (i : Nat) (S : Ar) (fl : List Nat) (own : Nat → Nat), a = .int .i64 i ∧ k = S0.cs.length - i ∧ i ≤ S0.cs.length ∧ ArV wr p v S ∧ S.cs.length = S0.cs.length ∧ S.most = S0.most ∧
    Inv S (Mfrom M i) (O0.filter fun o => decide (i ≤ o.1) || M o.1) fl [] own ∧ (∀ o ∈ O0.filter (fun o => decide (i ≤ o.1) || M o.1), slotsOf S.cs o.2 = slotsOf S0.cs o.2) ∧ Keep X w wr

theorem strike_ar {w : World} {p g i cap : Nat} {S : Ar} {c : Ce} (h : ArV w p (.slice (some ⟨g, 0, none⟩) S.cs.length cap) S) (hc : S.cs[i]? = some c) (hpg : p ≠ g) :
    ArV (w.setCell ⟨g, i * 5 + 4, none⟩ (.bool false)) p (.slice (some ⟨g, 0, none⟩) S.cs.length cap) (strike S i c) := by
  refine ⟨h.head.far (p := ⟨g, i * 5 + 4, none⟩) hpg _, ?_⟩
  have o2 := (h.own.stored (i * 5 + 4) (.bool false)).1
  rw [← flat_set_mark _ i _ hc false] at o2
  simpa [strike] using o2

theorem Inv.of_set {S : Ar} {O : List Ob} {fl : List Nat} {own : Nat → Nat} (h : Inv S F0 O fl [] own) {M : Nat → Bool} (hM : ∀ i, M i = true → isB S i = true) : Inv (setM S M) (Mfrom M 0) O fl [] own := by
  have hnext : ∀ k : Nat, ((setM S M).cs[k]?).map (·.next) = (S.cs[k]?).map (·.next) := fun k => by rw [setM_get]; cases S.cs[k]? <;> rfl
  refine ⟨?_, ?_, chain_congr h.free fun k _ => hnext k, h.fnd, h.fown, (fun k hk => nomatch hk), ?_, h.keys, h.used, h.objects, ?_⟩
  · intro k c hc
    rw [setM_get] at hc
    cases hd : S.cs[k]? with
    | none => rw [hd] at hc; cases hc
    | some d => rw [hd] at hc; simp only [Option.map_some, Option.some.injEq] at hc; subst hc; simp [Mfrom]
  · intro k c hc
    rw [setM_get] at hc
    cases hd : S.cs[k]? with
    | none => rw [hd] at hc; cases hc
    | some d => rw [hd] at hc; simp only [Option.map_some, Option.some.injEq] at hc; subst hc; exact h.first k d hd
  · intro o ho
    obtain ⟨⟨d, hd, hdc⟩, h1, h2⟩ := h.obj o ho
    exact ⟨⟨{ d with mark := M o.1 }, by rw [setM_get, hd]; rfl, chain_congr hdc fun k _ => hnext k⟩, h1, h2⟩
  · intro k c hc hm
    rw [setM_get] at hc
    cases hd : S.cs[k]? with
    | none => rw [hd] at hc; cases hc
    | some d =>
      rw [hd] at hc
      simp only [Option.map_some, Option.some.injEq] at hc
      subst hc
      have := hM k hm
      rwa [isB_at hd] at this
theorem Inv.setF {S : Ar} {O : List Ob} {fl part : List Nat} {own : Nat → Nat} (h : Inv S F0 O fl part own) : setM S (fun _ => false) = S := by
  have : S.cs.mapIdx (fun i c => ({ c with mark := false } : Ce)) = S.cs := by
    apply List.ext_getElem?
    intro k
    rw [List.getElem?_mapIdx]
    cases hd : S.cs[k]? with
    | none => rfl
    | some d =>
      have := h.mark k d hd
      cases d
      simp only [F0] at this
      subst this
      rfl
  unfold setM
  rw [this]
theorem filter_zero (O : List Ob) (M : Nat → Bool) : (O.filter fun o => decide (0 ≤ o.1) || M o.1) = O := List.filter_eq_self.2 fun o _ => by simp
theorem filter_end {S : Ar} {M : Nat → Bool} {O : List Ob} {fl : List Nat} {own : Nat → Nat} (h : Inv S M O fl [] own) (M' : Nat → Bool) : (O.filter fun o => decide (S.cs.length ≤ o.1) || M' o.1) = O.filter fun o => M' o.1 := by
  apply List.filter_congr
  intro o ho
  have := obj_lt h ho o.1 (by simp)
  have e : decide (S.cs.length ≤ o.1) = false := by simp; omega
  rw [e, Bool.false_or]
theorem Inv.ofM {S : Ar} {M M' : Nat → Bool} {O : List Ob} {fl part : List Nat} {own : Nat → Nat} (h : Inv S M O fl part own) (e : ∀ k, k < S.cs.length → M k = M' k) : Inv S M' O fl part own :=
  ⟨fun k c hc => (h.mark k c hc).trans (e k (List.getElem?_eq_some_iff.1 hc).1), h.first, h.free, h.fnd, h.fown, h.pown, h.obj, h.keys, h.used, h.objects, h.mkey⟩

def CollectPost (w : World) (p : Nat) (v : Value) (S : Ar) (O : List Ob) (rs : List Int) (e : Ending) (w' : World) : Prop :=
  ∃ (S' : Ar) (fl' : List Nat) (own' : Nat → Nat) (M : Nat → Bool), e = .returned (.int .i64 (S.used - S'.used)) ∧ ArV w' p v S' ∧ S'.cs.length = S.cs.length ∧ S'.most = S.most ∧ (∀ i, M i = true ↔ Reach S (chOf O) rs i) ∧
      Inv S' F0 (O.filter fun o => M o.1) fl' [] own' ∧ (∀ o ∈ O.filter (fun o => M o.1), slotsOf S'.cs o.2 = slotsOf S.cs o.2) ∧ Keep (fp p v) w w'

set_option maxHeartbeats 2000000 in
theorem collect_any {p n : Nat} {v rv : Value} {S : Ar} {O : List Ob} {fl : List Nat} {own : Nat → Nat} {rs : List Int} {w : World} (h : ArV w p v S) (hI : Inv S F0 O fl [] own) (hr : Rd w (fun _ => False) 1 rv n (ints rs)) (hn : n = rs.length)
    (hN : S.cs.length ≤ 500000) (hn1 : n ≤ 500000) :
    Calls Try.prog 12 #[.pointer (some ⟨p, 0, none⟩), rv] w (CollectPost w p v S O rs) := by
  have hu := hI.used
  have hob : obsum O ≤ 500000 * 500000 := Nat.le_trans hI.obsum_le (Nat.mul_le_mul hN hN)
  have hws : wsum (chOf O) (fun _ => false) S.cs.length ≤ 500000 * 500001 := Nat.le_trans (hI.wsum_le _) (Nat.mul_le_mul hN (by omega))
  obtain ⟨A0, cap0, rfl⟩ := h.val
  obtain ⟨z0, z1, z2, z3, z4⟩ := h.lens
  have H := Lib.hid h
  have HI := Lib.hid hI
  have HR := Lib.hid hr
  have hn2 : 0 + n ≤ 1099511627776 := by omega
  have hu0 : 0 ≤ S.used := by simp only [List.length_nil] at hu; omega
  have hu2 : S.used ≤ 250000000000 := by simp only [List.length_nil] at hu; omega
  have HN := Lib.hid (And.intro hn (And.intro hN (And.intro hn1 (And.intro hob (And.intro hws (And.intro hu0 hu2))))))
  obtain ⟨_, Ax, capr, rfl, _⟩ := hr
  clear h hI hu hob z1 z2 z4 hws hu0 hu2
  subst hn
  generalize hm : rs.length = n at *
  have HM := Lib.hid hm
  clear hm
  go_enter Try.func12, Try.ntmps12
  go_wp2_with (first | (at_builtin; refine wpList_app_rd rfl (.const (.slice none 0 0)) (.tmp 13) 27 rfl E3 (.slice none 0 0) 0 [] rfl (World.ownsRow_nil _ 0 3 1) (.slice Ax n capr) n (ints rs) rfl HR.out (by intro u hu; obtain ⟨_, _, rfl⟩ := List.mem_map.1 hu; rfl) hn2 (by decide) ?_))
  intro lv w1 ho hk1 hf1
  have HO := Lib.hid (And.intro ho (And.intro hk1 hf1))
  have hmk := marks_any (n := rs.length + wsum (chOf O) (fun _ => false) S.cs.length) (roots := rs) (ch := chOf O) (lv := lv) (w := w1) (p := p) (v := .slice A0 S.cs.length cap0) (S := S) (by rw [HI.out.setF]; exact H.out.keep hk1 (fun i _ hx => by simp [Value.ownBlock] at hx)) HI.out.chains (by rw [HM.out]; simpa using ho) rfl (by rw [HM.out]; have := HN.out.2.2.2.2.1; have := HN.out.2.2.1; omega)
  clear ho hk1 hf1 z0
  go_wp2_with (go_at_call 23; refine hmk.mono ?_; rintro e w' ⟨rfl, hM⟩; obtain ⟨M, ha, hR, hk⟩ := hM; have y0 := ha.lens.1; have HX := Lib.hid (And.intro ha (And.intro hR hk)); clear ha hR hk)
  obtain ⟨ha, hR, hk⟩ := HX.out
  obtain ⟨ho, hk1, hf1⟩ := HO.out
  have hMB : ∀ i, M i = true → isB S i = true := by
    intro i hi
    cases (hR i).1 hi with
    | root _ h => exact h
    | step _ _ _ _ h => exact h
  have h0 : Hid (ColInv w (fp p (.slice A0 S.cs.length cap0)) p (.slice A0 S.cs.length cap0) S O M S.cs.length (.int .i64 0) w') :=
    ⟨0, setM S M, fl, own, rfl, rfl, Nat.zero_le _, ha, setM_length S M, rfl, by rw [filter_zero]; exact HI.out.of_set hMB, fun o _ => setM_slots S M o.2, by
      refine (hk1.mono (fun i _ hx => by simp [Value.ownBlock] at hx)).trans hk ?_
      intro i hi hx
      rcases hx with hx | hx
      · exact hx
      · rcases hf1 i hx with h | h
        · simp [Value.ownBlock] at h
        · omega⟩
  clear ha hR hk ho hk1 hf1 hMB y0
  go_loopg [21] S.cs.length (ColInv w (fp p (.slice A0 S.cs.length cap0)) p (.slice A0 S.cs.length cap0) S O M)
  case atStart => exact h0.out
  case round =>
    clear h0 hmk z3
    obtain ⟨i, S1, fl1, own1, rfl, rfl, hi, ha, hlen, hmost, hI1, hsl, hk⟩ := hrel
    obtain ⟨y0, y1, y2, y3, y4⟩ := ha.lens
    have hp := ha.head.lt
    by_cases hlt : i < S.cs.length
    · have hlt1 : i < S1.cs.length := by omega
      obtain ⟨g, cap, hv, hcc, hg, hpg, fg, hcell⟩ := ha.form hlt1
      rw [hlen] at hv
      simp only [Value.slice.injEq, true_and] at hv
      obtain ⟨rfl, rfl⟩ := hv
      obtain ⟨c, hc⟩ : ∃ c, S1.cs[i]? = some c := ⟨_, List.getElem?_eq_getElem hlt1⟩
      obtain ⟨_, _, _, x3, x4⟩ := hcell i c hc
      have hk1 : ∀ u, Keep (fp p (.slice (some ⟨g, 0, none⟩) S.cs.length cap0)) w (wr.setCell ⟨g, i * 5 + 4, none⟩ u) := fun u => hk.setCell (p := ⟨g, i * 5 + 4, none⟩) (.inl (.inr rfl)) u
      have hst := strike_ar (by rw [hlen]; exact ha) hc hpg
      rw [hlen] at hst
      have hd : decide ((i : Int) < (S.cs.length : Int)) = true := by simp; exact hlt
      by_cases hdrop : c.first = true ∧ c.mark = false
      · obtain ⟨hf, hm⟩ := hdrop
        obtain ⟨o, ho, hoi⟩ := (hI1.first i c hc).1 hf
        obtain ⟨⟨c', hc', hch⟩, hnd, _⟩ := hI1.obj o ho
        rw [hoi] at hc' hnd
        rw [hc] at hc'
        simp only [Option.some.injEq] at hc'
        subst hc'
        have hMi : M i = false := by
          have := hI1.mark i c hc
          rw [hm] at this
          simpa [Mfrom] using this.symm
        obtain ⟨fl2, own2, hI2, hsl2⟩ := hI1.dropped ho hoi
        rw [hoi, filter_dropped hMi] at hI2 hsl2
        have hoL := obsum_filter _ o ho hI1.keys
        have hu1 := hI1.used
        have hob1 := hI1.objects
        have hol := hI1.obs_le
        have hosum : obsum (O.filter fun o => decide (i ≤ o.1) || M o.1) ≤ 250000000000 := Nat.le_trans hI1.obsum_le (by rw [hlen]; exact Nat.mul_le_mul HN.out.2.1 HN.out.2.1)
        simp only [List.length_nil] at hu1
        have hdr := drop_any (l := i :: o.2) ha ⟨rfl, c, hc, hch⟩ hnd (by simp only [List.length_cons]; omega) (by omega) (by rw [hlen]; omega) (by omega) (by omega)
        have hlen2 : (dropL S1 (i :: o.2)).cs.length = S.cs.length := by rw [dropL_length]; exact hlen
        have hz2 : ∃ d, (dropL S1 (i :: o.2)).cs[i]? = some d ∧ d.mark = false := by
          obtain ⟨_, _, a3, _⟩ := dropL_spec (i :: o.2) S1 fl1 hI1.free (by rw [← hoi]; exact obj_lt hI1 ho) hnd (by
            intro k hk hkf
            have h1 := hI1.fown k hkf
            have h2 := (hI1.obj o ho).2.2 k (by rw [hoi]; exact hk)
            omega)
          obtain ⟨x, hx⟩ := a3 i (by simp)
          exact ⟨_, hx, rfl⟩
        have hmost2 : (dropL S1 (i :: o.2)).most = S.most := by
          obtain ⟨_, _, _, _, a5, _⟩ := dropL_spec (i :: o.2) S1 fl1 hI1.free (by rw [← hoi]; exact obj_lt hI1 ho) hnd (by
            intro k hk hkf
            have h1 := hI1.fown k hkf
            have h2 := (hI1.obj o ho).2.2 k (by rw [hoi]; exact hk)
            omega)
          rw [a5]; exact hmost
        have HZ := Lib.hid (And.intro hlen2 (And.intro hmost2 (And.intro hI2 (And.intro hz2 (And.intro (fun x hx => (hsl2 x hx).trans (hsl x (filt_sub hx))) hk)))))
        rw [hf] at x3
        rw [hm] at x4
        clear hlen2 hmost2 hI2 hz2 hsl2 hsl hk hk1 hst hI1 hoL hu1 hob1 hol hosum hMi hnd hch hc hcell ho hoi ha hmost hlen hf hm hcc y1 y2 y4 hi hlt1
        go_wp2_with (go_at_call 24; refine hdr.mono ?_; rintro e w2 ⟨rfl, hb⟩; obtain ⟨hb, hkb⟩ := hb; obtain ⟨q1, q2, q3, ⟨d, hd2, hdm⟩, q5, q6⟩ := HZ.out; obtain ⟨g', cap', hv', _, hg2, _, fg2, hcell2⟩ := hb.form (i := i) (by simp only; rw [q1]; exact hlt); simp only [Value.slice.injEq, Option.some.injEq, Addr.mk.injEq, and_true] at hv'; obtain ⟨rfl, hjunk, rfl⟩ := hv'; clear hjunk; have v4 := (hcell2 i d hd2).2.2.2.2; have HB := Lib.hid (And.intro hb (And.intro hkb (And.intro hd2 (And.intro hdm (And.intro q5 (And.intro q6 (And.intro q1 (And.intro q2 q3)))))))); clear hb hkb hd2 hdm q5 q6 q1 q2 q3 hcell2)
        obtain ⟨hb, hkb, hd2, hdm, q5, q6, q1, q2, q3⟩ := HB.out
        go_roundg (S.cs.length - (i + 1))
        case measure => omega
        case rel =>
          obtain ⟨S2, hS2⟩ : ∃ S2 : Ar, S2 = { dropL S1 (i :: o.2) with objects := S1.objects - 1 } := ⟨_, rfl⟩
          have hd3 : S2.cs[i]? = some d := by rw [hS2]; exact hd2
          have q1' : S2.cs.length = S.cs.length := by rw [hS2]; exact q1
          have q2' : S2.most = S.most := by rw [hS2]; exact q2
          have q5' : ∀ x ∈ O.filter (fun o => decide (i + 1 ≤ o.1) || M o.1), slotsOf S2.cs x.2 = slotsOf S.cs x.2 := by rw [hS2]; exact q5
          rw [← hS2] at hb q3
          have hst := strike_ar (by rw [q1']; exact hb) hd3 hpg
          rw [strike_same hd3 hdm, q1'] at hst
          refine ⟨i + 1, S2, _, _, by go_num, rfl, hlt, hst, q1', q2', q3, q5', ?_⟩
          exact Keep.setCell (p := ⟨g, i * 5 + 4, none⟩) (q6.trans hkb (fun _ _ hx => hx)) (.inl (.inr rfl)) _
      · have hkeep : (∀ o ∈ O, o.1 ≠ i) ∨ M i = true := by
          cases hf : c.first with
          | false =>
            left
            intro o ho he
            have := (hI1.first i c hc).2 ⟨o, List.mem_filter.2 ⟨ho, by simp [he]⟩, he⟩
            rw [hf] at this
            cases this
          | true =>
            right
            have hm : c.mark = true := by
              cases hm : c.mark with
              | true => rfl
              | false => exact absurd ⟨hf, hm⟩ hdrop
            have := hI1.mark i c hc
            rw [hm] at this
            simpa [Mfrom] using this.symm
        have hIk := hI1.kept hc
        rw [filter_kept hkeep] at hIk hsl
        have HZ := Lib.hid (And.intro hst (And.intro hlen (And.intro hmost (And.intro hIk (And.intro (fun o ho => (strike_slots hc o.2).trans (hsl o ho)) (hk1 (.bool false)))))))
        clear hst hlen hmost hIk hsl hk1 hI1 hk ha hcell hkeep y1 y2 y3 y4 hc
        have fin : ∀ (HZZ : Hid True), ∃ k', k' < S.cs.length - i ∧ k' = S.cs.length - (i + 1) := fun _ => ⟨_, by omega, rfl⟩
        clear fin
        cases hf : c.first with
        | false =>
          rw [hf] at x3
          clear hf hdrop
          go_wp2
          go_roundg (S.cs.length - (i + 1))
          case measure => omega
          case rel =>
            obtain ⟨a1, a2, a3, a4, a5, a6⟩ := HZ.out
            exact ⟨i + 1, _, _, _, by go_num, rfl, hlt, a1, by simpa [strike] using a2, a3, a4, a5, a6⟩
        | true =>
          cases hm : c.mark with
          | false => exact absurd ⟨hf, hm⟩ hdrop
          | true =>
            rw [hf] at x3
            rw [hm] at x4
            clear hf hm hdrop
            go_wp2
            go_roundg (S.cs.length - (i + 1))
            case measure => omega
            case rel =>
              obtain ⟨a1, a2, a3, a4, a5, a6⟩ := HZ.out
              exact ⟨i + 1, _, _, _, by go_num, rfl, hlt, a1, by simpa [strike] using a2, a3, a4, a5, a6⟩
    · have hie : i = S.cs.length := by omega
      have hd : decide ((i : Int) < (S.cs.length : Int)) = false := by simp; omega
      have HY := Lib.hid (And.intro hie (And.intro ha (And.intro hlen (And.intro hmost (And.intro hI1 (And.intro hsl hk))))))
      have hu1 := hI1.used
      have hob : obsum (O.filter fun o => decide (i ≤ o.1) || M o.1) ≤ 250000000000 := Nat.le_trans hI1.obsum_le (by rw [hlen]; exact Nat.mul_le_mul HN.out.2.1 HN.out.2.1)
      have b1 : 0 ≤ S1.used := by simp only [List.length_nil] at hu1; omega
      have b2 : S1.used ≤ 250000000000 := by simp only [List.length_nil] at hu1; omega
      have b3 := HN.out.2.2.2.2.2.1
      have b4 := HN.out.2.2.2.2.2.2
      clear hie ha hlen hmost hI1 hsl hk hu1 hob y1 y2 y4 hd
      go_wp2
      go_ret
      obtain ⟨hie, ha, hlen, hmost, hI1, hsl, hk⟩ := HY.out
      subst hie
      have hI2 := hI1.ofM (M' := F0) (fun k hk => Mfrom_end (by omega))
      rw [filter_end HI.out M] at hI2 hsl
      exact ⟨S1, fl1, own1, M, rfl, ha, hlen, hmost, HX.out.2.1, hI2, hsl, hk⟩
end Go.Proofs.Ytaklhkghjklkhaa
