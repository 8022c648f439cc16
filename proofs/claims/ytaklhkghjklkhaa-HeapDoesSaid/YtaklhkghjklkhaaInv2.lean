/-
  The arena's order behind a drop, and behind a round of Collect. Conditions: none; plain lemmas.
-/
import Derived.Test.YtaklhkghjklkhaaInv
namespace Go.Proofs.Ytaklhkghjklkhaa
open Go.RowKit

theorem dropL_spec : ∀ (l : List Nat) (S : Ar) (fl : List Nat), chain S.cs S.free fl → (∀ k ∈ l, k < S.cs.length) → l.Nodup → (∀ k ∈ l, k ∉ fl) →
    chain (dropL S l).cs (dropL S l).free (l.reverse ++ fl) ∧ (∀ k, k ∉ l → (dropL S l).cs[k]? = S.cs[k]?) ∧ (∀ k ∈ l, ∃ x, (dropL S l).cs[k]? = some ⟨false, 0, x, false, false⟩) ∧
      (dropL S l).used = S.used - l.length ∧ (dropL S l).most = S.most ∧ (dropL S l).objects = S.objects
  | [], S, fl, h, _, _, _ => by simpa [dropL] using h
  | k :: l, S, fl, h, hlt, hnd, hfl => by
    obtain ⟨hk, hnd'⟩ := List.nodup_cons.1 hnd
    have hkl : k < S.cs.length := hlt k (by simp)
    have h1 : chain (drop1 S k).cs (drop1 S k).free (k :: fl) := ⟨rfl, ⟨false, 0, S.free, false, false⟩, by simp [drop1, hkl], chain_set h (hfl k (by simp))⟩
    obtain ⟨a, b, c, d, e, f⟩ := dropL_spec l (drop1 S k) (k :: fl) h1 (fun j hj => by simpa [drop1] using hlt j (by simp [hj])) hnd' (fun j hj hm => by
      rcases List.mem_cons.1 hm with rfl | hm
      · exact hk hj
      · exact hfl j (by simp [hj]) hm)
    refine ⟨by simpa [dropL] using a, ?_, ?_, ?_, e, f⟩
    · intro j hj
      simp only [List.mem_cons, not_or] at hj
      rw [dropL, b j hj.2]
      simp only [drop1]
      rw [List.getElem?_set_ne (fun e => hj.1 e.symm)]
    · intro j hj
      rcases List.mem_cons.1 hj with rfl | hj
      · rw [dropL, b j hk]
        exact ⟨S.free, by simp [drop1, hkl]⟩
      · exact c j hj
    · rw [dropL, d]
      simp only [drop1, List.length_cons]
      omega

def Mfrom (M : Nat → Bool) (i : Nat) : Nat → Bool := fun k => decide (i ≤ k) && M k
theorem Mfrom_step (M : Nat → Bool) (i : Nat) (k : Nat) (hk : k ≠ i) : Mfrom M (i + 1) k = Mfrom M i k := by
  unfold Mfrom
  congr 1
  simp only [decide_eq_decide]
  omega
theorem Mfrom_at (M : Nat → Bool) (i : Nat) : Mfrom M (i + 1) i = false := by
  have : ¬ (i + 1 ≤ i) := by omega
  simp [Mfrom, this]

section
variable {S : Ar} {M : Nat → Bool} {O : List Ob} {fl : List Nat} {own : Nat → Nat} {i : Nat}
theorem obsum_filter (O : List Ob) (o : Ob) (ho : o ∈ O) (hk : (O.map (·.1)).Nodup) : obsum O = (o.2.length + 1) + obsum (O.filter fun x => x.1 != o.1) ∧ O.length = (O.filter fun x => x.1 != o.1).length + 1 := by
  induction O with
  | nil => cases ho
  | cons x O ih =>
    simp only [List.map_cons, List.nodup_cons, List.mem_map, not_exists, not_and] at hk
    rcases List.mem_cons.1 ho with rfl | ho
    · have e : O.filter (fun x => x.1 != o.1) = O := by
        apply List.filter_eq_self.2
        intro y hy
        simpa using fun e => hk.1 y hy e
      simp [obsum, e]
    · obtain ⟨a, b⟩ := ih ho hk.2
      have hne : (x.1 != o.1) = true := by simpa using fun e => hk.1 o ho e.symm
      simp only [obsum, List.map_cons, List.sum_cons, List.filter_cons, hne, if_true, List.length_cons] at a b ⊢
      omega
/-- A round that drops. -/
theorem Inv.dropped (h : Inv S (Mfrom M i) O fl [] own) {o : Ob} (ho : o ∈ O) (hi : o.1 = i) :
    ∃ fl' own', Inv { dropL S (o.1 :: o.2) with objects := S.objects - 1 } (Mfrom M (i + 1)) (O.filter fun x => x.1 != i) fl' [] own' ∧
      ∀ x ∈ O.filter (fun x => x.1 != i), slotsOf (dropL S (o.1 :: o.2)).cs x.2 = slotsOf S.cs x.2 := by
  subst hi
  obtain ⟨⟨c, hc, hch⟩, hnd, how⟩ := h.obj o ho
  have hlt := obj_lt h ho
  have hfl : ∀ k ∈ o.1 :: o.2, k ∉ fl := fun k hk hf => by have := h.fown k hf; have := how k hk; omega
  obtain ⟨a1, a2, a3, a4, a5, a6⟩ := dropL_spec (o.1 :: o.2) S fl h.free hlt hnd hfl
  have far : ∀ x ∈ O.filter (fun x => x.1 != o.1), x ∈ O ∧ x.1 ≠ o.1 ∧ ∀ k ∈ x.1 :: x.2, k ∉ o.1 :: o.2 := by
    intro x hx
    simp only [List.mem_filter, bne_iff_ne] at hx
    refine ⟨hx.1, hx.2, fun k hk hko => ?_⟩
    have h1 := (h.obj x hx.1).2.2 k hk
    have h2 := how k hko
    omega
  obtain ⟨s1, s2⟩ := obsum_filter O o ho h.keys
  refine ⟨(o.1 :: o.2).reverse ++ fl, fun k => if k ∈ o.1 :: o.2 then 0 else own k, ⟨?_, ?_, a1, ?_, ?_, (fun k hk => nomatch hk), ?_, ?_, ?_, ?_, ?_⟩, ?_⟩
  · intro k d hd
    simp only at hd
    by_cases hk : k ∈ o.1 :: o.2
    · obtain ⟨x, hx⟩ := a3 k hk
      rw [hx] at hd
      simp only [Option.some.injEq] at hd
      subst hd
      simp only
      by_cases e : k = o.1
      · subst e; exact (Mfrom_at M _).symm
      · rw [Mfrom_step M _ k e]
        obtain ⟨d', hd'⟩ : ∃ d', S.cs[k]? = some d' := ⟨_, List.getElem?_eq_getElem (hlt k hk)⟩
        have hm := h.mark k d' hd'
        cases hmk : Mfrom M o.1 k with
        | false => rfl
        | true =>
          exfalso
          rw [hmk] at hm
          obtain ⟨y, hy, he⟩ := (h.first k d' hd').1 (h.mkey k d' hd' hm)
          have h1 := (h.obj y hy).2.2 k (by simp [he])
          have h2 := how k hk
          omega
    · rw [a2 k hk] at hd
      have e : k ≠ o.1 := fun e => hk (by simp [e])
      rw [Mfrom_step M _ k e]
      exact h.mark k d hd
  · intro k d hd
    simp only at hd
    by_cases hk : k ∈ o.1 :: o.2
    · obtain ⟨x, hx⟩ := a3 k hk
      rw [hx] at hd
      simp only [Option.some.injEq] at hd
      subst hd
      refine ⟨(fun hx => nomatch hx), fun ⟨y, hy, he⟩ => ?_⟩
      obtain ⟨_, _, hf⟩ := far y hy
      exact absurd hk (hf k (by simp [he]))
    · rw [a2 k hk] at hd
      rw [h.first k d hd]
      constructor
      · rintro ⟨y, hy, he⟩
        refine ⟨y, ?_, he⟩
        simp only [List.mem_filter, bne_iff_ne]
        exact ⟨hy, fun e => hk (by rw [← he, e]; simp)⟩
      · rintro ⟨y, hy, he⟩
        exact ⟨y, (far y hy).1, he⟩
  · rw [List.nodup_append]
    exact ⟨(List.reverse_perm _).nodup_iff.2 hnd, h.fnd, fun a ha b hb e => hfl a (List.mem_reverse.1 ha) (e ▸ hb)⟩
  · intro k hk
    rcases List.mem_append.1 hk with hk | hk
    · simp [List.mem_reverse.1 hk]
    · have hn : k ∉ o.1 :: o.2 := fun hx => hfl k hx hk
      simp only [hn, if_false]
      exact h.fown k hk
  · intro x hx
    obtain ⟨hxO, hne, hf⟩ := far x hx
    obtain ⟨⟨d, hd, hdc⟩, hxn, hxo⟩ := h.obj x hxO
    refine ⟨⟨d, by simp only; rw [a2 x.1 (hf x.1 (by simp))]; exact hd, chain_congr hdc fun k hk => by simp only; rw [a2 k (hf k (by simp [hk]))]⟩, hxn, fun k hk => ?_⟩
    simp only [hf k hk, if_false]
    exact hxo k hk
  · exact h.keys.sublist (List.Sublist.map _ List.filter_sublist)
  · show (dropL S _).used = _
    rw [a4, h.used, s1]
    simp only [List.length_cons, List.length_nil]
    omega
  · show S.objects - 1 = _
    rw [h.objects, s2]
    omega
  · intro k d hd hm
    simp only at hd
    by_cases hk : k ∈ o.1 :: o.2
    · obtain ⟨x, hx⟩ := a3 k hk
      rw [hx] at hd
      simp only [Option.some.injEq] at hd
      subst hd
      cases hm
    · rw [a2 k hk] at hd
      exact h.mkey k d hd hm
  · intro x hx
    obtain ⟨_, _, hf⟩ := far x hx
    unfold slotsOf
    apply List.map_congr_left
    intro k hk
    rw [a2 k (hf k (by simp [hk]))]

/-- The mark of cell i is struck. -/
def strike (S : Ar) (i : Nat) (c : Ce) : Ar := { S with cs := S.cs.set i { c with mark := false } }
theorem strike_get {c : Ce} (hc : S.cs[i]? = some c) (k : Nat) : (strike S i c).cs[k]? = if k = i then some { c with mark := false } else S.cs[k]? := by
  have hi : i < S.cs.length := (List.getElem?_eq_some_iff.1 hc).1
  unfold strike
  simp only
  by_cases e : k = i
  · subst e; simp [hi]
  · rw [List.getElem?_set_ne (fun x => e x.symm), if_neg e]
theorem strike_next {c : Ce} (hc : S.cs[i]? = some c) (k : Nat) : ((strike S i c).cs[k]?).map (·.next) = (S.cs[k]?).map (·.next) := by
  rw [strike_get hc]
  split
  · rename_i e; subst e; rw [hc]; rfl
  · rfl
theorem strike_slots {c : Ce} (hc : S.cs[i]? = some c) (l : List Nat) : slotsOf (strike S i c).cs l = slotsOf S.cs l := by
  unfold slotsOf
  apply List.map_congr_left
  intro k _
  rw [strike_get hc]
  split
  · rename_i e; subst e; rw [hc]; rfl
  · rfl
/-- A round that keeps: the mark is struck. -/
theorem Inv.kept (h : Inv S (Mfrom M i) O fl [] own) {c : Ce} (hc : S.cs[i]? = some c) : Inv (strike S i c) (Mfrom M (i + 1)) O fl [] own := by
  refine ⟨?_, ?_, chain_congr h.free fun k _ => strike_next hc k, h.fnd, h.fown, (fun k hk => nomatch hk), ?_, h.keys, h.used, h.objects, ?_⟩
  · intro k d hd
    rw [strike_get hc] at hd
    split at hd
    · rename_i e
      subst e
      simp only [Option.some.injEq] at hd
      subst hd
      exact (Mfrom_at M _).symm
    · rename_i e
      rw [Mfrom_step M i k e]
      exact h.mark k d hd
  · intro k d hd
    rw [strike_get hc] at hd
    split at hd
    · rename_i e
      subst e
      simp only [Option.some.injEq] at hd
      subst hd
      exact h.first _ c hc
    · exact h.first k d hd
  · intro o ho
    obtain ⟨⟨d, hd, hdc⟩, h1, h2⟩ := h.obj o ho
    refine ⟨?_, h1, h2⟩
    by_cases e : o.1 = i
    · have hcd : d = c := by rw [e, hc] at hd; exact (Option.some.inj hd).symm
      rw [hcd] at hdc
      exact ⟨{ c with mark := false }, by rw [strike_get hc, if_pos e], chain_congr hdc fun k _ => strike_next hc k⟩
    · exact ⟨d, by rw [strike_get hc, if_neg e]; exact hd, chain_congr hdc fun k _ => strike_next hc k⟩
  · intro k d hd hm
    rw [strike_get hc] at hd
    split at hd
    · simp only [Option.some.injEq] at hd
      subst hd
      cases hm
    · exact h.mkey k d hd hm
/-- Where the mark is struck already nothing turns. -/
theorem strike_same {c : Ce} (hc : S.cs[i]? = some c) (hm : c.mark = false) : strike S i c = S := by
  have e : ({ c with mark := false } : Ce) = c := by cases c; simp only at hm; subst hm; rfl
  unfold strike
  rw [e]
  have : S.cs.set i c = S.cs := by
    apply List.ext_getElem?
    intro k
    rw [List.getElem?_set]
    split
    · rename_i e; subst e; rw [hc]; simp [(List.getElem?_eq_some_iff.1 hc).1]
    · rfl
  rw [this]
theorem filter_kept {O0 : List Ob} {M : Nat → Bool} {i : Nat} (h : (∀ o ∈ O0, o.1 ≠ i) ∨ M i = true) : (O0.filter fun o => decide (i ≤ o.1) || M o.1) = O0.filter fun o => decide (i + 1 ≤ o.1) || M o.1 := by
  apply List.filter_congr
  intro o ho
  by_cases e : o.1 = i
  · rcases h with h | h
    · exact absurd e (h o ho)
    · rw [e, h]; simp
  · congr 1
    simp only [decide_eq_decide]
    omega
theorem filt_sub {O0 : List Ob} {M : Nat → Bool} {i : Nat} {x : Ob} (h : x ∈ O0.filter fun o => decide (i + 1 ≤ o.1) || M o.1) : x ∈ O0.filter fun o => decide (i ≤ o.1) || M o.1 := by
  simp only [List.mem_filter, Bool.or_eq_true, decide_eq_true_eq] at h ⊢
  exact ⟨h.1, h.2.imp (fun h => by omega) id⟩
theorem Mfrom_end {M : Nat → Bool} {n k : Nat} (h : k < n) : Mfrom M n k = F0 k := by
  have : decide (n ≤ k) = false := by simp; omega
  simp [Mfrom, F0, this]
theorem filter_dropped {O0 : List Ob} {M : Nat → Bool} {i : Nat} (h : M i = false) : ((O0.filter fun o => decide (i ≤ o.1) || M o.1).filter fun o => o.1 != i) = O0.filter fun o => decide (i + 1 ≤ o.1) || M o.1 := by
  rw [List.filter_filter]
  apply List.filter_congr
  intro o ho
  by_cases e : o.1 = i
  · rw [e, h]; simp
  · have h1 : (o.1 != i) = true := by simpa using e
    rw [h1, Bool.true_and]
    congr 1
    simp only [decide_eq_decide]
    omega
end
/-- What is further of an object, by its number. -/
def chOf (O : List Ob) (r : Nat) : List Nat := ((O.find? fun o => o.1 == r).map (·.2)).getD []
theorem chOf_at {O : List Ob} (hk : (O.map (·.1)).Nodup) {o : Ob} (ho : o ∈ O) : chOf O o.1 = o.2 := by
  induction O with
  | nil => cases ho
  | cons x O ih =>
    simp only [List.map_cons, List.nodup_cons, List.mem_map, not_exists, not_and] at hk
    rcases List.mem_cons.1 ho with rfl | ho
    · simp [chOf]
    · have hne : (x.1 == o.1) = false := by simpa using fun e => hk.1 o ho e.symm
      have := ih hk.2 ho
      simpa [chOf, List.find?_cons, hne] using this
theorem Inv.chains {S : Ar} {M : Nat → Bool} {O : List Ob} {fl part : List Nat} {own : Nat → Nat} (h : Inv S M O fl part own) : Chains S (chOf O) := by
  intro i c hc hf
  obtain ⟨o, ho, rfl⟩ := (h.first i c hc).1 hf
  obtain ⟨⟨d, hd, hdc⟩, _, _⟩ := h.obj o ho
  rw [hc] at hd
  simp only [Option.some.injEq] at hd
  subst hd
  rw [chOf_at h.keys ho]
  exact hdc
theorem Inv.isB_iff {S : Ar} {M : Nat → Bool} {O : List Ob} {fl part : List Nat} {own : Nat → Nat} (h : Inv S M O fl part own) (r : Int) : isB S r = true ↔ ∃ o ∈ O, (o.1 : Int) = r := by
  constructor
  · intro hb
    obtain ⟨k, c, rfl, hc, hf⟩ := isB_true hb
    obtain ⟨o, ho, rfl⟩ := (h.first k c hc).1 hf
    exact ⟨o, ho, rfl⟩
  · rintro ⟨o, ho, rfl⟩
    obtain ⟨⟨c, hc, _⟩, _, _⟩ := h.obj o ho
    rw [isB_at hc]
    exact (h.first o.1 c hc).2 ⟨o, ho, rfl⟩
theorem nodup_le {l : List Nat} {n : Nat} (h : l.Nodup) (hl : ∀ k ∈ l, k < n) : l.length ≤ n := by
  have := List.Nodup.length_le_of_subset h (l₂ := List.range n) (fun k hk => List.mem_range.2 (hl k hk))
  simpa using this
theorem Inv.ch_le {S : Ar} {M : Nat → Bool} {O : List Ob} {fl part : List Nat} {own : Nat → Nat} (h : Inv S M O fl part own) (r : Nat) : (chOf O r).length ≤ S.cs.length := by
  unfold chOf
  cases hf : O.find? (fun o => o.1 == r) with
  | none => simp
  | some o =>
    have ho := List.mem_of_find?_eq_some hf
    have := nodup_le (h.obj o ho).2.1 (obj_lt h ho)
    simp only [List.length_cons] at this
    simp only [Option.map_some, Option.getD_some]
    omega
theorem sum_le {f : Nat → Nat} {c : Nat} : ∀ (l : List Nat), (∀ i ∈ l, f i ≤ c) → (l.map f).sum ≤ l.length * c
  | [], _ => by simp
  | x :: l, h => by
    have h1 := h x (by simp)
    have h2 := sum_le l (fun i hi => h i (by simp [hi]))
    simp only [List.map_cons, List.sum_cons, List.length_cons, Nat.succ_mul]
    omega
theorem sum_le' {α : Type} {f : α → Nat} {c : Nat} : ∀ (l : List α), (∀ i ∈ l, f i ≤ c) → (l.map f).sum ≤ l.length * c
  | [], _ => by simp
  | x :: l, h => by
    have h1 := h x (by simp)
    have h2 := sum_le' l (fun i hi => h i (by simp [hi]))
    simp only [List.map_cons, List.sum_cons, List.length_cons, Nat.succ_mul]
    omega
theorem Inv.obs_le {S : Ar} {M : Nat → Bool} {O : List Ob} {fl part : List Nat} {own : Nat → Nat} (h : Inv S M O fl part own) : O.length ≤ S.cs.length := by
  have := nodup_le h.keys (n := S.cs.length) (fun k hk => by
    obtain ⟨o, ho, rfl⟩ := List.mem_map.1 hk
    exact obj_lt h ho o.1 (by simp))
  simpa using this
theorem Inv.obsum_le {S : Ar} {M : Nat → Bool} {O : List Ob} {fl part : List Nat} {own : Nat → Nat} (h : Inv S M O fl part own) : obsum O ≤ S.cs.length * S.cs.length := by
  have h1 := sum_le' (f := fun o : Ob => o.2.length + 1) (c := S.cs.length) O (fun o ho => by
    have := nodup_le (h.obj o ho).2.1 (obj_lt h ho)
    simpa using this)
  have h2 := Nat.mul_le_mul_right S.cs.length h.obs_le
  exact Nat.le_trans h1 h2
theorem Inv.wsum_le {S : Ar} {M : Nat → Bool} {O : List Ob} {fl part : List Nat} {own : Nat → Nat} (h : Inv S M O fl part own) (M' : Nat → Bool) : wsum (chOf O) M' S.cs.length ≤ S.cs.length * (S.cs.length + 1) := by
  have := sum_le (f := weight (chOf O) M') (c := S.cs.length + 1) (List.range S.cs.length) (fun i _ => by
    unfold weight
    split
    · omega
    · have := h.ch_le i; omega)
  simpa [wsum] using this
end Go.Proofs.Ytaklhkghjklkhaa
