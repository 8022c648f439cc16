/-
  The arena's order: its free cells, its objects' cells, none of them twice; what taking a cell and dropping an object leave of it. Conditions: none; plain lemmas.
-/
import Derived.Test.YtaklhkghjklkhaaWMarks3
namespace Go.Proofs.Ytaklhkghjklkhaa
open Go.RowKit

def F0 : Nat → Bool := fun _ => false
abbrev Ob := Nat × List Nat
def obsum (O : List Ob) : Nat := (O.map fun o => o.2.length + 1).sum

structure Inv (S : Ar) (M : Nat → Bool) (O : List Ob) (fl part : List Nat) (own : Nat → Nat) : Prop where
  mark : ∀ k c, S.cs[k]? = some c → c.mark = M k
  first : ∀ k c, S.cs[k]? = some c → (c.first = true ↔ ∃ o ∈ O, o.1 = k)
  free : chain S.cs S.free fl
  fnd : fl.Nodup
  fown : ∀ k ∈ fl, own k = 0
  pown : ∀ k ∈ part, own k = 1 ∧ k < S.cs.length
  obj : ∀ o ∈ O, (∃ c, S.cs[o.1]? = some c ∧ chain S.cs c.next o.2) ∧ (o.1 :: o.2).Nodup ∧ ∀ k ∈ o.1 :: o.2, own k = o.1 + 2
  keys : (O.map (·.1)).Nodup
  used : S.used = part.length + obsum O
  objects : S.objects = O.length
  mkey : ∀ (k : Nat) (c : Ce), S.cs[k]? = some c → c.mark = true → c.first = true

theorem obj_lt {S : Ar} {M : Nat → Bool} {O : List Ob} {fl part : List Nat} {own : Nat → Nat} (h : Inv S M O fl part own) {o : Ob} (ho : o ∈ O) : ∀ k ∈ o.1 :: o.2, k < S.cs.length := by
  obtain ⟨⟨c, hc, hch⟩, _, _⟩ := h.obj o ho
  intro k hk
  rcases List.mem_cons.1 hk with rfl | hk
  · exact (List.getElem?_eq_some_iff.1 hc).1
  · exact chain_lt hch k hk

/-- The cell that take takes, and what it leaves. -/
def takeAt (S : Ar) : Nat := if S.free = -1 then S.cs.length else S.free.toNat
def takeAr (S : Ar) (c : Ce) : Ar := if S.free = -1 then takeNew S c else takeOld S S.free.toNat (((S.cs[S.free.toNat]?).map (·.next)).getD 0) c
def FreeOk (S : Ar) : Prop := S.free = -1 ∨ ∃ (f : Nat) (d : Ce), S.free = f ∧ S.cs[f]? = some d
theorem freeOk {S : Ar} {M : Nat → Bool} {O : List Ob} {fl part : List Nat} {own : Nat → Nat} (h : Inv S M O fl part own) : FreeOk S := by
  have := h.free
  cases fl with
  | nil => exact .inl this
  | cons f l => obtain ⟨h1, c, h2, _⟩ := this; exact .inr ⟨f, c, h1, h2⟩
theorem takeAr_most (S : Ar) (c : Ce) : (takeAr S c).most = S.most := by unfold takeAr; split <;> rfl
theorem takeAr_objects (S : Ar) (c : Ce) : (takeAr S c).objects = S.objects := by unfold takeAr; split <;> rfl
theorem takeAr_used (S : Ar) (c : Ce) : (takeAr S c).used = S.used + 1 := by unfold takeAr; split <;> rfl
theorem takeAr_len (S : Ar) (c : Ce) : (takeAr S c).cs.length ≤ S.cs.length + 1 := by unfold takeAr; split <;> simp [takeNew, takeOld]
theorem takeAr_len2 (S : Ar) (c : Ce) : S.cs.length ≤ (takeAr S c).cs.length := by unfold takeAr; split <;> simp [takeNew, takeOld]

/-- A cell that was there and is not the one taken is as it was; the one taken is c. -/
theorem takeAr_get {S : Ar} (hf : FreeOk S) (c : Ce) : (takeAr S c).cs[takeAt S]? = some c ∧ ∀ k, k ≠ takeAt S → (takeAr S c).cs[k]? = S.cs[k]? := by
  unfold takeAr takeAt
  rcases hf with hf | ⟨f, d, hf, hd⟩
  · simp only [hf, if_true, takeNew]
    refine ⟨by simp, fun k hk => ?_⟩
    rcases Nat.lt_or_ge k S.cs.length with h | h
    · rw [List.getElem?_append_left h]
    · rw [List.getElem?_eq_none (by simp; omega), List.getElem?_eq_none h]
  · have hne : ¬ ((f : Int) = -1) := by omega
    rw [hf, if_neg hne, if_neg hne]
    have hlt : f < S.cs.length := (List.getElem?_eq_some_iff.1 hd).1
    simp only [takeOld, Int.toNat_natCast]
    exact ⟨by rw [List.getElem?_set_self hlt], fun k hk => by rw [List.getElem?_set_ne (fun e => hk e.symm)]⟩
theorem chain_take {S : Ar} (hf : FreeOk S) (c : Ce) {i : Int} {l : List Nat} (h : chain S.cs i l) (hn : takeAt S ∉ l) : chain (takeAr S c).cs i l :=
  chain_congr h fun k hk => by rw [(takeAr_get hf c).2 k (fun e => hn (e ▸ hk))]
theorem slots_take {S : Ar} (hf : FreeOk S) (c : Ce) {l : List Nat} (hn : takeAt S ∉ l) : slotsOf (takeAr S c).cs l = slotsOf S.cs l := by
  unfold slotsOf
  apply List.map_congr_left
  intro k hk
  rw [(takeAr_get hf c).2 k (fun e => hn (e ▸ hk))]
theorem slots_cons {cs : List Ce} {k : Nat} {l : List Nat} {c : Ce} (h : cs[k]? = some c) : slotsOf cs (k :: l) = c.sl :: slotsOf cs l := by simp [slotsOf, h]

section
variable {S : Ar} {O : List Ob} {fl part : List Nat} {own : Nat → Nat}
theorem take_fresh (h : Inv S F0 O fl part own) : takeAt S ∉ part ∧ (∀ o ∈ O, takeAt S ∉ o.1 :: o.2) ∧ (∀ l, fl = takeAt S :: l → takeAt S ∉ l) := by
  have hfree := h.free
  cases fl with
  | nil =>
    have hf : S.free = -1 := hfree
    have ha : takeAt S = S.cs.length := by simp [takeAt, hf]
    rw [ha]
    refine ⟨fun hp => ?_, fun o ho hk => ?_, fun l hl => by cases hl⟩
    · have := (h.pown _ hp).2; omega
    · have := obj_lt h ho _ hk; omega
  | cons f l =>
    obtain ⟨hf, c, hc, _⟩ := hfree
    have ha : takeAt S = f := by
      unfold takeAt
      rw [hf, if_neg (by omega)]
      simp
    rw [ha]
    have h0 : own f = 0 := h.fown f (by simp)
    refine ⟨fun hp => ?_, fun o ho hk => ?_, fun l' hl => ?_⟩
    · have := (h.pown _ hp).1; omega
    · have := (h.obj o ho).2.2 _ hk; omega
    · simp only [List.cons.injEq, true_and] at hl
      subst hl
      exact (List.nodup_cons.1 h.fnd).1
/-- what is left of the free list -/
theorem take_free (h : Inv S F0 O fl part own) (c : Ce) : ∃ fl', chain (takeAr S c).cs (takeAr S c).free fl' ∧ fl'.Nodup ∧ (∀ k ∈ fl', own k = 0 ∧ k ≠ takeAt S) := by
  have hfree := h.free
  have hok := freeOk h
  have hfr := take_fresh h
  cases fl with
  | nil =>
    have hf : S.free = -1 := hfree
    exact ⟨[], by unfold takeAr; rw [if_pos hf]; exact hf, List.nodup_nil, fun k hk => by cases hk⟩
  | cons f l =>
    obtain ⟨hf, d, hd, hch⟩ := hfree
    have ha : takeAt S = f := by
      unfold takeAt
      rw [hf, if_neg (by omega)]
      simp
    have hnl : f ∉ l := (List.nodup_cons.1 h.fnd).1
    refine ⟨l, ?_, (List.nodup_cons.1 h.fnd).2, fun k hk => ⟨h.fown k (by simp [hk]), fun e => hnl (by rw [← ha, ← e]; exact hk)⟩⟩
    have e : (takeAr S c).free = d.next := by
      unfold takeAr
      rw [hf, if_neg (by omega)]
      simp [takeOld, hd]
    rw [e]
    exact chain_take hok c hch (by rw [ha]; exact hnl)
/-- A further cell of the object in the making. -/
theorem Inv.take1 (h : Inv S F0 O fl part own) (s : Sl) {nx : Int} (hp : chain S.cs nx part) :
    ∃ fl' own', Inv (takeAr S ⟨s.ref, s.n, nx, false, false⟩) F0 O fl' (takeAt S :: part) own' ∧ chain (takeAr S ⟨s.ref, s.n, nx, false, false⟩).cs (takeAt S) (takeAt S :: part) ∧
      slotsOf (takeAr S ⟨s.ref, s.n, nx, false, false⟩).cs (takeAt S :: part) = s :: slotsOf S.cs part ∧ ∀ o ∈ O, slotsOf (takeAr S ⟨s.ref, s.n, nx, false, false⟩).cs o.2 = slotsOf S.cs o.2 := by
  have hok := freeOk h
  obtain ⟨f1, f2, f3⟩ := take_fresh h
  obtain ⟨fl', g1, g2, g3⟩ := take_free h ⟨s.ref, s.n, nx, false, false⟩
  obtain ⟨t1, t2⟩ := takeAr_get hok ⟨s.ref, s.n, nx, false, false⟩
  have hlt : takeAt S < (takeAr S ⟨s.ref, s.n, nx, false, false⟩).cs.length := (List.getElem?_eq_some_iff.1 t1).1
  refine ⟨fl', fun k => if k = takeAt S then 1 else own k, ⟨?_, ?_, g1, g2, ?_, ?_, ?_, h.keys, ?_, ?_, ?_⟩, ⟨rfl, _, t1, chain_take hok _ hp f1⟩, ?_, ?_⟩
  · intro k c hc
    by_cases e : k = takeAt S
    · subst e; rw [t1] at hc; simp only [Option.some.injEq] at hc; subst hc; rfl
    · rw [t2 k e] at hc; exact h.mark k c hc
  · intro k c hc
    by_cases e : k = takeAt S
    · subst e
      rw [t1] at hc
      simp only [Option.some.injEq] at hc
      subst hc
      refine ⟨(fun hx => nomatch hx), fun ⟨o, ho, he⟩ => absurd (by simp [he]) (f2 o ho)⟩
    · rw [t2 k e] at hc; exact h.first k c hc
  · intro k hk
    obtain ⟨a1, a2⟩ := g3 k hk
    simp [a2, a1]
  · intro k hk
    rcases List.mem_cons.1 hk with rfl | hk
    · exact ⟨by simp, hlt⟩
    · have := h.pown k hk
      have hne : k ≠ takeAt S := fun e => f1 (e ▸ hk)
      exact ⟨by simp [hne, this.1], Nat.lt_of_lt_of_le this.2 (takeAr_len2 _ _)⟩
  · intro o ho
    obtain ⟨⟨c, hc, hch⟩, hnd, how⟩ := h.obj o ho
    have hn := f2 o ho
    simp only [List.mem_cons, not_or] at hn
    refine ⟨⟨c, by rw [t2 _ (fun e => hn.1 e.symm)]; exact hc, chain_take hok _ hch hn.2⟩, hnd, fun k hk => ?_⟩
    have hne : k ≠ takeAt S := fun e => f2 o ho (e ▸ hk)
    simp only [hne, if_false]
    exact how k hk
  · rw [takeAr_used, h.used]; simp only [List.length_cons]; omega
  · rw [takeAr_objects]; exact h.objects
  · intro k c hc hm
    by_cases e : k = takeAt S
    · subst e; rw [t1] at hc; simp only [Option.some.injEq] at hc; subst hc; cases hm
    · rw [t2 k e] at hc; exact h.mkey k c hc hm
  · rw [slots_cons t1, slots_take hok _ f1]; rfl
  · intro o ho
    exact slots_take hok _ (fun hx => f2 o ho (by simp [hx]))
/-- The object's first cell: it is made. -/
theorem Inv.take2 (h : Inv S F0 O fl part own) {nx : Int} (hp : chain S.cs nx part) (hpn : part.Nodup) :
    ∃ fl' own', Inv { takeAr S ⟨false, 0, nx, true, false⟩ with objects := S.objects + 1 } F0 ((takeAt S, part) :: O) fl' [] own' ∧ slotsOf (takeAr S ⟨false, 0, nx, true, false⟩).cs part = slotsOf S.cs part ∧
      (∀ o ∈ O, slotsOf (takeAr S ⟨false, 0, nx, true, false⟩).cs o.2 = slotsOf S.cs o.2) ∧ ∀ o ∈ O, o.1 ≠ takeAt S := by
  have hok := freeOk h
  obtain ⟨f1, f2, f3⟩ := take_fresh h
  obtain ⟨fl', g1, g2, g3⟩ := take_free h ⟨false, 0, nx, true, false⟩
  obtain ⟨t1, t2⟩ := takeAr_get hok ⟨false, 0, nx, true, false⟩
  have hkne : ∀ o ∈ O, o.1 ≠ takeAt S := fun o ho e => f2 o ho (by simp [e])
  refine ⟨fl', fun k => if k = takeAt S ∨ k ∈ part then takeAt S + 2 else own k, ⟨?_, ?_, g1, g2, ?_, (fun k hk => nomatch hk), ?_, ?_, ?_, ?_, ?_⟩, slots_take hok _ f1, fun o ho => slots_take hok _ (fun hx => f2 o ho (by simp [hx])), hkne⟩
  · intro k c hc
    simp only at hc
    by_cases e : k = takeAt S
    · subst e; rw [t1] at hc; simp only [Option.some.injEq] at hc; subst hc; rfl
    · rw [t2 k e] at hc; exact h.mark k c hc
  · intro k c hc
    simp only at hc
    by_cases e : k = takeAt S
    · subst e
      rw [t1] at hc
      simp only [Option.some.injEq] at hc
      subst hc
      exact ⟨fun _ => ⟨_, List.mem_cons_self, rfl⟩, fun _ => rfl⟩
    · rw [t2 k e] at hc
      rw [h.first k c hc]
      constructor
      · rintro ⟨o, ho, he⟩; exact ⟨o, by simp [ho], he⟩
      · rintro ⟨o, ho, he⟩
        rcases List.mem_cons.1 ho with rfl | ho
        · exact absurd he.symm e
        · exact ⟨o, ho, he⟩
  · intro k hk
    obtain ⟨a1, a2⟩ := g3 k hk
    have hnp : k ∉ part := fun hx => by have := (h.pown k hx).1; omega
    simp [a2, hnp, a1]
  · intro o ho
    rcases List.mem_cons.1 ho with rfl | ho
    · refine ⟨⟨_, t1, chain_take hok _ hp f1⟩, List.nodup_cons.2 ⟨f1, hpn⟩, fun k hk => ?_⟩
      simp only [List.mem_cons] at hk
      simp [hk]
    · obtain ⟨⟨c, hc, hch⟩, hnd, how⟩ := h.obj o ho
      have hn := f2 o ho
      simp only [List.mem_cons, not_or] at hn
      refine ⟨⟨c, by simp only; rw [t2 _ (fun e => hn.1 e.symm)]; exact hc, chain_take hok _ hch hn.2⟩, hnd, fun k hk => ?_⟩
      have h1 := how k hk
      have hne : k ≠ takeAt S := fun e => f2 o ho (e ▸ hk)
      have hnp : k ∉ part := fun hx => by have := (h.pown k hx).1; omega
      simp only [hne, hnp, or_self, if_false]
      exact h1
  · simp only [List.map_cons, List.nodup_cons, List.mem_map, not_exists, not_and]
    exact ⟨fun o ho e => hkne o ho e, h.keys⟩
  · show (takeAr S _).used = _
    rw [takeAr_used, h.used]
    simp only [obsum, List.map_cons, List.sum_cons, List.length_nil]
    omega
  · show S.objects + 1 = _
    rw [h.objects]
    simp
  · intro k c hc hm
    simp only at hc
    by_cases e : k = takeAt S
    · subst e; rw [t1] at hc; simp only [Option.some.injEq] at hc; subst hc; cases hm
    · rw [t2 k e] at hc; exact h.mkey k c hc hm
end
end Go.Proofs.Ytaklhkghjklkhaa
