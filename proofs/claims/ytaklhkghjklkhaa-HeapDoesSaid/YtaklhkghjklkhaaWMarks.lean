/-
  Walk: (*Arena).marks: it marks just the objects that are reached. Conditions: the arena lies in memory, each object's cells form a chain; what is to do stays below 2^40.
-/
import Derived.Test.YtaklhkghjklkhaaWGet
namespace Go.Proofs.Ytaklhkghjklkhaa
open Go.RowKit

/-- The same arena, its marks as M says. -/
def setM (S : Ar) (M : Nat → Bool) : Ar := { S with cs := S.cs.mapIdx fun i c => { c with mark := M i } }
theorem setM_length (S : Ar) (M : Nat → Bool) : (setM S M).cs.length = S.cs.length := by simp [setM]
theorem setM_get (S : Ar) (M : Nat → Bool) (i : Nat) : (setM S M).cs[i]? = (S.cs[i]?).map fun c => { c with mark := M i } := by simp [setM]
theorem setM_isB (S : Ar) (M : Nat → Bool) (r : Int) : isB (setM S M) r = isB S r := by
  unfold isB
  rw [setM_get]
  cases S.cs[r.toNat]? <;> rfl
theorem setM_chain (S : Ar) (M : Nat → Bool) {i : Int} {l : List Nat} (h : chain S.cs i l) : chain (setM S M).cs i l :=
  chain_congr h fun k _ => by rw [setM_get]; cases S.cs[k]? <;> rfl
theorem setM_slots (S : Ar) (M : Nat → Bool) (l : List Nat) : slotsOf (setM S M).cs l = slotsOf S.cs l := by
  unfold slotsOf
  congr 1
  funext k
  rw [setM_get]
  cases S.cs[k]? <;> rfl
def markAt (M : Nat → Bool) (r : Nat) : Nat → Bool := fun i => if i = r then true else M i
theorem setM_mark (S : Ar) (M : Nat → Bool) (r : Nat) (c : Ce) (h : S.cs[r]? = some c) : (setM S M).cs.set r { c with mark := true } = (setM S (markAt M r)).cs := by
  apply List.ext_getElem?
  intro j
  rw [setM_get, List.getElem?_set, setM_length, setM_get]
  have hr : r < S.cs.length := (List.getElem?_eq_some_iff.1 h).1
  by_cases hj : r = j
  · subst hj
    rw [if_pos rfl, h]
    simp [hr, markAt]
  · have : j ≠ r := fun e => hj e.symm
    simp [hj, markAt, this]

/-- Each object's further cells. -/
def Chains (S : Ar) (ch : Nat → List Nat) : Prop := ∀ i c, S.cs[i]? = some c → c.first = true → chain S.cs c.next (ch i)
inductive Reach (S : Ar) (ch : Nat → List Nat) (roots : List Int) : Nat → Prop
  | root {i : Nat} : (i : Int) ∈ roots → isB S i = true → Reach S ch roots i
  | step {i j : Nat} {s : Sl} : Reach S ch roots i → s ∈ slotsOf S.cs (ch i) → s.ref = true → s.n = (j : Int) → isB S j = true → Reach S ch roots j

def weight (ch : Nat → List Nat) (M : Nat → Bool) (i : Nat) : Nat := if M i then 0 else (ch i).length + 1
def wsum (ch : Nat → List Nat) (M : Nat → Bool) (n : Nat) : Nat := ((List.range n).map (weight ch M)).sum
theorem wsum_mark (ch : Nat → List Nat) (M : Nat → Bool) (r n : Nat) (hr : r < n) (hm : M r = false) : wsum ch (markAt M r) n + ((ch r).length + 1) = wsum ch M n := by
  induction n with
  | zero => omega
  | succ n ih =>
    unfold wsum at ih ⊢
    simp only [List.range_succ, List.map_append, List.sum_append, List.map_cons, List.map_nil, List.sum_cons, List.sum_nil, Nat.add_zero]
    by_cases hrn : r = n
    · subst hrn
      have e : (List.range r).map (weight ch (markAt M r)) = (List.range r).map (weight ch M) := by
        apply List.map_congr_left
        intro i hi
        have : i < r := List.mem_range.1 hi
        have hne : i ≠ r := by omega
        simp [weight, markAt, hne]
      rw [e]
      simp [weight, markAt, hm]
    · have := ih (by omega)
      have hne : n ≠ r := fun e => hrn e.symm
      have e : weight ch (markAt M r) n = weight ch M n := by simp [weight, markAt, hne]
      omega

/-- What holds at each round: what is marked and what is to do are reached; nothing is forgotten. -/
structure MarkJ (S : Ar) (ch : Nat → List Nat) (roots : List Int) (M : Nat → Bool) (todo : List Int) : Prop where
  sound : ∀ i, M i = true → Reach S ch roots i
  todos : ∀ i : Nat, (i : Int) ∈ todo → isB S i = true → Reach S ch roots i
  root : ∀ i : Nat, (i : Int) ∈ roots → isB S i = true → M i = true ∨ (i : Int) ∈ todo
  next : ∀ (i j : Nat) (s : Sl), M i = true → s ∈ slotsOf S.cs (ch i) → s.ref = true → s.n = (j : Int) → isB S j = true → M j = true ∨ (j : Int) ∈ todo
theorem MarkJ.start (S : Ar) (ch : Nat → List Nat) (roots : List Int) : MarkJ S ch roots (fun _ => false) roots :=
  ⟨(fun _ h => nomatch h), (fun _ h hb => .root h hb), (fun _ h _ => .inr h), (fun _ _ _ h => nomatch h)⟩
theorem MarkJ.skip {S : Ar} {ch : Nat → List Nat} {roots : List Int} {M : Nat → Bool} {todo : List Int} {r : Int} (h : MarkJ S ch roots M (todo ++ [r])) (hr : isB S r = false ∨ ∃ k : Nat, r = k ∧ M k = true) : MarkJ S ch roots M todo := by
  have drop : ∀ i : Nat, isB S i = true → M i = true ∨ (i : Int) ∈ todo ++ [r] → M i = true ∨ (i : Int) ∈ todo := by
    intro i hb hi
    rcases hi with hi | hi
    · exact .inl hi
    · simp only [List.mem_append, List.mem_singleton] at hi
      rcases hi with hi | rfl
      · exact .inr hi
      · rcases hr with hr | ⟨k, hk, hm⟩
        · rw [hr] at hb; cases hb
        · have : i = k := by omega
          subst this; exact .inl hm
  exact ⟨h.sound, fun i hi hb => h.todos i (by simp [hi]) hb, fun i hi hb => drop i hb (h.root i hi hb), fun i j s hm hs h1 h2 hb => drop j hb (h.next i j s hm hs h1 h2 hb)⟩
theorem mem_adds {l : List Sl} {x : Int} : x ∈ l.flatMap adds ↔ ∃ s ∈ l, s.ref = true ∧ s.n = x := by
  simp only [List.mem_flatMap, adds]
  constructor
  · rintro ⟨s, hs, hx⟩
    split at hx
    · rename_i hr
      exact ⟨s, hs, hr, (List.mem_singleton.1 hx).symm⟩
    · cases hx
  · rintro ⟨s, hs, hr, rfl⟩
    exact ⟨s, hs, by simp [hr]⟩
theorem MarkJ.mark {S : Ar} {ch : Nat → List Nat} {roots : List Int} {M : Nat → Bool} {todo : List Int} {r : Nat} (h : MarkJ S ch roots M (todo ++ [(r : Int)])) (hb : isB S r = true) : MarkJ S ch roots (markAt M r) (todo ++ (slotsOf S.cs (ch r)).flatMap adds) := by
  have hR : Reach S ch roots r := h.todos r (by simp) hb
  have up : ∀ i : Nat, M i = true ∨ (i : Int) ∈ todo ++ [(r : Int)] → markAt M r i = true ∨ (i : Int) ∈ todo ++ (slotsOf S.cs (ch r)).flatMap adds := by
    intro i hi
    rcases hi with hi | hi
    · left; simp [markAt, hi]
    · simp only [List.mem_append, List.mem_singleton] at hi
      rcases hi with hi | hi
      · right; simp [hi]
      · have : i = r := by omega
        left; simp [markAt, this]
  refine ⟨?_, ?_, ?_, ?_⟩
  · intro i hi
    by_cases e : i = r
    · subst e; exact hR
    · exact h.sound i (by simpa [markAt, e] using hi)
  · intro i hi hbi
    rcases List.mem_append.1 hi with hi | hi
    · exact h.todos i (by simp [hi]) hbi
    · obtain ⟨s, hs, h1, h2⟩ := mem_adds.1 hi
      exact .step hR hs h1 h2 hbi
  · intro i hi hbi
    exact up i (h.root i hi hbi)
  · intro i j s hm hs h1 h2 hbj
    by_cases e : i = r
    · subst e
      exact .inr (List.mem_append.2 (.inr (mem_adds.2 ⟨s, hs, h1, h2⟩)))
    · exact up j (h.next i j s (by simpa [markAt, e] using hm) hs h1 h2 hbj)
theorem MarkJ.done {S : Ar} {ch : Nat → List Nat} {roots : List Int} {M : Nat → Bool} (h : MarkJ S ch roots M []) (i : Nat) : M i = true ↔ Reach S ch roots i := by
  constructor
  · exact h.sound i
  · intro hr
    induction hr with
    | root h1 h2 => exact (h.root _ h1 h2).resolve_right (by simp)
    | step _ hs h1 h2 hb ih => exact (h.next _ _ _ ih hs h1 h2 hb).resolve_right (by simp)
end Go.Proofs.Ytaklhkghjklkhaa
