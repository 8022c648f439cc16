/-
  Walk: (*Arena).marks, the loop itself. Conditions: as before.
-/
import Derived.Test.YtaklhkghjklkhaaWMarks
namespace Go.Proofs.Ytaklhkghjklkhaa
open Go.RowKit

/-- while one object's slots are gone through -/
def MkI (w : World) (X : Nat → Prop) (p : Nat) (v : Value) (S : Ar) (q : Nat) (t0 : List Int) (l : List Nat) (k : Nat) (W : World) : Prop :=
  ArV W p v S ∧ ∃ lv, At W q 27 #[lv] ∧ W.ownsRow 0 3 1 lv (t0 ++ (slotsOf S.cs (l.take k)).flatMap adds).length (ints (t0 ++ (slotsOf S.cs (l.take k)).flatMap adds)) ∧ Keep X w W ∧ ∀ i, lv.ownBlock = some i → X i ∨ w.heap.size ≤ i

theorem adds_le (s : Sl) : (adds s).length ≤ 1 := by unfold adds; split <;> simp
theorem adds_sum (l : List Sl) : (l.flatMap adds).length ≤ l.length := by
  induction l with
  | nil => simp
  | cons s l ih => have := adds_le s; simp only [List.flatMap_cons, List.length_append, List.length_cons]; omega
theorem slotsOf_length (cs : List Ce) (l : List Nat) : (slotsOf cs l).length = l.length := by simp [slotsOf]

/-- q and the lists' blocks lie in X; the arena's do not. -/
theorem mk_step {p q : Nat} {v : Value} {S : Ar} {l : List Nat} {i : Int} {w : World} {X : Nat → Prop} {t0 : List Int} (hX : ∀ k, fp p v k → ¬ X k ∧ k < w.heap.size) (hq : X q ∨ w.heap.size ≤ q) (hch : chain S.cs i l) (hl : t0.length + l.length < 1099511627775) :
    EachStep Try.prog 30 #[.pointer (some ⟨q, 0, none⟩)] v S l (MkI w X p v S q t0 l) := by
  intro k j g cap hvv hlk W ⟨ha, lv, hq1, ho, hk, hf⟩
  have hkl := (List.getElem?_eq_some_iff.1 hlk).1
  have hj : j < S.cs.length := chain_lt hch j (List.mem_of_getElem? hlk)
  have hjc : S.cs[j]? = some S.cs[j] := List.getElem?_eq_getElem hj
  obtain ⟨g', cap', hv', _, _, _, _, hcell⟩ := ha.form hj
  rw [hvv] at hv'
  simp only [Value.slice.injEq, Option.some.injEq, Addr.mk.injEq, and_true, true_and] at hv'
  obtain ⟨rfl, rfl⟩ := hv'
  obtain ⟨c0, c1, _⟩ := hcell j _ hjc
  have hs1 := adds_sum (slotsOf S.cs (l.take k))
  rw [slotsOf_length] at hs1
  have hs2 : (l.take k).length ≤ l.length := by simp; omega
  refine (mk1_any (s := (S.cs[j]).sl) hq1 ho c0 c1 (by simp only [List.length_append]; omega)).mono ?_
  rintro e W' ⟨rfl, lv', hq', ho', hk', hf'⟩
  refine ⟨rfl, ha.keep hk' ?_, lv', hq', ?_, hk.trans hk' ?_, ?_⟩
  · intro i hi hx
    obtain ⟨h1, h2⟩ := hX i hi
    rcases hx with rfl | hx
    · rcases hq with hq | hq
      · exact h1 hq
      · omega
    · rcases hf i hx with h | h
      · exact h1 h
      · omega
  · rw [slotsOf_take hlk hjc, List.flatMap_append, ← List.append_assoc]
    simpa [List.length_append, Nat.add_assoc] using ho'
  · intro i hi hx
    rcases hx with rfl | hx
    · rcases hq with hq | hq
      · exact hq
      · omega
    · rcases hf i hx with h | h
      · exact h
      · omega
  · intro i hi
    rcases hf' i hi with h | h
    · exact hf i h
    · have := hk.size; exact .inr (by omega)

def MarksInv (w : World) (X : Nat → Prop) (p : Nat) (v : Value) (S : Ar) (ch : Nat → List Nat) (roots : List Int) (q : Nat) (k : Nat) (W : World) : Prop :=
  ∃ M todo lv, ArV W p v (setM S M) ∧ At W q 27 #[lv] ∧ W.ownsRow 0 3 1 lv todo.length (ints todo) ∧ MarkJ S ch roots M todo ∧ k = todo.length + wsum ch M S.cs.length ∧ k < 1099511627775 ∧ Keep X w W ∧ ∀ i, lv.ownBlock = some i → X i ∨ w.heap.size ≤ i

theorem setM_set {w : World} {p g r cap : Nat} {S : Ar} {M : Nat → Bool} {c : Ce} (h : ArV w p (.slice (some ⟨g, 0, none⟩) S.cs.length cap) (setM S M)) (hc : S.cs[r]? = some c) (hpg : p ≠ g) :
    ArV (w.setCell ⟨g, r * 5 + 4, none⟩ (.bool true)) p (.slice (some ⟨g, 0, none⟩) S.cs.length cap) (setM S (markAt M r)) := by
  refine ⟨h.head.far (p := ⟨g, r * 5 + 4, none⟩) hpg _, ?_⟩
  have hd : (setM S M).cs[r]? = some { c with mark := M r } := by rw [setM_get, hc]; rfl
  have ho : w.ownsRow 0 59 5 (.slice (some ⟨g, 0, none⟩) S.cs.length cap) S.cs.length (flat (setM S M).cs) := by simpa [setM_length] using h.own
  have o2 := (ho.stored (r * 5 + 4) (.bool true)).1
  rw [← flat_set_mark _ r _ hd true] at o2
  have e := setM_mark S M r c hc
  rw [show ({ ({ c with mark := M r } : Ce) with mark := true } : Ce) = { c with mark := true } from rfl, e] at o2
  simpa [setM_length] using o2
end Go.Proofs.Ytaklhkghjklkhaa
