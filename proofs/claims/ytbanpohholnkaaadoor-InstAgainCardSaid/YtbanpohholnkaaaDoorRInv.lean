/-
  A region whose order is drawn, by an invariant over what has come up: each operation is walked once. Conditions: plain laws of whatever program.
-/
import Derived.Test.YtbanpohholnkaaaDoorRLaw
namespace Go.Proofs.YtbanpohholnkaaaDoor
open Go.RowKit

section
variable {P : Program} {ops : Array Oper} {Q : Exit → Act → World → Prop} {md : Region.Mode}
theorem countP_lt {p q : Nat → Bool} {i : Nat} : ∀ {L : List Nat}, (∀ x, q x = true → p x = true) → i ∈ L → p i = true → q i = false → L.countP q < L.countP p
  | [], _, hi, _, _ => by cases hi
  | x :: L, h, hi, hp, hq => by
    have hle : L.countP q ≤ L.countP p := List.countP_mono_left fun y _ hy => h y hy
    rw [List.countP_cons, List.countP_cons]
    rcases List.mem_cons.1 hi with rfl | hi
    · rw [hp, hq]
      simp
      omega
    · have := countP_lt h hi hp hq
      have hx := h x
      cases hqx : q x <;> cases hpx : p x <;> simp_all <;> omega
def unl (n : Nat) (l : Array Bool) : Nat := (List.range n).countP fun j => !(l.getD j true)
theorem getD_set_eq {l : Array Bool} {i j : Nat} {d : Bool} (h : i < l.size) : (l.setIfInBounds i true).getD j d = if i = j then true else l.getD j d := by
  by_cases hij : i = j
  · subst hij
    simp [h]
  · simp [hij]
theorem unl_set {n i : Nat} {l : Array Bool} (hs : l.size = n) (hi : l.getD i true = false) : unl n (l.setIfInBounds i true) < unl n l := by
  have hin : i < l.size := by
    rcases Nat.lt_or_ge i l.size with h | h
    · exact h
    · simp [Array.getElem?_eq_none h] at hi
  unfold unl
  refine countP_lt (i := i) (fun x hx => ?_) (List.mem_range.2 (by omega)) (by rw [hi]; rfl) (by rw [getD_set_eq hin]; simp)
  rw [getD_set_eq hin] at hx
  split at hx
  · simp at hx
  · exact hx
theorem wpAny_inv (I : Array Bool → Act → World → Prop) (hlt : ∀ (j : Nat) (o : Oper), ops[j]? = some o → ∀ e ∈ o.after, e.on < j)
    (hd : ∀ (l : Array Bool) (a : Act) (w : World), (∀ j, j < ops.size → l.getD j false = true) → I l a w → Q .normal a w)
    (hs : ∀ (i : Nat) (o : Oper) (l : Array Bool) (a : Act) (w : World), ops[i]? = some o → l.size = ops.size → l.getD i true = false → (∀ e ∈ o.after, Region.binds md e = true → l.getD e.on false = true) → I l a w →
      wpOp P ops Q i (fun a' w' => I (l.setIfInBounds i true) a' w') a w) :
    ∀ (fuel : Nat) (l : Array Bool) (a : Act) (w : World), l.size = ops.size → unl ops.size l ≤ fuel → I l a w → wpAny P md ops Q fuel l a w := by
  have hready : ∀ (l : Array Bool) (i : Nat), l.size = ops.size → i ∈ Region.ready md ops l → l.getD i true = false ∧ ∃ o, ops[i]? = some o ∧ ∀ e ∈ o.after, Region.binds md e = true → l.getD e.on false = true := fun l i hl hi => by
    obtain ⟨h1, o, ho, h2⟩ := mem_ready.1 hi
    exact ⟨h1, o, ho, h2⟩
  have hall : ∀ (l : Array Bool), l.size = ops.size → Region.ready md ops l = [] → ∀ j, j < ops.size → l.getD j false = true := fun l hl hr j => by
    induction j using Nat.strongRecOn with
    | _ j ih =>
      intro hj
      cases hv : l.getD j false with
      | true => rfl
      | false =>
        exfalso
        have ho : ops[j]? = some ops[j] := Array.getElem?_eq_getElem hj
        have : j ∈ Region.ready md ops l := mem_ready.2 ⟨by
          have hjl : j < l.size := by omega
          simp [hjl] at hv ⊢
          exact hv, ops[j], ho, fun e he _ => ih e.on (hlt j _ ho e he) (by have := hlt j _ ho e he; omega)⟩
        rw [hr] at this
        cases this
  intro fuel
  induction fuel with
  | zero =>
    intro l a w hl hu hI
    have hr : Region.ready md ops l = [] := by
      cases hr : Region.ready md ops l with
      | nil => rfl
      | cons i r =>
        exfalso
        obtain ⟨h1, _⟩ := hready l i hl (by rw [hr]; simp)
        have := unl_set hl h1
        omega
    exact ⟨hr, hd l a w (hall l hl hr) hI⟩
  | succ fuel ih =>
    intro l a w hl hu hI
    refine ⟨fun hr => hd l a w (hall l hl hr) hI, fun i hi => ?_⟩
    obtain ⟨h1, o, ho, h2⟩ := hready l i hl hi
    refine wpOp_mono (fun a' w' h => ?_) (hs i o l a w ho hl h1 h2 hI)
    exact ih _ _ _ (by simp [hl]) (by have := unl_set hl h1; omega) h
theorem unl_start (n : Nat) : unl n (Array.replicate n false) ≤ n := by
  unfold unl
  refine Nat.le_trans List.countP_le_length ?_
  simp
/-- The region, by an invariant that holds ahead of it. -/
theorem wp_region_inv {id : Nat} {a : Act} {w : World} (hm : P.follows .mixedOrders = true) (I : Array Bool → Act → World → Prop) (hlt : ∀ (j : Nat) (o : Oper), ops[j]? = some o → ∀ e ∈ o.after, e.on < j)
    (h0 : I (Array.replicate ops.size false) a w.drew)
    (hs : ∀ (i : Nat) (o : Oper) (l : Array Bool) (a : Act) (w : World), ops[i]? = some o → l.size = ops.size → l.getD i true = false → (∀ e ∈ o.after, Region.binds .any e = true → l.getD e.on false = true) → I l a w →
      wpOp P ops Q i (fun a' w' => I (l.setIfInBounds i true) a' w') a w)
    (hd : ∀ (l : Array Bool) (a : Act) (w : World), (∀ j, j < ops.size → l.getD j false = true) → I l a w → Q .normal a w) : (Code.region id ops true).wp P Q a w :=
  wp_region_any hm (wpAny_inv I hlt hd hs ops.size _ a _ (by simp) (unl_start _) h0)
theorem lt_of_all (h : ((List.range ops.size).all fun j => (ops[j]?.map fun o => o.after.all fun e => decide (e.on < j)).getD true) = true) : ∀ (j : Nat) (o : Oper), ops[j]? = some o → ∀ e ∈ o.after, e.on < j := fun j o ho e he => by
  have h1 := List.all_eq_true.1 h j (List.mem_range.2 (Array.getElem?_eq_some_iff.1 ho).1)
  rw [ho] at h1
  simp only [Option.map_some, Option.getD_some, Array.all_eq_true_iff_forall_mem, decide_eq_true_eq] at h1
  exact h1 e he
end
end Go.Proofs.YtbanpohholnkaaaDoor
