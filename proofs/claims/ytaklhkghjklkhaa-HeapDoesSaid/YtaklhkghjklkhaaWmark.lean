/-
  The reference's marks: rounds until all that is reached is marked. Conditions: none; plain lists, no program.
-/
import Derived.Test.YtaklhkghjklkhaaWdAlloc
namespace Go.Proofs.Ytaklhkghjklkhaa

inductive RW (ws : List Wo) (roots : List Int) : Nat → Prop
  | root {k : Nat} : (k : Int) ∈ roots → isW ws k = true → RW ws roots k
  | step {i k : Nat} {o : Wo} {s : Sl} : RW ws roots i → ws[i]? = some o → s ∈ o.slots → s.ref = true → s.n = (k : Int) → RW ws roots k
/-- What there is leads only to what there is. -/
def ClosedW (ws : List Wo) : Prop := ∀ (i : Nat) (o : Wo), ws[i]? = some o → o.gone = false → ∀ s ∈ o.slots, s.ref = true → isW ws s.n = true
theorem RW.alive {ws : List Wo} {roots : List Int} (hc : ClosedW ws) {i : Nat} (h : RW ws roots i) : isW ws i = true := by
  induction h with
  | root _ h => exact h
  | @step i k o s _ ho hs hr hk ih =>
    rw [isW_at ho] at ih
    have := hc i o ho (by simpa using ih) s hs hr
    rw [hk] at this
    exact this
theorem isW_lt {ws : List Wo} {k : Nat} (h : isW ws k = true) : k < ws.length := by
  obtain ⟨i, o, hi, ho, _⟩ := isW_nat h
  have := (List.getElem?_eq_some_iff.1 ho).1
  omega

def gB (M : List Bool) (i : Nat) : Bool := M.getD i false
theorem gB_set (M : List Bool) (k : Nat) (i : Nat) : gB (M.set k true) i = true ↔ gB M i = true ∨ (i = k ∧ k < M.length) := by
  simp only [gB, List.getD, List.getElem?_set]
  by_cases h : k = i
  · subst h
    by_cases h2 : k < M.length
    · simp [h2]
    · simp [h2]
  · have : ¬ i = k := fun e => h e.symm
    simp [h, this]
def LeB (M N : List Bool) : Prop := M.length = N.length ∧ ∀ i, gB M i = true → gB N i = true
theorem LeB.refl (M : List Bool) : LeB M M := ⟨rfl, fun _ h => h⟩
theorem LeB.trans {A B C : List Bool} (h : LeB A B) (k : LeB B C) : LeB A C := ⟨h.1.trans k.1, fun i hi => k.2 i (h.2 i hi)⟩
theorem LeB.antisymm {A B : List Bool} (h : LeB A B) (k : LeB B A) : A = B := by
  apply List.ext_getElem h.1
  intro i h1 h2
  have a := h.2 i
  have b := k.2 i
  simp only [gB, List.getD, List.getElem?_eq_getElem h1, List.getElem?_eq_getElem h2, Option.getD_some] at a b
  cases ha : A[i] <;> cases hb : B[i] <;> simp_all
def cnt (M : List Bool) : Nat := M.count true
theorem cnt_le (M : List Bool) : cnt M ≤ M.length := List.count_le_length
theorem LeB.cnt : ∀ {A B : List Bool}, LeB A B → cnt A ≤ cnt B ∧ (cnt A = cnt B → A = B)
  | [], [], _ => ⟨Nat.le_refl _, fun _ => rfl⟩
  | [], _ :: _, h => by have := h.1; simp at this
  | _ :: _, [], h => by have := h.1; simp at this
  | a :: A, b :: B, h => by
    have h1 : LeB A B := ⟨by have := h.1; simpa using this, fun i hi => by
      have := h.2 (i + 1)
      simp only [gB, List.getD, List.getElem?_cons_succ] at this hi ⊢
      exact this hi⟩
    obtain ⟨i1, i2⟩ := LeB.cnt h1
    have h0 : a = true → b = true := by
      have := h.2 0
      simpa [gB] using this
    simp only [Go.Proofs.Ytaklhkghjklkhaa.cnt, List.count_cons] at i1 i2 ⊢
    cases a <;> cases b
    · simp
      exact ⟨i1, i2⟩
    · simp
      exact ⟨by omega, fun e => by omega⟩
    · simp at h0
    · simp
      exact ⟨i1, i2⟩

def setT (M : List Bool) (s : Sl) : List Bool := if s.ref then M.set s.n.toNat true else M
def markS (M : List Bool) (l : List Sl) : List Bool := l.foldl setT M
def stepI (ws : List Wo) (M : List Bool) (i : Nat) : List Bool := match ws[i]? with
  | some o => if gB M i then markS M o.slots else M
  | none => M
def rndI (ws : List Wo) : Nat → List Bool → List Bool
  | 0, M => M
  | i + 1, M => stepI ws (rndI ws i M) i
def rounds (ws : List Wo) (n : Nat) : Nat → List Bool → List Bool
  | 0, M => M
  | t + 1, M => rndI ws n (rounds ws n t M)
theorem setT_le (M : List Bool) (s : Sl) : LeB M (setT M s) := by
  unfold setT
  split
  · exact ⟨by simp, fun i hi => (gB_set M _ i).2 (.inl hi)⟩
  · exact LeB.refl M
theorem markS_le (M : List Bool) (l : List Sl) : LeB M (markS M l) := by
  induction l generalizing M with
  | nil => exact LeB.refl M
  | cons s l ih => exact (setT_le M s).trans (ih _)
theorem markS_snoc (M : List Bool) (l : List Sl) (s : Sl) : markS M (l ++ [s]) = setT (markS M l) s := by simp [markS]
theorem stepI_le (ws : List Wo) (M : List Bool) (i : Nat) : LeB M (stepI ws M i) := by
  unfold stepI
  split
  · split
    · exact markS_le M _
    · exact LeB.refl M
  · exact LeB.refl M
theorem rndI_le (ws : List Wo) (M : List Bool) (i : Nat) : LeB M (rndI ws i M) := by
  induction i with
  | zero => exact LeB.refl M
  | succ i ih => exact ih.trans (stepI_le ws _ i)
theorem rndI_mono (ws : List Wo) (M : List Bool) {i j : Nat} (h : i ≤ j) : LeB (rndI ws i M) (rndI ws j M) := by
  induction h with
  | refl => exact LeB.refl _
  | step _ ih => exact ih.trans (stepI_le ws _ _)
theorem rounds_le (ws : List Wo) (n : Nat) (M : List Bool) (t : Nat) : LeB M (rounds ws n t M) := by
  induction t with
  | zero => exact LeB.refl M
  | succ t ih => exact ih.trans (rndI_le ws _ n)
theorem rounds_stable (ws : List Wo) (n : Nat) (M : List Bool) (hn : M.length = n) : rndI ws n (rounds ws n n M) = rounds ws n n M := by
  have key : ∀ t, rndI ws n (rounds ws n t M) = rounds ws n t M ∨ t ≤ cnt (rounds ws n t M) := by
    intro t
    induction t with
    | zero => exact .inr (Nat.zero_le _)
    | succ t ih =>
      rcases ih with h | h
      · left
        show rndI ws n (rndI ws n (rounds ws n t M)) = rndI ws n (rounds ws n t M)
        rw [h, h]
      · have hl := rndI_le ws (rounds ws n t M) n
        by_cases e : rndI ws n (rounds ws n t M) = rounds ws n t M
        · left
          show rndI ws n (rndI ws n (rounds ws n t M)) = rndI ws n (rounds ws n t M)
          rw [e, e]
        · right
          obtain ⟨a, b⟩ := hl.cnt
          show t + 1 ≤ cnt (rndI ws n (rounds ws n t M))
          have : cnt (rounds ws n t M) ≠ cnt (rndI ws n (rounds ws n t M)) := fun q => e (b q).symm
          omega
  rcases key n with h | h
  · exact h
  · have hl := rndI_le ws (rounds ws n n M) n
    obtain ⟨a, b⟩ := hl.cnt
    have h1 := cnt_le (rndI ws n (rounds ws n n M))
    have h2 := (rounds_le ws n M n).1
    have h3 := hl.1
    exact (b (by omega)).symm
theorem markS_fix {M : List Bool} : ∀ {l : List Sl}, markS M l = M → ∀ s ∈ l, setT M s = M
  | [], _, s, hs => nomatch hs
  | t :: l, h, s, hs => by
    have h1 : setT M t = M := by
      refine LeB.antisymm ?_ (setT_le M t)
      have := markS_le (setT M t) l
      have e : markS (setT M t) l = M := h
      rw [e] at this
      exact this
    have h2 : markS M l = M := by
      have e : markS (setT M t) l = M := h
      rw [h1] at e
      exact e
    rcases List.mem_cons.1 hs with rfl | hs
    · exact h1
    · exact markS_fix h2 s hs
theorem rndI_fix {ws : List Wo} {n : Nat} {M : List Bool} (h : rndI ws n M = M) {i : Nat} (hi : i < n) : stepI ws M i = M := by
  have e : ∀ j, j ≤ n → rndI ws j M = M := fun j hj => LeB.antisymm (by have := rndI_mono ws M hj; rw [h] at this; exact this) (rndI_le ws M j)
  have := e (i + 1) hi
  show stepI ws M i = M
  have h2 : stepI ws (rndI ws i M) i = M := this
  rw [e i (by omega)] at h2
  exact h2

section
variable {ws : List Wo} {roots : List Int}
def SoundM (ws : List Wo) (roots : List Int) (M : List Bool) : Prop := ∀ i, gB M i = true → RW ws roots i
theorem SoundM.markS {M : List Bool} {i : Nat} {o : Wo} (h : SoundM ws roots M) (hi : RW ws roots i) (ho : ws[i]? = some o) (hc : ClosedW ws) : ∀ l : List Sl, (∀ s ∈ l, s ∈ o.slots) → SoundM ws roots (markS M l) := by
  intro l
  induction l generalizing M with
  | nil => exact fun _ => h
  | cons s l ih =>
    intro hl
    refine ih ?_ (fun x hx => hl x (List.mem_cons_of_mem _ hx))
    unfold setT
    cases hr : s.ref with
    | false => simpa using h
    | true =>
      intro j hj
      have hj' : gB (M.set s.n.toNat true) j = true := by simpa using hj
      rcases (gB_set M _ j).1 hj' with hj | ⟨rfl, _⟩
      · exact h j hj
      · have hal := hi.alive hc
        rw [isW_at ho] at hal
        obtain ⟨k, _, hk, _, _⟩ := isW_nat (hc i o ho (by simpa using hal) s (hl s List.mem_cons_self) hr)
        rw [hk]
        exact .step hi ho (hl s List.mem_cons_self) hr hk
theorem SoundM.stepI {M : List Bool} (h : SoundM ws roots M) (hc : ClosedW ws) (i : Nat) : SoundM ws roots (stepI ws M i) := by
  unfold Go.Proofs.Ytaklhkghjklkhaa.stepI
  split
  · rename_i o ho
    split
    · rename_i hg
      exact h.markS (h i hg) ho hc _ (fun _ hs => hs)
    · exact h
  · exact h
theorem SoundM.rndI {M : List Bool} (h : SoundM ws roots M) (hc : ClosedW ws) (i : Nat) : SoundM ws roots (rndI ws i M) := by
  induction i with
  | zero => exact h
  | succ i ih => exact ih.stepI hc i
theorem SoundM.rounds {M : List Bool} (h : SoundM ws roots M) (hc : ClosedW ws) (n t : Nat) : SoundM ws roots (rounds ws n t M) := by
  induction t with
  | zero => exact h
  | succ t ih => exact ih.rndI hc n
def rootT (ws : List Wo) (M : List Bool) (r : Int) : List Bool := if isW ws r then M.set r.toNat true else M
def rootsM (ws : List Wo) (l : List Int) (M : List Bool) : List Bool := l.foldl (rootT ws) M
theorem rootsM_snoc (l : List Int) (M : List Bool) (r : Int) : rootsM ws (l ++ [r]) M = rootT ws (rootsM ws l M) r := by simp [rootsM]
theorem rootT_le (M : List Bool) (r : Int) : LeB M (rootT ws M r) := by
  unfold rootT
  split
  · exact ⟨by simp, fun i hi => (gB_set M _ i).2 (.inl hi)⟩
  · exact LeB.refl M
theorem rootsM_le (l : List Int) (M : List Bool) : LeB M (rootsM ws l M) := by
  induction l generalizing M with
  | nil => exact LeB.refl M
  | cons s l ih => exact (rootT_le M s).trans (ih _)
theorem SoundM.rootsM {M : List Bool} (h : SoundM ws roots M) : ∀ l : List Int, (∀ r ∈ l, r ∈ roots) → SoundM ws roots (rootsM ws l M) := by
  intro l
  induction l generalizing M with
  | nil => exact fun _ => h
  | cons r l ih =>
    intro hl
    refine ih ?_ (fun x hx => hl x (List.mem_cons_of_mem _ hx))
    unfold rootT
    cases hr : isW ws r with
    | false => simpa using h
    | true =>
      intro j hj
      have hj' : gB (M.set r.toNat true) j = true := by simpa using hj
      rcases (gB_set M _ j).1 hj' with hj | ⟨rfl, _⟩
      · exact h j hj
      · obtain ⟨k, _, rfl, _, _⟩ := isW_nat hr
        exact .root (hl _ List.mem_cons_self) hr
theorem rootsM_has : ∀ (l : List Int) (M : List Bool), M.length = ws.length → ∀ k : Nat, (k : Int) ∈ l → isW ws k = true → gB (rootsM ws l M) k = true
  | r :: l, M, hM, k, hk, ha => by
    rcases List.mem_cons.1 hk with rfl | hk
    · refine (rootsM_le l _).2 k ?_
      unfold rootT
      rw [ha]
      exact (gB_set M _ k).2 (.inr ⟨by omega, by have := isW_lt ha; simp; omega⟩)
    · exact rootsM_has l _ ((rootT_le M r).1.symm.trans hM) k hk ha
/-- all that the reference marks -/
def marksW (ws : List Wo) (roots : List Int) : List Bool := rounds ws ws.length ws.length (rootsM ws roots (List.replicate ws.length false))
theorem marksW_length : (marksW ws roots).length = ws.length := by
  unfold marksW
  rw [← (rounds_le ws ws.length (rootsM ws roots (List.replicate ws.length false)) ws.length).1, ← (rootsM_le roots (List.replicate ws.length false)).1]
  simp
theorem sound0 (n : Nat) : SoundM ws roots (List.replicate n false) := by
  intro i hi
  have : gB (List.replicate n false) i = false := by
    simp only [gB, List.getD, List.getElem?_replicate]
    split <;> rfl
  rw [this] at hi
  cases hi
theorem marksW_iff (hc : ClosedW ws) (i : Nat) : gB (marksW ws roots) i = true ↔ RW ws roots i := by
  have h0 : (rootsM ws roots (List.replicate ws.length false)).length = ws.length := by rw [← (rootsM_le roots (List.replicate ws.length false)).1]; simp
  constructor
  · exact fun h => (((sound0 ws.length).rootsM roots (fun _ h => h)).rounds hc _ _) i h
  · intro h
    induction h with
    | root hr ha => exact (rounds_le ws _ _ _).2 _ (rootsM_has roots _ (by simp) _ hr ha)
    | @step i k o s h ho hs hr hk ih =>
      have hst := rounds_stable ws ws.length _ h0
      have hil := (List.getElem?_eq_some_iff.1 ho).1
      have h1 := rndI_fix hst hil
      unfold stepI at h1
      rw [ho] at h1
      have ih' : gB (rounds ws ws.length ws.length (rootsM ws roots (List.replicate ws.length false))) i = true := ih
      simp only [ih', if_true] at h1
      have h2 := markS_fix h1 s hs
      have hal := (RW.step h ho hs hr hk).alive hc
      have hkl := isW_lt hal
      unfold setT at h2
      rw [hr] at h2
      simp only [if_true] at h2
      have hlen := marksW_length (ws := ws) (roots := roots)
      unfold marksW at hlen ⊢
      rw [← h2]
      exact (gB_set _ _ k).2 (.inr ⟨by omega, by rw [hlen]; omega⟩)
end
end Go.Proofs.Ytaklhkghjklkhaa
