/-
  Records in plain Lean: fields by rising names. Conditions: none; no program.
-/
import Derived.Test.YtbanpohholnkaaaDoorWSort
namespace Go.Proofs.YtbanpohholnkaaaDoor

abbrev Ft := ByteArray × Ty
def insF (x : Ft) : List Ft → List Ft
  | [] => [x]
  | y :: l => if ltS y.1 x.1 = true then y :: insF x l else x :: y :: l
def sortT : List Ft → List Ft
  | [] => []
  | x :: l => insF x (sortT l)
def nodupB : List ByteArray → Bool
  | [] => true
  | x :: l => !hasS x l && nodupB l
theorem nodupB_iff {l : List ByteArray} : nodupB l = true ↔ l.Nodup := by
  induction l with
  | nil => simp [nodupB]
  | cons x l ih =>
    simp only [nodupB, Bool.and_eq_true, Bool.not_eq_true', List.nodup_cons, ih]
    constructor
    · rintro ⟨h1, h2⟩
      exact ⟨fun h => (by rw [hasS_iff.2 h] at h1; cases h1), h2⟩
    · rintro ⟨h1, h2⟩
      refine ⟨?_, h2⟩
      cases h : hasS x l with
      | false => rfl
      | true => exact absurd (hasS_iff.1 h) h1
def recOk (names : List ByteArray) (kids : List Ty) : Bool := decide (names.length = kids.length) && decide (names.length ≤ 16) && names.all nameB && nodupB names
def recOf (l : List Ft) : Ty := .mk 5 ⟨#[]⟩ (l.map (·.1)) (l.map (·.2))
def recT (names : List ByteArray) (kids : List Ty) : Option Ty := if recOk names kids = true then some (recOf (sortT (names.zip kids))) else none

def Strict (l : List Ft) : Prop := l.Pairwise fun x y => ltS x.1 y.1 = true
theorem insF_perm (x : Ft) : ∀ l, (insF x l).Perm (x :: l)
  | [] => List.Perm.refl _
  | y :: l => by
    unfold insF
    split
    · exact ((insF_perm x l).cons y).trans (List.Perm.swap x y l)
    · exact List.Perm.refl _
theorem sortT_perm : ∀ l, (sortT l).Perm l
  | [] => List.Perm.refl _
  | x :: l => (insF_perm x _).trans ((sortT_perm l).cons x)
theorem insF_strict (x : Ft) : ∀ l, Strict l → (∀ y ∈ l, y.1 ≠ x.1) → Strict (insF x l)
  | [], _, _ => List.pairwise_singleton _ _
  | y :: l, h, hne => by
    obtain ⟨h1, h2⟩ := List.pairwise_cons.1 h
    unfold insF
    split
    · rename_i hlt
      refine List.pairwise_cons.2 ⟨fun z hz => ?_, insF_strict x l h2 fun z hz => hne z (List.mem_cons_of_mem _ hz)⟩
      rcases List.mem_cons.1 ((insF_perm x l).mem_iff.1 hz) with rfl | hz
      · exact hlt
      · exact h1 z hz
    · rename_i hlt
      have hlt' : ltS x.1 y.1 = true := by
        cases h' : ltS x.1 y.1 with
        | true => rfl
        | false => exact absurd (ltS_total (by simpa using hlt) h') (hne y List.mem_cons_self)
      refine List.pairwise_cons.2 ⟨fun z hz => ?_, h⟩
      rcases List.mem_cons.1 hz with rfl | hz
      · exact hlt'
      · exact ltS_trans hlt' (h1 z hz)
theorem sortT_strict : ∀ l : List Ft, (l.map (·.1)).Nodup → Strict (sortT l)
  | [], _ => List.Pairwise.nil
  | x :: l, h => by
    rw [List.map_cons, List.nodup_cons] at h
    refine insF_strict x _ (sortT_strict l h.2) fun y hy e => h.1 ?_
    rw [← e]
    exact List.mem_map.2 ⟨y, (sortT_perm l).mem_iff.1 hy, rfl⟩
theorem strict_unique : ∀ {a b : List Ft}, Strict a → Strict b → a.Perm b → a = b
  | [], b, _, _, h => (List.nil_perm.1 h).symm
  | x :: a, [], _, _, h => absurd h.length_eq (by simp)
  | x :: a, y :: b, ha, hb, h => by
    obtain ⟨a1, a2⟩ := List.pairwise_cons.1 ha
    obtain ⟨b1, b2⟩ := List.pairwise_cons.1 hb
    have hxy : x = y := by
      rcases List.mem_cons.1 (h.mem_iff.1 (List.mem_cons_self (a := x) (l := a))) with e | hx
      · exact e
      · rcases List.mem_cons.1 (h.mem_iff.2 (List.mem_cons_self (a := y) (l := b))) with e | hy
        · exact e.symm
        · have h1 := a1 y hy
          have h2 := b1 x hx
          rw [ltS_asymm h1] at h2
          cases h2
    subst hxy
    rw [strict_unique a2 b2 (List.Perm.cons_inv h)]
theorem strict_nodup {l : List Ft} (h : Strict l) : (l.map (·.1)).Nodup := by
  refine List.Pairwise.map _ (fun x y hxy e => ?_) h
  rw [e, ltS_irrefl] at hxy
  cases hxy
/-- Sorted, and no two beside one another alike: strictly rising. -/
theorem strict_of {l : List Ft} (h1 : ∀ (i j : Nat) (x y : Ft), i < j → l[i]? = some x → l[j]? = some y → ltS y.1 x.1 = false) (h2 : ∀ (i : Nat) (x y : Ft), l[i]? = some x → l[i + 1]? = some y → x.1 ≠ y.1) : Strict l := by
  have key : ∀ (d i : Nat) (x y : Ft), l[i]? = some x → l[i + d + 1]? = some y → ltS x.1 y.1 = true := by
    intro d
    induction d with
    | zero =>
      intro i x y hx hy
      cases h' : ltS x.1 y.1 with
      | true => rfl
      | false => exact absurd (ltS_total h' (h1 i (i + 1) x y (by omega) hx hy)) (h2 i x y hx hy)
    | succ d ih =>
      intro i x y hx hy
      have hl := (List.getElem?_eq_some_iff.1 hy).1
      obtain ⟨z, hz⟩ : ∃ z, l[i + d + 1]? = some z := ⟨_, List.getElem?_eq_getElem (by omega)⟩
      refine ltS_trans (ih i x z hx hz) ?_
      cases h' : ltS z.1 y.1 with
      | true => rfl
      | false => exact absurd (ltS_total h' (h1 (i + d + 1) (i + d + 1 + 1) z y (by omega) hz hy)) (h2 (i + d + 1) z y hz hy)
  refine List.pairwise_iff_getElem.2 fun i j hi hj hij => ?_
  exact key (j - i - 1) i _ _ (List.getElem?_eq_getElem hi) (by rw [show i + (j - i - 1) + 1 = j by omega]; exact List.getElem?_eq_getElem hj)
theorem dup_of {l : List Ft} {i : Nat} {x y : Ft} (hx : l[i]? = some x) (hy : l[i + 1]? = some y) (e : x.1 = y.1) : ¬ (l.map (·.1)).Nodup := by
  intro h
  have hi := (List.getElem?_eq_some_iff.1 hx).1
  have hj := (List.getElem?_eq_some_iff.1 hy).1
  have := (List.pairwise_iff_getElem.1 h) i (i + 1) (by simpa using hi) (by simpa using hj) (by omega)
  rw [List.getElem_map, List.getElem_map, (List.getElem?_eq_some_iff.1 hx).2, (List.getElem?_eq_some_iff.1 hy).2] at this
  exact this e
/-- From the sorted fields to the answer. -/
theorem recT_some {names : List ByteArray} {kids : List Ty} {l : List Ft} (hl : names.length = kids.length) (h16 : names.length ≤ 16) (hn : names.all nameB = true) (hp : l.Perm (names.zip kids)) (hs : Strict l) : recT names kids = some (recOf l) := by
  have hz : (names.zip kids).map (·.1) = names := by
    rw [List.map_fst_zip]
    omega
  have hnd : names.Nodup := by
    have := strict_nodup hs
    rw [(hp.map (·.1)).nodup_iff, hz] at this
    exact this
  have hok : recOk names kids = true := by
    unfold recOk
    rw [hn, nodupB_iff.2 hnd]
    simp [hl]
    omega
  unfold recT
  rw [if_pos hok, strict_unique (sortT_strict _ (by rw [hz]; exact hnd)) hs ((sortT_perm _).trans hp.symm)]
theorem recT_none {names : List ByteArray} {kids : List Ty} (h : names.length ≠ kids.length ∨ 16 < names.length ∨ (∃ s ∈ names, nameB s = false) ∨ ¬ names.Nodup) : recT names kids = none := by
  unfold recT
  rw [if_neg]
  intro hok
  simp only [recOk, Bool.and_eq_true, decide_eq_true_eq, List.all_eq_true] at hok
  obtain ⟨⟨⟨h1, h2⟩, h3⟩, h4⟩ := hok
  rcases h with h | h | ⟨s, hs, h⟩ | h
  · exact h h1
  · omega
  · rw [h3 s hs] at h; cases h
  · exact h (nodupB_iff.1 h4)
/-- A permutation of images comes from one of what they are the images of. -/
theorem perm_lift {α β : Type} (f : α → β) {d : List β} {l : List α} (h : d.Perm (l.map f)) : ∃ l' : List α, l'.Perm l ∧ l'.map f = d := by
  generalize hm : l.map f = m at h
  induction h generalizing l with
  | nil =>
    have : l = [] := by simpa using hm
    subst this
    exact ⟨[], List.Perm.refl _, rfl⟩
  | @cons x d m _ ih =>
    cases l with
    | nil => simp at hm
    | cons a l =>
      simp only [List.map_cons, List.cons.injEq] at hm
      obtain ⟨l', h1, h2⟩ := ih hm.2
      exact ⟨a :: l', h1.cons a, by rw [List.map_cons, h2, hm.1]⟩
  | @swap x y m =>
    cases l with
    | nil => simp at hm
    | cons a l =>
      cases l with
      | nil => simp at hm
      | cons b l =>
        simp only [List.map_cons, List.cons.injEq] at hm
        exact ⟨b :: a :: l, List.Perm.swap a b l, by simp [hm]⟩
  | @trans d m1 m2 _ _ ih1 ih2 =>
    obtain ⟨l1, a1, a2⟩ := ih2 hm
    obtain ⟨l2, b1, b2⟩ := ih1 a2
    exact ⟨l2, b1.trans a1, b2⟩
end Go.Proofs.YtbanpohholnkaaaDoor
