/-
  show, Show in plain Lean. Conditions: none; no program.
-/
import Derived.Test.YtbanpohholnkaaaDoorNormT
namespace Go.Proofs.YtbanpohholnkaaaDoor

def joinB (sep : ByteArray) : List ByteArray → ByteArray
  | [] => ⟨#[]⟩
  | [x] => x
  | x :: y :: l => x ++ sep ++ joinB sep (y :: l)
def baseS (k : Int) : ByteArray := if k = 0 then ⟨#[97, 110, 121]⟩ else if k = 1 then ⟨#[110, 117, 108, 108]⟩ else if k = 2 then ⟨#[98, 111, 111, 108]⟩ else if k = 3 then ⟨#[105, 110, 116]⟩ else ⟨#[115, 116, 114]⟩
/-- A kind's text, out of those of its kids: (kind, text). -/
def innS (x : Int × ByteArray) : ByteArray := if x.1 = 6 then ⟨#[40]⟩ ++ x.2 ++ ⟨#[41]⟩ else x.2
def headS (k : Int) (ns : List ByteArray) (ks : List (Int × ByteArray)) : ByteArray :=
  if k = 5 then ⟨#[123]⟩ ++ joinB ⟨#[44, 32]⟩ ((ns.zip ks).map fun x => x.1 ++ ⟨#[58, 32]⟩ ++ x.2.2) ++ ⟨#[125]⟩
  else if k = 6 then (match ks with | a :: b :: _ => innS a ++ ⟨#[32, 45, 62, 32]⟩ ++ b.2 | _ => ⟨#[]⟩)
  else if k = 7 then joinB ⟨#[32, 124, 32]⟩ (ks.map innS)
  else baseS k
mutual
def showT : Ty → ByteArray
  | .mk k _ ns ks => headS k ns (showL ks)
def showL : List Ty → List (Int × ByteArray)
  | [] => []
  | t :: ts => (t.kind, showT t) :: showL ts
end
theorem showT_eq (t : Ty) : showT t = headS t.kind t.names (showL t.kids) := by cases t; rfl
theorem showL_eq (l : List Ty) : showL l = l.map fun t => (t.kind, showT t) := by
  induction l with
  | nil => rfl
  | cons t l ih => simp [showL, ih]
/-- The shape of a normal type, as far as show asks. -/
def headW (k : Int) (ns : List ByteArray) (n : Nat) : Prop :=
  (0 ≤ k ∧ k ≤ 4) ∨ (k = 5 ∧ ns.length = n ∧ ∀ s ∈ ns, s.size ≤ 32) ∨ (k = 6 ∧ n = 2) ∨ k = 7
mutual
def WfS : Ty → Prop
  | .mk k _ ns ks => headW k ns ks.length ∧ WfL ks
def WfL : List Ty → Prop
  | [] => True
  | t :: ts => WfS t ∧ WfL ts
end
theorem WfS.out {t : Ty} (h : WfS t) : headW t.kind t.names t.kids.length ∧ WfL t.kids := by cases t; exact h
theorem WfL_iff {l : List Ty} : WfL l ↔ ∀ t ∈ l, WfS t := by
  induction l with
  | nil => simp [WfL]
  | cons t l ih => simp [WfL, ih]
theorem size_app (a b : ByteArray) : (a ++ b).size = a.size + b.size := by simp
def sumS (l : List ByteArray) : Nat := (l.map ByteArray.size).sum
theorem joinB_size (sep : ByteArray) : ∀ (l : List ByteArray), (joinB sep l).size ≤ sumS l + l.length * sep.size
  | [] => by
    have : (joinB sep []).size = 0 := rfl
    omega
  | [x] => by simp [joinB, sumS]
  | x :: y :: l => by
    have h2 := joinB_size sep (y :: l)
    rw [joinB, size_app, size_app]
    simp only [sumS, List.map_cons, List.sum_cons, List.length_cons, Nat.add_mul, Nat.one_mul] at h2 ⊢
    omega
theorem innS_size (x : Int × ByteArray) : (innS x).size ≤ x.2.size + 2 := by
  unfold innS
  split
  · rw [size_app, size_app]
    have : (⟨#[40]⟩ : ByteArray).size = 1 := rfl
    have : (⟨#[41]⟩ : ByteArray).size = 1 := rfl
    omega
  · omega
theorem sum_kids (f : Ty → ByteArray) : ∀ (l : List Ty), (∀ t ∈ l, (f t).size + 3 ≤ 44 * t.size) → sumS (l.map f) + 3 * l.length ≤ 44 * sizeL l
  | [], _ => by simp [sumS, sizeL]
  | t :: l, h => by
    have h1 := h t (by simp)
    have h2 := sum_kids f l (fun x hx => h x (List.mem_cons_of_mem _ hx))
    simp only [List.map_cons, sumS, List.sum_cons, List.length_cons, sizeL] at h2 ⊢
    omega
theorem zip_sum (ns : List ByteArray) (l : List Ty) (h : ∀ s ∈ ns, s.size ≤ 32) (hl : ns.length = l.length) (hk : ∀ t ∈ l, (showT t).size + 38 ≤ 44 * t.size) :
    sumS ((ns.zip (showL l)).map fun x => x.1 ++ ⟨#[58, 32]⟩ ++ x.2.2) + 2 * l.length ≤ 44 * sizeL l := by
  induction l generalizing ns with
  | nil => simp [showL, sumS, sizeL]
  | cons t l ih =>
    cases ns with
    | nil => simp at hl
    | cons s ns =>
      have h1 := h s (by simp)
      have h2 := hk t (by simp)
      have h3 := ih ns (fun x hx => h x (List.mem_cons_of_mem _ hx)) (by simpa using hl) (fun x hx => hk x (List.mem_cons_of_mem _ hx))
      have e : (s ++ ⟨#[58, 32]⟩ ++ showT t).size = s.size + 2 + (showT t).size := by rw [size_app, size_app]; rfl
      simp only [showL, List.zip_cons_cons, List.map_cons, sumS, List.sum_cons, List.length_cons, sizeL, e] at h3 ⊢
      omega
/-- A normal type's text is not long. -/
theorem showT_size (t : Ty) : WfS t → (showT t).size + 38 ≤ 44 * t.size := by
  induction t using Ty.ind with
  | h t ih =>
    intro hw
    obtain ⟨hh, hk⟩ := hw.out
    have hkids : ∀ k ∈ t.kids, (showT k).size + 38 ≤ 44 * k.size := fun k hk' => ih k (Ty.kid_lt hk') (WfL_iff.1 hk k hk')
    rw [showT_eq, t.size_eq]
    unfold headS
    rcases hh with hh | ⟨h5, hl, hn⟩ | ⟨h6, h2⟩ | h7
    · rw [if_neg (by omega), if_neg (by omega), if_neg (by omega)]
      have : (baseS t.kind).size ≤ 4 := by
        unfold baseS
        repeat' split
        all_goals decide
      omega
    · rw [if_pos h5, size_app, size_app]
      have hj := joinB_size ⟨#[44, 32]⟩ ((t.names.zip (showL t.kids)).map fun x => x.1 ++ ⟨#[58, 32]⟩ ++ x.2.2)
      have hz := zip_sum t.names t.kids hn hl hkids
      have e1 : (⟨#[123]⟩ : ByteArray).size = 1 := rfl
      have e2 : (⟨#[125]⟩ : ByteArray).size = 1 := rfl
      have e3 : (⟨#[44, 32]⟩ : ByteArray).size = 2 := rfl
      have e4 : ((t.names.zip (showL t.kids)).map fun x => x.1 ++ ⟨#[58, 32]⟩ ++ x.2.2).length = t.kids.length := by simp [showL_eq, hl]
      rw [e4, e3] at hj
      omega
    · rw [if_neg (by omega), if_pos h6]
      match hks : t.kids, h2 with
      | [a, b], _ =>
        have ha := hkids a (by rw [hks]; simp)
        have hb := hkids b (by rw [hks]; simp)
        simp only [showL, sizeL]
        have hi := innS_size (a.kind, showT a)
        have e : (innS (a.kind, showT a) ++ ⟨#[32, 45, 62, 32]⟩ ++ showT b).size = (innS (a.kind, showT a)).size + 4 + (showT b).size := by rw [size_app, size_app]; rfl
        rw [e]
        simp only at hi
        omega
    · rw [if_neg (by omega), if_neg (by omega), if_pos h7]
      have hj := joinB_size ⟨#[32, 124, 32]⟩ ((showL t.kids).map innS)
      have e3 : (⟨#[32, 124, 32]⟩ : ByteArray).size = 3 := rfl
      have e4 : ((showL t.kids).map innS).length = t.kids.length := by simp [showL_eq]
      have e5 : (showL t.kids).map innS = t.kids.map fun k => innS (k.kind, showT k) := by simp [showL_eq, Function.comp_def]
      have hs := sum_kids (fun k => innS (k.kind, showT k)) t.kids (fun k hk' => by
        have h1 := hkids k hk'
        have h2 := innS_size (k.kind, showT k)
        simp only at h2 ⊢
        omega)
      rw [e4, e5, e3] at hj
      rw [e5]
      omega
end Go.Proofs.YtbanpohholnkaaaDoor
