/-
  norm, Norm in plain Lean. Conditions: none; no program.
-/
import Derived.Test.YtbanpohholnkaaaDoorRec
namespace Go.Proofs.YtbanpohholnkaaaDoor

def funT (kids : List Ty) : Option Ty := if kids.length = 2 then some (.mk 6 ⟨#[]⟩ [] kids) else none
/-- What norm makes of a kind, names, and the normal kids (none: a kid is not). -/
noncomputable def headT (k : Int) (ns : List ByteArray) (kids : Option (List Ty)) : Option Ty :=
  if 0 ≤ k ∧ k ≤ 4 then some (.mk k ⟨#[]⟩ [] [])
  else if k = 5 then kids.bind (recT ns)
  else if k = 6 then kids.bind funT
  else if k = 7 then kids.bind uniT
  else none
mutual
noncomputable def normT : Ty → Option Ty
  | .mk k _ ns ks => headT k ns (normL ks)
noncomputable def normL : List Ty → Option (List Ty)
  | [] => some []
  | t :: ts => (normT t).bind fun t' => (normL ts).map fun ts' => t' :: ts'
end
theorem normT_eq (t : Ty) : normT t = headT t.kind t.names (normL t.kids) := by cases t; rfl
theorem normL_snoc : ∀ (a : List Ty) (t : Ty), normL (a ++ [t]) = (normL a).bind fun a' => (normT t).map fun t' => a' ++ [t']
  | [], t => by
    simp only [List.nil_append, normL, Option.bind_some]
    cases normT t <;> simp
  | x :: a, t => by
    simp only [List.cons_append, normL, normL_snoc a t]
    cases normT x with
    | none => simp
    | some x' =>
      cases normL a with
      | none => simp
      | some a' => cases normT t <;> simp
theorem normL_none {ks : List Ty} {i : Nat} {k : Ty} (h : ks[i]? = some k) (hk : normT k = none) : normL ks = none := by
  induction ks generalizing i with
  | nil => simp at h
  | cons x ks ih =>
    simp only [normL]
    cases i with
    | zero =>
      simp only [List.getElem?_cons_zero, Option.some.injEq] at h
      subst h
      rw [hk]
      rfl
    | succ i =>
      rw [ih (by simpa using h)]
      cases normT x <;> simp
theorem normL_length {ks l : List Ty} (h : normL ks = some l) : l.length = ks.length := by
  induction ks generalizing l with
  | nil => simp only [normL, Option.some.injEq] at h; subst h; rfl
  | cons x ks ih =>
    simp only [normL] at h
    cases hx : normT x with
    | none => rw [hx] at h; simp at h
    | some x' =>
      rw [hx] at h
      simp only [Option.bind_some, Option.map_eq_some_iff] at h
      obtain ⟨l', h1, rfl⟩ := h
      simp [ih h1]
/-- Norm: the answer, or none. -/
noncomputable def NormT (t : Ty) : Option Ty := if 16 < t.ht ∨ 200 < t.size then none else normT t
end Go.Proofs.YtbanpohholnkaaaDoor
