/-
  What norm computes, in plain Lean. Conditions: none; no program.
-/
import Derived.Test.YtbanpohholnkaaaDoorWPut
namespace Go.Proofs.YtbanpohholnkaaaDoor

def hasS (s : ByteArray) (l : List ByteArray) : Bool := l.any fun x => decide (x = s)
theorem hasS_iff {s : ByteArray} {l : List ByteArray} : hasS s l = true ↔ s ∈ l := by simp [hasS]
def wordsL : List ByteArray := [⟨#[97, 110, 100]⟩, ⟨#[97, 110, 121]⟩, ⟨#[97, 115]⟩, ⟨#[98, 111, 111, 108]⟩, ⟨#[101, 108, 115, 101]⟩, ⟨#[101, 120, 112, 111, 114, 116]⟩, ⟨#[102, 97, 108, 115, 101]⟩, ⟨#[102, 110]⟩, ⟨#[102, 117, 110, 99, 116, 105, 111, 110]⟩, ⟨#[105, 102]⟩, ⟨#[105, 109, 112, 111, 114, 116]⟩, ⟨#[105, 110]⟩, ⟨#[105, 110, 116]⟩, ⟨#[105, 115]⟩, ⟨#[108, 101, 116]⟩, ⟨#[110, 111, 116]⟩, ⟨#[110, 117, 108, 108]⟩, ⟨#[111, 114]⟩, ⟨#[112, 114, 105, 110, 116]⟩, ⟨#[114, 101, 97, 100]⟩, ⟨#[114, 101, 99, 111, 114, 100]⟩, ⟨#[115, 116, 114]⟩, ⟨#[116, 104, 101, 110]⟩, ⟨#[116, 114, 117, 101]⟩, ⟨#[119, 105, 116, 104]⟩]
/-- May a text be a name? -/
def nameB (s : ByteArray) : Bool :=
  match s.data.toList with
  | [] => false
  | c :: _ => decide (s.size ≤ 32) && letterN c.toNat && s.data.toList.all (fun c => innerN c.toNat) && !hasS s wordsL

/-- Kids of a union, those of the unions among them in their place. -/
def flatU (kids : List Ty) : List Ty := kids.flatMap fun k => if k.kind = 7 then k.kids else [k]
noncomputable def putAll : List (Option Ty) → List Ty → Bool × List (Option Ty)
  | os, [] => (true, os)
  | os, m :: ms => if (putT os m).1 = true then putAll (putT os m).2 ms else (false, (putT os m).2)
theorem putAll_append : ∀ (a b : List Ty) (os : List (Option Ty)), putAll os (a ++ b) = if (putAll os a).1 = true then putAll (putAll os a).2 b else putAll os a
  | [], b, os => by simp [putAll]
  | m :: a, b, os => by
    simp only [List.cons_append, putAll]
    by_cases h : (putT os m).1 = true
    · simp only [h, if_true]
      exact putAll_append a b _
    · simp [h]
theorem putAll_snoc {a : List Ty} {m : Ty} {os os' : List (Option Ty)} (h : putAll os a = (true, os')) : putAll os (a ++ [m]) = putT os' m := by
  rw [putAll_append, h]
  simp only [if_true, putAll]
  by_cases h' : (putT os' m).1 = true
  · simp only [h', if_true]
    exact Prod.ext h'.symm rfl
  · simp only [h']
    refine Prod.ext ?_ rfl
    simp only [Bool.not_eq_true] at h'
    simp [h']
theorem putAll_bad {a : List Ty} {os : List (Option Ty)} (b : List Ty) (h : (putAll os a).1 = false) : (putAll os (a ++ b)).1 = false := by
  rw [putAll_append, h]
  simp [h]
def none6 : List (Option Ty) := [none, none, none, none, none, none]
def uniOf (l : List Ty) : Option Ty :=
  match l with
  | [] => none
  | [x] => some x
  | x :: y :: r => some (.mk 7 ⟨#[]⟩ [] (x :: y :: r))
noncomputable def uniT (kids : List Ty) : Option Ty :=
  if (putAll none6 (flatU kids)).1 = true then uniOf ((putAll none6 (flatU kids)).2.filterMap id) else none
theorem flatU_take {kids : List Ty} {i : Nat} {k : Ty} (h : kids[i]? = some k) : flatU (kids.take (i + 1)) = flatU (kids.take i) ++ if k.kind = 7 then k.kids else [k] := by
  rw [List.take_add_one, h]
  simp [flatU]
theorem flatU_split {kids : List Ty} {i : Nat} {k : Ty} (h : kids[i]? = some k) : ∃ r, flatU kids = flatU (kids.take i) ++ ((if k.kind = 7 then k.kids else [k]) ++ r) := by
  have e : kids = kids.take i ++ (k :: kids.drop (i + 1)) := by
    conv => lhs; rw [← List.take_append_drop i kids]
    congr 1
    have hi := (List.getElem?_eq_some_iff.1 h).1
    rw [List.drop_eq_getElem_cons hi]
    congr 1
    exact (List.getElem?_eq_some_iff.1 h).2
  refine ⟨flatU (kids.drop (i + 1)), ?_⟩
  conv => lhs; rw [e]
  simp [flatU]
theorem uniT_bad {kids : List Ty} {i j : Nat} {k : Ty} (h : kids[i]? = some k) (hb : (putAll none6 (flatU (kids.take i) ++ ((if k.kind = 7 then k.kids else [k]).take j))).1 = false) : uniT kids = none := by
  obtain ⟨r, hr⟩ := flatU_split h
  unfold uniT
  rw [if_neg]
  rw [hr]
  have : flatU (kids.take i) ++ ((if k.kind = 7 then k.kids else [k]) ++ r) = (flatU (kids.take i) ++ ((if k.kind = 7 then k.kids else [k]).take j)) ++ ((if k.kind = 7 then k.kids else [k]).drop j ++ r) := by
    rw [List.append_assoc, ← List.append_assoc (List.take j _), List.take_append_drop]
  rw [this]
  intro h'
  rw [putAll_bad _ hb] at h'
  cases h'
theorem filterMap_take {os : List (Option Ty)} {i : Nat} {o : Option Ty} (h : os[i]? = some o) : (os.take (i + 1)).filterMap id = (os.take i).filterMap id ++ o.toList := by
  rw [List.take_add_one, h]
  cases o <;> simp
end Go.Proofs.YtbanpohholnkaaaDoor
