/-
  How types stand to one another, in plain Lean. Conditions: none; no program.
-/
import Derived.Test.YtbanpohholnkaaaDoorPLaw
namespace Go.Proofs.YtbanpohholnkaaaDoor

def anyP (tag : Nat) : Ty := if tag = 5 then .mk 6 ⟨#[]⟩ [] [ty0, ty0] else .mk ((tag : Int) + 1) ⟨#[]⟩ [] []
/-- The part of a tag: is it an open record; its type. -/
def prt (t : Ty) (tag : Nat) : Option (Bool × Ty) :=
  if t.kind = 0 then some (decide (tag = 4), anyP tag) else ((atoms t).find? fun k => decide (tagT k = (tag : Int))).map fun k => (false, k)
def fld (t : Ty) (s : ByteArray) : Option Ty := ((t.names.zip t.kids).find? fun x => decide (x.1 = s)).map (·.2)
def kidT (p : Bool × Ty) (s : ByteArray) : Option Ty := match fld p.2 s with | some k => some k | none => if p.1 = true then some ty0 else none
def eachB (a b : Ty) (missing : Bool) (ok : Nat → Bool × Ty → Bool × Ty → Bool) : Bool :=
  (List.range 6).all fun tag => match prt a tag with
    | none => true
    | some m => match prt b tag with
      | none => missing
      | some p => ok tag m p
def allz {α : Type} (f : α → Bool) (l : List α) : Bool := l.all f
/-- What below asks of two parts; what stands for below is handed in. -/
def belP (f : Ty → Ty → Bool) (tag : Nat) (m p : Bool × Ty) : Bool :=
  allz (fun x => match kidT m x.1 with | some k => f k x.2 | none => false) (p.2.names.zip p.2.kids) &&
  (decide (tag ≠ 5) || match p.2.kids, m.2.kids with | pa :: pb :: _, ma :: mb :: _ => f pa ma && f mb pb | _, _ => false)
def naiP (f : Ty → Ty → Bool) (_ : Nat) (m p : Bool × Ty) : Bool :=
  decide (m.2.names = p.2.names) && (decide (m.2.kids.length = p.2.kids.length) && allz (fun x => f x.1 x.2) (m.2.kids.zip p.2.kids))
def blaP (f : Bool → Ty → Ty → Bool) (pos : Bool) (tag : Nat) (m p : Bool × Ty) : Bool :=
  if tag = 5 then match p.2.kids, m.2.kids with | pa :: pb :: _, ma :: mb :: _ => f (!pos) pa ma && f pos mb pb | _, _ => false
  else allz (fun x => match kidT m x.1 with | some k => !(pos && m.1) && f pos k x.2 | none => !pos) (if p.1 = true then m.2.names.map fun s => (s, ty0) else p.2.names.zip p.2.kids)
def belowF : Nat → Bool → Ty → Ty → Bool
  | 0, _, _, _ => false
  | n + 1, l, a, b => if a.kind = 0 ∨ b.kind = 0 then l || (decide (a.kind = 0) && decide (b.kind = 0)) else eachB a b false (belP (belowF n l))
def naiveF : Nat → Ty → Ty → Bool
  | 0, _, _ => false
  | n + 1, a, b => if a.kind = 0 ∨ b.kind = 0 then decide (b.kind = 0)
    else (List.range 6).all (fun tag => decide ((prt a tag).isSome = (prt b tag).isSome)) && eachB a b false (naiP (naiveF n))
def blamesF : Nat → Bool → Ty → Ty → Bool
  | 0, _, _, _ => false
  | n + 1, pos, a, b => if a.kind = 0 ∧ b.kind = 0 then true else eachB a b (!pos) (blaP (blamesF n) pos)
def belowT (l : Bool) (a b : Ty) : Bool := belowF (a.size + b.size) l a b
def naiveT (a b : Ty) : Bool := naiveF (a.size + b.size) a b
def blamesT (pos : Bool) (a b : Ty) : Bool := blamesF (a.size + b.size) pos a b
theorem allz_congr {α : Type} {f g : α → Bool} {l : List α} (h : ∀ x ∈ l, f x = g x) : allz f l = allz g l := by
  unfold allz
  rw [Bool.eq_iff_iff, List.all_eq_true, List.all_eq_true]
  exact ⟨fun k x hx => (h x hx) ▸ k x hx, fun k x hx => (h x hx).symm ▸ k x hx⟩
theorem allz_iff {α : Type} {f : α → Bool} {l : List α} : allz f l = true ↔ ∀ x ∈ l, f x = true := by unfold allz; exact List.all_eq_true
theorem eachB_congr {a b : Ty} {ms : Bool} {f g : Nat → Bool × Ty → Bool × Ty → Bool} (h : ∀ tag m p, prt a tag = some m → prt b tag = some p → f tag m p = g tag m p) : eachB a b ms f = eachB a b ms g := by
  unfold eachB
  refine allz_congr fun tag _ => ?_
  cases hm : prt a tag with
  | none => rfl
  | some m =>
    cases hp : prt b tag with
    | none => rfl
    | some p => exact h tag m p hm hp
theorem eachB_iff {a b : Ty} {ms : Bool} {f : Nat → Bool × Ty → Bool × Ty → Bool} : eachB a b ms f = true ↔ ∀ tag, tag < 6 → ∀ m, prt a tag = some m → (prt b tag = none → ms = true) ∧ ∀ p, prt b tag = some p → f tag m p = true := by
  unfold eachB
  rw [List.all_eq_true]
  constructor
  · intro h tag ht m hm
    have h1 := h tag (List.mem_range.2 ht)
    rw [hm] at h1
    simp only at h1
    constructor
    · intro hn
      rw [hn] at h1
      exact h1
    · intro p hp
      rw [hp] at h1
      exact h1
  · intro h tag ht
    cases hm : prt a tag with
    | none => rfl
    | some m =>
      obtain ⟨h1, h2⟩ := h tag (List.mem_range.1 ht) m hm
      cases hp : prt b tag with
      | none => exact h1 hp
      | some p => exact h2 p hp
/-- The kids of a part are small. -/
theorem prt_small {t : Ty} {tag : Nat} {m : Bool × Ty} (h : prt t tag = some m) : (∀ k ∈ m.2.kids, k.size < t.size) ∨ (t.kind = 0 ∧ (∀ k ∈ m.2.kids, k = ty0) ∧ m.2.names = []) := by
  unfold prt at h
  split at h
  · rename_i h0
    simp only [Option.some.injEq] at h
    subst h
    refine .inr ⟨h0, ?_⟩
    unfold anyP
    split
    · simp [Ty.kids, Ty.names]
    · simp [Ty.kids, Ty.names]
  · simp only [Option.map_eq_some_iff] at h
    obtain ⟨k, hk, rfl⟩ := h
    refine .inl fun x hx => ?_
    have hx' : x.size < k.size := Ty.kid_lt hx
    rcases atoms_small (List.mem_of_find?_eq_some hk) with rfl | hk'
    · exact hx'
    · have := Ty.kid_lt hk'
      omega
theorem fld_mem {t k : Ty} {s : ByteArray} (h : fld t s = some k) : k ∈ t.kids := by
  unfold fld at h
  simp only [Option.map_eq_some_iff] at h
  obtain ⟨x, hx, rfl⟩ := h
  exact (List.of_mem_zip (List.mem_of_find?_eq_some hx)).2
theorem kidT_mem {p : Bool × Ty} {k : Ty} {s : ByteArray} (h : kidT p s = some k) : k ∈ p.2.kids ∨ (p.1 = true ∧ k = ty0) := by
  unfold kidT at h
  cases hf : fld p.2 s with
  | some k' =>
    rw [hf] at h
    simp only [Option.some.injEq] at h
    subst h
    exact .inl (fld_mem hf)
  | none =>
    rw [hf] at h
    simp only at h
    split at h
    · rename_i hp
      simp only [Option.some.injEq] at h
      exact .inr ⟨hp, h.symm⟩
    · cases h
theorem size_ty0 : ty0.size = 1 := rfl
theorem prt_open {t : Ty} {tag : Nat} {m : Bool × Ty} (h : prt t tag = some m) (ho : m.1 = true) : t.kind = 0 := by
  unfold prt at h
  split at h
  · assumption
  · simp only [Option.map_eq_some_iff] at h
    obtain ⟨k, _, rfl⟩ := h
    cases ho
theorem belP_congr {f g : Ty → Ty → Bool} {a b : Ty} (ha : a.kind ≠ 0) (hb : b.kind ≠ 0) (h : ∀ x y, x.size + y.size < a.size + b.size → f x y = g x y) {tag : Nat} {m p : Bool × Ty} (hm : prt a tag = some m) (hp : prt b tag = some p) : belP f tag m p = belP g tag m p := by
  have km : ∀ k ∈ m.2.kids, k.size < a.size := (prt_small hm).elim id fun x => absurd x.1 ha
  have kp : ∀ k ∈ p.2.kids, k.size < b.size := (prt_small hp).elim id fun x => absurd x.1 hb
  unfold belP
  congr 1
  · refine allz_congr fun x hx => ?_
    have h2 := kp _ (List.of_mem_zip hx).2
    cases hk : kidT m x.1 with
    | none => rfl
    | some k =>
      rcases kidT_mem hk with h1 | ⟨h1, _⟩
      · have := km k h1
        exact h _ _ (by omega)
      · exact absurd (prt_open hm h1) ha
  · congr 1
    match hx : p.2.kids, hy : m.2.kids with
    | pa :: pb :: _, ma :: mb :: _ =>
      rw [hx] at kp
      rw [hy] at km
      have h1 := kp pa (by simp)
      have h2 := kp pb (by simp)
      have h3 := km ma (by simp)
      have h4 := km mb (by simp)
      simp only
      rw [h pa ma (by omega), h mb pb (by omega)]
    | [], _ => rfl
    | [_], _ => rfl
    | _ :: _ :: _, [] => rfl
    | _ :: _ :: _, [_] => rfl
theorem naiP_congr {f g : Ty → Ty → Bool} {a b : Ty} (ha : a.kind ≠ 0) (hb : b.kind ≠ 0) (h : ∀ x y, x.size + y.size < a.size + b.size → f x y = g x y) {tag : Nat} {m p : Bool × Ty} (hm : prt a tag = some m) (hp : prt b tag = some p) : naiP f tag m p = naiP g tag m p := by
  have km : ∀ k ∈ m.2.kids, k.size < a.size := (prt_small hm).elim id fun x => absurd x.1 ha
  have kp : ∀ k ∈ p.2.kids, k.size < b.size := (prt_small hp).elim id fun x => absurd x.1 hb
  unfold naiP
  congr 2
  refine allz_congr fun x hx => ?_
  have h1 := km _ (List.of_mem_zip hx).1
  have h2 := kp _ (List.of_mem_zip hx).2
  exact h _ _ (by omega)
theorem blaP_congr {f g : Bool → Ty → Ty → Bool} {a b : Ty} {pos : Bool} (hab : ¬ (a.kind = 0 ∧ b.kind = 0)) (h : ∀ q x y, x.size + y.size < a.size + b.size → f q x y = g q x y) {tag : Nat} {m p : Bool × Ty} (hm : prt a tag = some m) (hp : prt b tag = some p) : blaP f pos tag m p = blaP g pos tag m p := by
  have sa := a.size_pos
  have sb := b.size_pos
  have km : ∀ k, (k ∈ m.2.kids ∨ (m.1 = true ∧ k = ty0)) → k.size ≤ a.size ∧ (a.kind ≠ 0 → k.size < a.size) := fun k hk => by
    rcases hk with hk | ⟨ho, rfl⟩
    · rcases prt_small hm with h1 | ⟨h1, h2, _⟩
      · have := h1 k hk
        exact ⟨by omega, fun _ => this⟩
      · rw [h2 k hk, size_ty0]
        exact ⟨sa, fun h => absurd h1 h⟩
    · rw [size_ty0]
      exact ⟨sa, fun h => absurd (prt_open hm ho) h⟩
  have kp : ∀ k, (k ∈ p.2.kids ∨ (p.1 = true ∧ k = ty0)) → k.size ≤ b.size ∧ (b.kind ≠ 0 → k.size < b.size) := fun k hk => by
    rcases hk with hk | ⟨ho, rfl⟩
    · rcases prt_small hp with h1 | ⟨h1, h2, _⟩
      · have := h1 k hk
        exact ⟨by omega, fun _ => this⟩
      · rw [h2 k hk, size_ty0]
        exact ⟨sb, fun h => absurd h1 h⟩
    · rw [size_ty0]
      exact ⟨sb, fun h => absurd (prt_open hp ho) h⟩
  have hlt : ∀ x y, (x ∈ m.2.kids ∨ (m.1 = true ∧ x = ty0)) → (y ∈ p.2.kids ∨ (p.1 = true ∧ y = ty0)) → x.size + y.size < a.size + b.size := fun x y hx hy => by
    obtain ⟨h1, h2⟩ := km x hx
    obtain ⟨h3, h4⟩ := kp y hy
    by_cases h0 : a.kind = 0
    · have := h4 fun hb => hab ⟨h0, hb⟩
      omega
    · have := h2 h0
      omega
  unfold blaP
  split
  · match hx : p.2.kids, hy : m.2.kids with
    | pa :: pb :: _, ma :: mb :: _ =>
      have h1 := hlt ma pa (.inl (by rw [hy]; simp)) (.inl (by rw [hx]; simp))
      have h2 := hlt mb pb (.inl (by rw [hy]; simp)) (.inl (by rw [hx]; simp))
      simp only
      rw [h _ pa ma (by omega), h _ mb pb (by omega)]
    | [], _ => rfl
    | [_], _ => rfl
    | _ :: _ :: _, [] => rfl
    | _ :: _ :: _, [_] => rfl
  · refine allz_congr fun x hx => ?_
    cases hk : kidT m x.1 with
    | none => rfl
    | some k =>
      simp only
      congr 1
      refine h _ _ _ (hlt k x.2 (kidT_mem hk) ?_)
      split at hx
      · rename_i ho
        obtain ⟨s, _, rfl⟩ := List.mem_map.1 hx
        exact .inr ⟨ho, rfl⟩
      · exact .inl (List.of_mem_zip hx).2
theorem belowF_same : ∀ (n n' : Nat) (l : Bool) (a b : Ty), a.size + b.size ≤ n → a.size + b.size ≤ n' → belowF n l a b = belowF n' l a b
  | 0, _, _, a, _, h, _ => by have := a.size_pos; omega
  | _ + 1, 0, _, a, _, _, h => by have := a.size_pos; omega
  | n + 1, n' + 1, l, a, b, h, h' => by
    unfold belowF
    by_cases h0 : a.kind = 0 ∨ b.kind = 0
    · rw [if_pos h0, if_pos h0]
    · rw [if_neg h0, if_neg h0]
      exact eachB_congr fun tag m p hm hp => belP_congr (fun h => h0 (.inl h)) (fun h => h0 (.inr h)) (fun x y hxy => belowF_same n n' l x y (by omega) (by omega)) hm hp
theorem naiveF_same : ∀ (n n' : Nat) (a b : Ty), a.size + b.size ≤ n → a.size + b.size ≤ n' → naiveF n a b = naiveF n' a b
  | 0, _, a, _, h, _ => by have := a.size_pos; omega
  | _ + 1, 0, a, _, _, h => by have := a.size_pos; omega
  | n + 1, n' + 1, a, b, h, h' => by
    unfold naiveF
    by_cases h0 : a.kind = 0 ∨ b.kind = 0
    · rw [if_pos h0, if_pos h0]
    · rw [if_neg h0, if_neg h0]
      congr 1
      exact eachB_congr fun tag m p hm hp => naiP_congr (fun h => h0 (.inl h)) (fun h => h0 (.inr h)) (fun x y hxy => naiveF_same n n' x y (by omega) (by omega)) hm hp
theorem blamesF_same : ∀ (n n' : Nat) (pos : Bool) (a b : Ty), a.size + b.size ≤ n → a.size + b.size ≤ n' → blamesF n pos a b = blamesF n' pos a b
  | 0, _, _, a, _, h, _ => by have := a.size_pos; omega
  | _ + 1, 0, _, a, _, _, h => by have := a.size_pos; omega
  | n + 1, n' + 1, pos, a, b, h, h' => by
    unfold blamesF
    by_cases h0 : a.kind = 0 ∧ b.kind = 0
    · rw [if_pos h0, if_pos h0]
    · rw [if_neg h0, if_neg h0]
      exact eachB_congr fun tag m p hm hp => blaP_congr h0 (fun q x y hxy => blamesF_same n n' q x y (by omega) (by omega)) hm hp
theorem belowT_eq (l : Bool) (a b : Ty) : belowT l a b = if a.kind = 0 ∨ b.kind = 0 then l || (decide (a.kind = 0) && decide (b.kind = 0)) else eachB a b false (belP (belowT l)) := by
  have e : belowT l a b = belowF (a.size + b.size + 1) l a b := belowF_same _ _ _ _ _ (Nat.le_refl _) (by omega)
  rw [e]
  unfold belowF
  by_cases h0 : a.kind = 0 ∨ b.kind = 0
  · rw [if_pos h0, if_pos h0]
  · rw [if_neg h0, if_neg h0]
    exact eachB_congr fun tag m p hm hp => belP_congr (fun h => h0 (.inl h)) (fun h => h0 (.inr h)) (fun x y hxy => belowF_same _ _ l x y (by omega) (Nat.le_refl _)) hm hp
theorem naiveT_eq (a b : Ty) : naiveT a b = if a.kind = 0 ∨ b.kind = 0 then decide (b.kind = 0) else (List.range 6).all (fun tag => decide ((prt a tag).isSome = (prt b tag).isSome)) && eachB a b false (naiP naiveT) := by
  have e : naiveT a b = naiveF (a.size + b.size + 1) a b := naiveF_same _ _ _ _ (Nat.le_refl _) (by omega)
  rw [e]
  unfold naiveF
  by_cases h0 : a.kind = 0 ∨ b.kind = 0
  · rw [if_pos h0, if_pos h0]
  · rw [if_neg h0, if_neg h0]
    congr 1
    exact eachB_congr fun tag m p hm hp => naiP_congr (fun h => h0 (.inl h)) (fun h => h0 (.inr h)) (fun x y hxy => naiveF_same _ _ x y (by omega) (Nat.le_refl _)) hm hp
theorem blamesT_eq (pos : Bool) (a b : Ty) : blamesT pos a b = if a.kind = 0 ∧ b.kind = 0 then true else eachB a b (!pos) (blaP blamesT pos) := by
  have e : blamesT pos a b = blamesF (a.size + b.size + 1) pos a b := blamesF_same _ _ _ _ _ (Nat.le_refl _) (by omega)
  rw [e]
  unfold blamesF
  by_cases h0 : a.kind = 0 ∧ b.kind = 0
  · rw [if_pos h0, if_pos h0]
  · rw [if_neg h0, if_neg h0]
    exact eachB_congr fun tag m p hm hp => blaP_congr h0 (fun q x y hxy => blamesF_same _ _ q x y (by omega) (Nat.le_refl _)) hm hp
end Go.Proofs.YtbanpohholnkaaaDoor
