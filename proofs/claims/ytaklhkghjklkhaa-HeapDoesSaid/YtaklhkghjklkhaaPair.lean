/-
  The arena's objects beside the reference's world. Conditions: none; plain lists, no program.
-/
import Derived.Test.YtaklhkghjklkhaaWdColl
namespace Go.Proofs.Ytaklhkghjklkhaa

abbrev Xs := List (Wo × Nat)
def wsX (xs : Xs) : List Wo := xs.map (·.1)
def refsX (xs : Xs) : List Int := xs.map fun x => (x.2 : Int)
def mpX (xs : Xs) : Sl → Sl := mpS (wsX xs) (refsX xs)
def live (f : Sl → Sl) (xs : Xs) : List Obj' := ((xs.filter fun x => !x.1.gone).map fun x => (x.2, x.1.slots.map f)).reverse
structure RelX (xs : Xs) (objs : List Obj') : Prop where
  closed : ClosedW (wsX xs)
  eq : objs = live (mpX xs) xs
  inj : ∀ (i j : Nat) (x y : Wo × Nat), xs[i]? = some x → xs[j]? = some y → x.1.gone = false → y.1.gone = false → x.2 = y.2 → i = j

theorem isW_X {xs : Xs} {i : Nat} {x : Wo × Nat} (h : xs[i]? = some x) : isW (wsX xs) i = !x.1.gone := isW_at (o := x.1) (by simp [wsX, h])
theorem isW_ex {xs : Xs} {k : Int} (h : isW (wsX xs) k = true) : ∃ (i : Nat) (x : Wo × Nat), k = i ∧ xs[i]? = some x ∧ x.1.gone = false := by
  obtain ⟨i, o, hk, ho, hg⟩ := isW_nat h
  simp only [wsX, List.getElem?_map, Option.map_eq_some_iff] at ho
  obtain ⟨x, hx, rfl⟩ := ho
  exact ⟨i, x, hk, hx, hg⟩
theorem nmv_X {xs : Xs} {i : Nat} {x : Wo × Nat} (h : xs[i]? = some x) (hg : x.1.gone = false) : nmv (wsX xs) (refsX xs) i = x.2 := by
  unfold nmv
  rw [isW_X h, hg]
  simp [refsX, List.getD, h]
theorem nmv_no {xs : Xs} {k : Int} (h : isW (wsX xs) k = false) : nmv (wsX xs) (refsX xs) k = -1 := by
  unfold nmv
  rw [h]
  simp
theorem mem_live {f : Sl → Sl} {xs : Xs} {o : Obj'} : o ∈ live f xs ↔ ∃ (i : Nat) (x : Wo × Nat), xs[i]? = some x ∧ x.1.gone = false ∧ o = (x.2, x.1.slots.map f) := by
  simp only [live, List.mem_reverse, List.mem_map, List.mem_filter]
  constructor
  · rintro ⟨x, ⟨hx, hg⟩, rfl⟩
    obtain ⟨i, hi⟩ := List.getElem?_of_mem hx
    exact ⟨i, x, hi, by simpa using hg, rfl⟩
  · rintro ⟨i, x, hx, hg, rfl⟩
    exact ⟨x, ⟨List.mem_of_getElem? hx, by simp [hg]⟩, rfl⟩
theorem hasK_live {f : Sl → Sl} {xs : Xs} {k : Int} : hasK (live f xs) k ↔ ∃ (i : Nat) (x : Wo × Nat), xs[i]? = some x ∧ x.1.gone = false ∧ (x.2 : Int) = k := by
  constructor
  · rintro ⟨o, ho, rfl⟩
    obtain ⟨i, x, hx, hg, rfl⟩ := mem_live.1 ho
    exact ⟨i, x, hx, hg, rfl⟩
  · rintro ⟨i, x, hx, hg, rfl⟩
    exact ⟨_, mem_live.2 ⟨i, x, hx, hg, rfl⟩, rfl⟩
theorem usum_append (a b : List Obj') : usum (a ++ b) = usum a + usum b := by simp [usum]
theorem live_cons (f : Sl → Sl) (x : Wo × Nat) (xs : Xs) : live f (x :: xs) = live f xs ++ if x.1.gone then [] else [(x.2, x.1.slots.map f)] := by
  unfold live
  cases h : x.1.gone <;> simp [h]
theorem live_snoc (f : Sl → Sl) (xs : Xs) (x : Wo × Nat) (h : x.1.gone = false) : live f (xs ++ [x]) = (x.2, x.1.slots.map f) :: live f xs := by
  simp [live, h]
theorem live_usum (f : Sl → Sl) (xs : Xs) : usum (live f xs) = wosum (wsX xs) := by
  induction xs with
  | nil => rfl
  | cons x xs ih =>
    rw [live_cons, usum_append, ih]
    cases h : x.1.gone <;> simp [wosum, wsX, h, usum, Nat.add_comm]
theorem live_count (f : Sl → Sl) (xs : Xs) : (live f xs).length = wocnt (wsX xs) := by
  induction xs with
  | nil => rfl
  | cons x xs ih =>
    rw [live_cons, List.length_append, ih]
    cases h : x.1.gone <;> simp [wocnt, wsX, h, Nat.add_comm]
theorem live_congr {f g : Sl → Sl} {xs : Xs} (h : ∀ x ∈ xs, x.1.gone = false → x.1.slots.map f = x.1.slots.map g) : live f xs = live g xs := by
  unfold live
  congr 1
  refine List.map_congr_left fun x hx => ?_
  rw [h x (List.mem_filter.1 hx).1 (by simpa using (List.mem_filter.1 hx).2)]

section
variable {xs : Xs} {objs : List Obj'}
theorem RelX.ok (h : RelX xs objs) (l : List Sl) : (∀ s ∈ l.map (mpX xs), okSl objs s) ↔ l.all (goodW (wsX xs)) = true := by
  rw [List.all_eq_true]
  have key : ∀ s, okSl objs (mpX xs s) ↔ goodW (wsX xs) s = true := by
    intro s
    unfold mpX mpS goodW okSl
    cases hr : s.ref with
    | false => simp [hr]
    | true =>
      simp only [if_true, Bool.not_true, Bool.false_or, true_implies]
      cases hw : isW (wsX xs) s.n with
      | true =>
        obtain ⟨i, x, hk, hx, hg⟩ := isW_ex hw
        simp only [iff_true]
        rw [h.eq, hasK_live]
        exact ⟨i, x, hx, hg, by rw [hk, nmv_X hx hg]⟩
      | false =>
        rw [nmv_no hw, h.eq, hasK_live]
        constructor
        · rintro ⟨i, x, _, _, he⟩; omega
        · intro h; cases h
  constructor
  · exact fun hh s hs => (key s).1 (hh _ (List.mem_map.2 ⟨s, hs, rfl⟩))
  · intro hh s hs
    obtain ⟨s0, hs0, rfl⟩ := List.mem_map.1 hs
    exact (key s0).2 (hh s0 hs0)
theorem mpX_snoc {x : Wo × Nat} {s : Sl} (h : s.ref = true → isW (wsX xs) s.n = true) : mpX (xs ++ [x]) s = mpX xs s := by
  unfold mpX mpS
  cases hr : s.ref with
  | false => rfl
  | true =>
    obtain ⟨i, y, hk, hy, hg⟩ := isW_ex (h hr)
    have hil := (List.getElem?_eq_some_iff.1 hy).1
    simp only [if_true]
    rw [hk, nmv_X hy hg, nmv_X (xs := xs ++ [x]) (by rw [List.getElem?_append_left hil]; exact hy) hg]
theorem isW_snoc {x : Wo × Nat} {k : Int} (h : isW (wsX xs) k = true) : isW (wsX (xs ++ [x])) k = true := by
  obtain ⟨i, y, rfl, hy, hg⟩ := isW_ex h
  have hil := (List.getElem?_eq_some_iff.1 hy).1
  rw [isW_X (xs := xs ++ [x]) (by rw [List.getElem?_append_left hil]; exact hy), hg]
  rfl
theorem RelX.push (h : RelX xs objs) {l : List Sl} {r : Nat} (hl : l.all (goodW (wsX xs)) = true) (hr : ¬ hasK objs r) : RelX (xs ++ [(⟨l, false⟩, r)]) ((r, l.map (mpX xs)) :: objs) := by
  have hgood : ∀ s ∈ l, s.ref = true → isW (wsX xs) s.n = true := by
    intro s hs hr
    have := List.all_eq_true.1 hl s hs
    unfold goodW at this
    rw [hr] at this
    simpa using this
  have hold : ∀ (i : Nat) (o : Wo), (wsX xs)[i]? = some o → o.gone = false → ∀ s ∈ o.slots, s.ref = true → isW (wsX xs) s.n = true := h.closed
  refine ⟨?_, ?_, ?_⟩
  · intro i o ho hg s hs hr
    have e : wsX (xs ++ [(⟨l, false⟩, r)]) = wsX xs ++ [⟨l, false⟩] := by simp [wsX]
    rcases Nat.lt_or_ge i (wsX xs).length with hi | hi
    · rw [e, List.getElem?_append_left hi] at ho
      exact isW_snoc (hold i o ho hg s hs hr)
    · rw [e, List.getElem?_append_right hi] at ho
      have : o = ⟨l, false⟩ := by
        have h0 := (List.getElem?_eq_some_iff.1 ho).1
        have h1 : i - (wsX xs).length = 0 := by simp at h0; omega
        rw [h1] at ho
        simpa using ho.symm
      subst this
      exact isW_snoc (hgood s hs hr)
  · rw [live_snoc _ _ _ rfl, h.eq]
    congr 1
    · congr 1
      exact (List.map_congr_left fun s hs => mpX_snoc (hgood s hs)).symm
    · refine live_congr fun x hx hg => (List.map_congr_left fun s hs => mpX_snoc (fun hr => ?_)).symm
      obtain ⟨i, hi⟩ := List.getElem?_of_mem hx
      exact hold i x.1 (by simp [wsX, hi]) hg s hs hr
  · have fresh : ∀ (j : Nat) (y : Wo × Nat), xs[j]? = some y → y.1.gone = false → y.2 ≠ r := fun j y hy hg e => hr (by rw [h.eq, hasK_live]; exact ⟨j, y, hy, hg, by rw [e]⟩)
    have last : ∀ (j : Nat) (y : Wo × Nat), (xs ++ [((⟨l, false⟩ : Wo), r)])[j]? = some y → (xs[j]? = some y ∧ j < xs.length) ∨ (j = xs.length ∧ y = (⟨l, false⟩, r)) := by
      intro j y hy
      rcases Nat.lt_or_ge j xs.length with hj | hj
      · rw [List.getElem?_append_left hj] at hy
        exact .inl ⟨hy, hj⟩
      · rw [List.getElem?_append_right hj] at hy
        have h0 := (List.getElem?_eq_some_iff.1 hy).1
        have h1 : j - xs.length = 0 := by simp at h0; omega
        rw [h1] at hy
        exact .inr ⟨by omega, by simpa using hy.symm⟩
    intro i j x y hx hy gx gy he
    rcases last i x hx with ⟨hx, _⟩ | ⟨hi, rfl⟩ <;> rcases last j y hy with ⟨hy, _⟩ | ⟨hj, rfl⟩
    · exact h.inj i j x y hx hy gx gy he
    · exact absurd he (fresh i x hx gx)
    · exact absurd he.symm (fresh j y hy gy)
    · omega
theorem ReachO.place (h : RelX xs objs) {roots : List Int} {k : Nat} (hk : ReachO objs (roots.map (nmv (wsX xs) (refsX xs))) k) : ∃ (i : Nat) (x : Wo × Nat), xs[i]? = some x ∧ x.1.gone = false ∧ x.2 = k ∧ RW (wsX xs) roots i := by
  induction hk with
  | @root k h1 h2 =>
    obtain ⟨r, hr, he⟩ := List.mem_map.1 h1
    cases hw : isW (wsX xs) r with
    | false => rw [nmv_no hw] at he; omega
    | true =>
      obtain ⟨i, x, rfl, hx, hg⟩ := isW_ex hw
      rw [nmv_X hx hg] at he
      exact ⟨i, x, hx, hg, by omega, .root hr hw⟩
  | @step k j sl s h1 h2 h3 h4 h5 h6 ih =>
    obtain ⟨i, x, hx, hg, rfl, hrw⟩ := ih
    rw [h.eq] at h2
    obtain ⟨i', x', hx', hg', he⟩ := mem_live.1 h2
    simp only [Prod.mk.injEq] at he
    obtain ⟨he, rfl⟩ := he
    have := h.inj i i' x x' hx hx' hg hg' he
    subst this
    rw [hx] at hx'
    simp only [Option.some.injEq] at hx'
    subst hx'
    obtain ⟨s0, hs0, rfl⟩ := List.mem_map.1 h3
    have hr0 : s0.ref = true := by
      unfold mpX mpS at h4
      cases hr : s0.ref with
      | true => rfl
      | false => simp [hr] at h4
    have hwx : (wsX xs)[i]? = some x.1 := by simp [wsX, hx]
    have hw := h.closed i x.1 hwx hg s0 hs0 hr0
    obtain ⟨k', y, hk', hy, hgy⟩ := isW_ex hw
    refine ⟨k', y, hy, hgy, ?_, .step hrw hwx hs0 hr0 hk'⟩
    unfold mpX mpS at h5
    simp only [hr0, if_true] at h5
    rw [hk', nmv_X hy hgy] at h5
    omega
theorem RW.reach (h : RelX xs objs) {roots : List Int} {i : Nat} (hi : RW (wsX xs) roots i) : ∀ x : Wo × Nat, xs[i]? = some x → x.1.gone = false → ReachO objs (roots.map (nmv (wsX xs) (refsX xs))) x.2 := by
  induction hi with
  | @root k hr hw =>
    intro x hx hg
    refine .root (List.mem_map.2 ⟨k, hr, by rw [nmv_X hx hg]⟩) ?_
    rw [h.eq, hasK_live]
    exact ⟨k, x, hx, hg, rfl⟩
  | @step i k o s hi ho hs hr hk ih =>
    intro y hy hgy
    have hal := hi.alive h.closed
    obtain ⟨i', x, he, hx, hg⟩ := isW_ex hal
    have : i' = i := by omega
    subst this
    have ho' : o = x.1 := by
      simp [wsX, hx] at ho
      exact ho.symm
    subst ho'
    refine .step (s := mpX xs s) (ih x hx hg) (by rw [h.eq]; exact mem_live.2 ⟨i', x, hx, hg, rfl⟩) (List.mem_map.2 ⟨s, hs, rfl⟩) ?_ ?_ ?_
    · simp [mpX, mpS, hr]
    · simp only [mpX, mpS, hr, if_true]
      rw [hk, nmv_X hy hgy]
    · rw [h.eq, hasK_live]
      exact ⟨k, y, hy, hgy, rfl⟩
end
end Go.Proofs.Ytaklhkghjklkhaa
