/-
  Collect on both sides. Conditions: none; plain lists, no program.
-/
import Derived.Test.YtaklhkghjklkhaaPair
namespace Go.Proofs.Ytaklhkghjklkhaa

def swX (xs : Xs) (M : List Bool) : Xs := xs.mapIdx fun i x => (⟨x.1.slots, x.1.gone || !gB M i⟩, x.2)
theorem swX_get (xs : Xs) (M : List Bool) (i : Nat) : (swX xs M)[i]? = xs[i]?.map fun x => (⟨x.1.slots, x.1.gone || !gB M i⟩, x.2) := by simp [swX]
theorem wsX_pre {es : List (Value × Wo)} {xs : Xs} (h : worlds es = wsX xs) (M : List Bool) : worlds (pre M es.length es) = wsX (swX xs M) := by
  apply List.ext_getElem?
  intro j
  have hj := congrArg (·[j]?) h
  simp only [worlds, wsX, List.getElem?_map] at hj ⊢
  rw [pre_get, swX_get]
  cases he : es[j]? with
  | none =>
    rw [he] at hj
    cases hx : xs[j]? with
    | none => rfl
    | some x => rw [hx] at hj; cases hj
  | some e =>
    have hl := (List.getElem?_eq_some_iff.1 he).1
    rw [he] at hj
    cases hx : xs[j]? with
    | none => rw [hx] at hj; cases hj
    | some x =>
      rw [hx] at hj
      simp only [Option.map_some, Option.some.injEq] at hj
      simp [hl, hj]
theorem live_sweep (f f' : Sl → Sl) (P : Nat → Bool) : ∀ (xs : Xs) (B : Nat → Bool), (∀ (i : Nat) (x : Wo × Nat), xs[i]? = some x → x.1.gone = false → P x.2 = B i ∧ (B i = true → x.1.slots.map f' = x.1.slots.map f)) →
    live f' (xs.mapIdx fun i x => (⟨x.1.slots, x.1.gone || !B i⟩, x.2)) = (live f xs).filter fun o => P o.1
  | [], _, _ => rfl
  | x :: xs, B, h => by
    have ih := live_sweep f f' P xs (fun i => B (i + 1)) (fun i y hy hg => h (i + 1) y (by simpa using hy) hg)
    rw [List.mapIdx_cons, live_cons, live_cons, List.filter_append, ih]
    congr 1
    cases hg : x.1.gone with
    | true => simp
    | false =>
      obtain ⟨h1, h2⟩ := h 0 x rfl hg
      cases hb : B 0 with
      | true =>
        rw [hb] at h1
        simp [h1, h2 hb]
      | false =>
        rw [hb] at h1
        simp [h1]
section
variable {xs : Xs} {objs : List Obj'}
theorem isW_sw {roots : List Int} (h : RelX xs objs) {k : Nat} (hk : RW (wsX xs) roots k) : isW (wsX (swX xs (marksW (wsX xs) roots))) k = true := by
  obtain ⟨i, x, he, hx, hg⟩ := isW_ex (hk.alive h.closed)
  have : i = k := by omega
  subst this
  have hm : gB (marksW (wsX xs) roots) i = true := (marksW_iff h.closed i).2 hk
  rw [isW_X (x := (⟨x.1.slots, x.1.gone || !gB (marksW (wsX xs) roots) i⟩, x.2)) (by rw [swX_get, hx]; rfl)]
  simp [hg, hm]
theorem RelX.sweep (h : RelX xs objs) {roots : List Int} {M : Nat → Bool} (hM : ∀ i, M i = true ↔ ReachO objs (roots.map (nmv (wsX xs) (refsX xs))) i) :
    RelX (swX xs (marksW (wsX xs) roots)) (objs.filter fun o => M o.1) := by
  have hgone : ∀ {i : Nat} {y : Wo × Nat}, (swX xs (marksW (wsX xs) roots))[i]? = some y → y.1.gone = false → ∃ x : Wo × Nat, xs[i]? = some x ∧ x.1.gone = false ∧ RW (wsX xs) roots i ∧ y = (⟨x.1.slots, false⟩, x.2) := by
    intro i y hy hg
    rw [swX_get] at hy
    obtain ⟨x, hx, rfl⟩ := Option.map_eq_some_iff.1 hy
    simp only [Bool.or_eq_false_iff, Bool.not_eq_false'] at hg
    exact ⟨x, hx, hg.1, (marksW_iff h.closed i).1 hg.2, by simp [hg.1, hg.2]⟩
  have hslot : ∀ {i : Nat} {x : Wo × Nat}, xs[i]? = some x → x.1.gone = false → RW (wsX xs) roots i → ∀ s ∈ x.1.slots, s.ref = true → ∃ (k : Nat) (y : Wo × Nat), s.n = k ∧ xs[k]? = some y ∧ y.1.gone = false ∧ RW (wsX xs) roots k := by
    intro i x hx hg hr s hs hsr
    have hwx : (wsX xs)[i]? = some x.1 := by simp [wsX, hx]
    obtain ⟨k, y, hk, hy, hgy⟩ := isW_ex (h.closed i x.1 hwx hg s hs hsr)
    exact ⟨k, y, hk, hy, hgy, .step hr hwx hs hsr hk⟩
  refine ⟨?_, ?_, ?_⟩
  · intro i o ho hg s hs hr
    simp only [wsX, List.getElem?_map, Option.map_eq_some_iff] at ho
    obtain ⟨y, hy, rfl⟩ := ho
    obtain ⟨x, hx, hgx, hrw, rfl⟩ := hgone hy hg
    obtain ⟨k, y, hk, hy, hgy, hrk⟩ := hslot hx hgx hrw s hs hr
    rw [hk]
    exact isW_sw h hrk
  · rw [h.eq]
    refine (live_sweep (mpX xs) _ M xs (gB (marksW (wsX xs) roots)) fun i x hx hg => ⟨?_, fun hb => ?_⟩).symm
    · have a := marksW_iff (roots := roots) h.closed i
      have b := hM x.2
      have key : M x.2 = true ↔ gB (marksW (wsX xs) roots) i = true := by
        rw [a, b]
        constructor
        · intro hk
          obtain ⟨j, y, hy, hgy, he, hrw⟩ := ReachO.place h hk
          have := h.inj i j x y hx hy hg hgy he.symm
          subst this
          exact hrw
        · exact fun hrw => RW.reach h hrw x hx hg
      cases h1 : M x.2 <;> cases h2 : gB (marksW (wsX xs) roots) i <;> simp_all
    · have hrw := (marksW_iff h.closed i).1 hb
      refine List.map_congr_left fun s hs => ?_
      unfold mpX mpS
      cases hr : s.ref with
      | false => rfl
      | true =>
        obtain ⟨k, y, hk, hy, hgy, hrk⟩ := hslot hx hg hrw s hs hr
        have hm : gB (marksW (wsX xs) roots) k = true := (marksW_iff h.closed k).2 hrk
        simp only [if_true]
        rw [hk, nmv_X hy hgy, nmv_X (x := (⟨y.1.slots, y.1.gone || !gB (marksW (wsX xs) roots) k⟩, y.2)) (xs := swX xs (marksW (wsX xs) roots)) (by rw [swX_get, hy]; rfl) (by simp [hgy, hm])]
  · intro i j x y hx hy gx gy he
    obtain ⟨x0, hx0, gx0, _, rfl⟩ := hgone hx gx
    obtain ⟨y0, hy0, gy0, _, rfl⟩ := hgone hy gy
    exact h.inj i j x0 y0 hx0 hy0 gx0 gy0 he
end
end Go.Proofs.Ytaklhkghjklkhaa
