/-
  Walk: types.record. Conditions: the table strings.asciiSpace lies as the program lays it.
-/
import Derived.Test.YtbanpohholnkaaaDoorRec
import Derived.Deep.CutRange
import Derived.Test.YtbanpohholnkaaaDoorRLaw
namespace Go.Proofs.YtbanpohholnkaaaDoor
open Go.RowKit

theorem E50 : Elem Tryd.prog 98 100 5 88 := Elem.mk' Tryd.underlying98 (z := .agg #[.string ⟨#[]⟩, .int .i64 0, .string ⟨#[]⟩, .slice none 0 0, .slice none 0 0]) (by kernel_rfl) rfl (by decide)
theorem fflat_append (a b : List Fd) : fflat (a ++ b) = fflat a ++ fflat b := by simp [fflat]
/-- First loop: the fields so far. -/
structure RcR (w : World) (names : List ByteArray) (rs : List Tv) (i : Nat) (lv : Value) (wr : World) : Prop where
  keep : Keep (fun _ => False) w wr
  own : wr.ownsRow 0 100 5 lv i (fflat ((names.zip rs).take i))
  new : ∀ g, lv.ownBlock = some g → w.heap.size ≤ g
  ok : ∀ s ∈ names.take i, nameB s = true
def RcA (w : World) (names : List ByteArray) (rs : List Tv) (n rb : Nat) (k : Nat) (a b : Value) (wr : World) : Prop :=
  ∃ (i : Nat) (lv : Value), a = lv ∧ b = .int .i64 i ∧ i ≤ n ∧ k = n - i ∧ RcR w names rs i lv wr ∧ At wr rb 25 tv0.vals.toArray

theorem zip_take {names : List ByteArray} {rs : List Tv} {i : Nat} {s : ByteArray} {q : Tv} (h1 : names[i]? = some s) (h2 : rs[i]? = some q) : (names.zip rs).take (i + 1) = (names.zip rs).take i ++ [(s, q)] := by
  rw [List.take_add_one]
  congr 1
  rw [(List.getElem?_zip_eq_some (z := (s, q))).2 ⟨h1, h2⟩]
  rfl
theorem RcR.app {w wr w2 w' : World} {names : List ByteArray} {rs : List Tv} {i g cap : Nat} {lv : Value} {s : ByteArray} {q : Tv} (h : RcR w names rs i lv wr) (h1 : names[i]? = some s) (h2 : rs[i]? = some q) (hs : nameB s = true) (hk2 : Keep (fun _ => False) wr w2)
    (ho : w'.ownsRow 0 100 5 (.slice (some ⟨g, 0, none⟩) (i + 1) cap) (i + 1) (fflat ((names.zip rs).take i) ++ encF (s, q))) (hk : Keep (fun k => lv.ownBlock = some k) w2 w') (hg : lv.ownBlock = some g ∨ w2.heap.size ≤ g) :
    RcR w names rs (i + 1) (.slice (some ⟨g, 0, none⟩) (i + 1) cap) w' := by
  refine ⟨(h.keep.trans hk2 (fun _ _ x => x)).weak hk (fun j hj => h.new j hj), ?_, fun j hj => ?_, fun x hx => ?_⟩
  · rw [zip_take h1 h2, fflat_append]
    have : fflat [(s, q)] = encF (s, q) := by simp [fflat]
    rw [this]
    exact ho
  · simp only [Value.ownBlock, Option.some.injEq] at hj
    subst hj
    rcases hg with hg | hg
    · exact h.new _ hg
    · have := h.keep.size; have := hk2.size; omega
  · rw [List.take_add_one, h1] at hx
    rcases List.mem_append.1 hx with hx | hx
    · exact h.ok x hx
    · have : x = s := by simpa using hx
      subst this
      exact hs
/-- A row of texts and a row of types don't share their block. -/
theorem own_nk {w : World} {n n' : Nat} {v v' : Value} {xs ys : List Value} {g : Nat} (h : w.ownsRow 0 9 1 v n xs) (h' : w.ownsRow 0 25 4 v' n' ys) (h1 : v.ownBlock = some g) (h2 : v'.ownBlock = some g) : False := by
  rcases h'.2 with ⟨rfl, _⟩ | ⟨g', cap, cur, rfl, hb, hg, _⟩
  · simp [Value.ownBlock] at h2
  · have : g' = g := by simpa [Value.ownBlock] using h2
    subst this
    exact own_at (c := cur) h hg (by decide) h1
theorem Keep.drewN' {X : Nat → Prop} {a w : World} (h : Keep X a w) (n : Nat) : Keep X a (w.drewN n) :=
  h.trans (Y := X) ⟨rfl, rfl, rfl, Nat.le_refl _, fun _ _ _ => rfl⟩ (fun _ _ x => x)
theorem sx_keep {X : Nat → Prop} {w w' : World} {xb : Nat} {v0 v1 v2 v3 v4 : Value} (k : Keep X w w') (hx : ¬ X xb) (h : (xb < w.heap.size ∧ w.cell? ⟨xb, 0, none⟩ = some v0 ∧ w.cell? ⟨xb, 1, none⟩ = some v1 ∧ w.cell? ⟨xb, 2, none⟩ = some v2 ∧ w.cell? ⟨xb, 3, none⟩ = some v3 ∧ w.cell? ⟨xb, 4, none⟩ = some v4)) : (xb < w'.heap.size ∧ w'.cell? ⟨xb, 0, none⟩ = some v0 ∧ w'.cell? ⟨xb, 1, none⟩ = some v1 ∧ w'.cell? ⟨xb, 2, none⟩ = some v2 ∧ w'.cell? ⟨xb, 3, none⟩ = some v3 ∧ w'.cell? ⟨xb, 4, none⟩ = some v4) := by
  obtain ⟨h0, h1, h2, h3, h4, h5⟩ := h
  exact ⟨Nat.lt_of_lt_of_le h0 k.size, k.cell (p := ⟨xb, 0, none⟩) h1 hx, k.cell (p := ⟨xb, 1, none⟩) h2 hx, k.cell (p := ⟨xb, 2, none⟩) h3 hx, k.cell (p := ⟨xb, 3, none⟩) h4 hx, k.cell (p := ⟨xb, 4, none⟩) h5 hx⟩
theorem sx_alloc {w : World} {xb : Nat} {v0 v1 v2 v3 v4 : Value} (h : (xb < w.heap.size ∧ w.cell? ⟨xb, 0, none⟩ = some v0 ∧ w.cell? ⟨xb, 1, none⟩ = some v1 ∧ w.cell? ⟨xb, 2, none⟩ = some v2 ∧ w.cell? ⟨xb, 3, none⟩ = some v3 ∧ w.cell? ⟨xb, 4, none⟩ = some v4)) (o : Obj) : (xb < (w.alloc o).heap.size ∧ (w.alloc o).cell? ⟨xb, 0, none⟩ = some v0 ∧ (w.alloc o).cell? ⟨xb, 1, none⟩ = some v1 ∧ (w.alloc o).cell? ⟨xb, 2, none⟩ = some v2 ∧ (w.alloc o).cell? ⟨xb, 3, none⟩ = some v3 ∧ (w.alloc o).cell? ⟨xb, 4, none⟩ = some v4) := sx_keep ((Keep.refl (fun _ => False) w).alloc o) (fun x => x) h
theorem sx_set {w : World} {xb tb i : Nat} {v0 v1 v2 v3 v4 : Value} (hne : ¬ xb = tb) (h : (xb < w.heap.size ∧ w.cell? ⟨xb, 0, none⟩ = some v0 ∧ w.cell? ⟨xb, 1, none⟩ = some v1 ∧ w.cell? ⟨xb, 2, none⟩ = some v2 ∧ w.cell? ⟨xb, 3, none⟩ = some v3 ∧ w.cell? ⟨xb, 4, none⟩ = some v4)) (u : Value) : (xb < (w.setCell ⟨tb, i, none⟩ u).heap.size ∧ (w.setCell ⟨tb, i, none⟩ u).cell? ⟨xb, 0, none⟩ = some v0 ∧ (w.setCell ⟨tb, i, none⟩ u).cell? ⟨xb, 1, none⟩ = some v1 ∧ (w.setCell ⟨tb, i, none⟩ u).cell? ⟨xb, 2, none⟩ = some v2 ∧ (w.setCell ⟨tb, i, none⟩ u).cell? ⟨xb, 3, none⟩ = some v3 ∧ (w.setCell ⟨tb, i, none⟩ u).cell? ⟨xb, 4, none⟩ = some v4) := sx_keep (Keep.setCell (X := fun g => g = tb) (p := ⟨tb, i, none⟩) (Keep.refl (fun g => g = tb) w) (.inl rfl) u) hne h
abbrev Tri := ByteArray × Tv × Ty
/-- The sorted fields, each with its type. -/
structure TriR (w : World) (X : Nat → Prop) (names : List ByteArray) (kids : List Ty) (T : List Tri) : Prop where
  perm : (T.map fun x => ((x.1, x.2.2) : Ft)).Perm (names.zip kids)
  tys : ∀ x ∈ T, TyV w X x.2.1 x.2.2
  sorted : ∀ (i j : Nat) (x y : Tri), i < j → T[i]? = some x → T[j]? = some y → ltS y.1 x.1 = false
theorem tri_of {w : World} {X : Nat → Prop} {names : List ByteArray} {kids : List Ty} {rs : List Tv} {l : List Fd} (hv : TysV w X rs kids) (hp : l.Perm (names.zip rs)) (hs : SortedF l) : ∃ T : List Tri, TriR w X names kids T ∧ T.map (fun x => ((x.1, x.2.1) : Fd)) = l := by
  have hz : (names.zip (rs.zip kids)).map (fun x => ((x.1, x.2.1) : Fd)) = names.zip rs := by
    apply List.ext_getElem?
    intro i
    have hl := hv.len
    rw [List.getElem?_map]
    cases h1 : names[i]? with
    | none =>
      rw [List.getElem?_eq_none (by simp at h1 ⊢; omega), List.getElem?_eq_none (by simp at h1 ⊢; omega)]
      rfl
    | some s =>
      cases h2 : rs[i]? with
      | none =>
        rw [List.getElem?_eq_none (by simp at h2 ⊢; omega), List.getElem?_eq_none (by simp at h2 ⊢; omega)]
        rfl
      | some q =>
        have hk : kids[i]? = some (kids[i]'(by have := (List.getElem?_eq_some_iff.1 h2).1; omega)) := List.getElem?_eq_getElem _
        rw [(List.getElem?_zip_eq_some (z := (s, (q, _)))).2 ⟨h1, (List.getElem?_zip_eq_some (z := (q, _))).2 ⟨h2, hk⟩⟩, (List.getElem?_zip_eq_some (z := (s, q))).2 ⟨h1, h2⟩]
        rfl
  have hz2 : (names.zip (rs.zip kids)).map (fun x => ((x.1, x.2.2) : Ft)) = names.zip kids := by
    apply List.ext_getElem?
    intro i
    have hl := hv.len
    rw [List.getElem?_map]
    cases h1 : names[i]? with
    | none =>
      rw [List.getElem?_eq_none (by simp at h1 ⊢; omega), List.getElem?_eq_none (by simp at h1 ⊢; omega)]
      rfl
    | some s =>
      cases h2 : kids[i]? with
      | none =>
        rw [List.getElem?_eq_none (by simp at h2 ⊢; omega), List.getElem?_eq_none (by simp at h2 ⊢; omega)]
        rfl
      | some q =>
        have hk : rs[i]? = some (rs[i]'(by have := (List.getElem?_eq_some_iff.1 h2).1; omega)) := List.getElem?_eq_getElem _
        rw [(List.getElem?_zip_eq_some (z := (s, (_, q)))).2 ⟨h1, (List.getElem?_zip_eq_some (z := (_, q))).2 ⟨hk, h2⟩⟩, (List.getElem?_zip_eq_some (z := (s, q))).2 ⟨h1, h2⟩]
        rfl
  rw [← hz] at hp
  obtain ⟨T, h1, h2⟩ := perm_lift _ hp
  refine ⟨T, ⟨?_, fun x hx => ?_, fun i j x y hij hx hy => ?_⟩, h2⟩
  · rw [← hz2]
    exact h1.map _
  · have := h1.mem_iff.1 hx
    obtain ⟨i, hi⟩ := List.getElem?_of_mem this
    obtain ⟨_, h4⟩ := List.getElem?_zip_eq_some.1 hi
    obtain ⟨h5, h6⟩ := List.getElem?_zip_eq_some.1 h4
    obtain ⟨q, h7, h8⟩ := hv.at_ h6
    rw [h5] at h7
    simp only [Option.some.injEq] at h7
    rw [h7]
    exact h8
  · refine hs i j (x.1, x.2.1) (y.1, y.2.1) hij ?_ ?_
    · rw [← h2, List.getElem?_map, hx]; rfl
    · rw [← h2, List.getElem?_map, hy]; rfl
structure LpR (w2 : World) (T : List Tri) (tb i : Nat) (vn vk : Value) (wr : World) : Prop where
  keep : Keep (fun g => g = tb) w2 wr
  box : At wr tb 25 #[.int .i64 5, .string ⟨#[]⟩, vn, vk]
  ownN : wr.ownsRow 0 9 1 vn i (strs ((T.take i).map (·.1)))
  ownK : wr.ownsRow 0 25 4 vk i (tflat ((T.take i).map (·.2.1)))
  newN : ∀ g, vn.ownBlock = some g → w2.heap.size ≤ g
  newK : ∀ g, vk.ownBlock = some g → w2.heap.size ≤ g
  nd : ∀ (j : Nat) (x y : Tri), j + 1 < i → T[j]? = some x → T[j + 1]? = some y → x.1 ≠ y.1
theorem LpR.step {w2 wr w' : World} {T : List Tri} {tb i : Nat} {vn vk : Value} (h : LpR w2 T tb i vn vk wr) (k : Keep (fun _ => False) wr w') : LpR w2 T tb i vn vk w' :=
  ⟨h.keep.trans k (fun _ _ x => x.elim), k.at_ h.box (fun x => x), k.own h.ownN (fun _ _ x => x), k.own h.ownK (fun _ _ x => x), h.newN, h.newK, h.nd⟩
theorem LpR.app {w2 wq u1 u2 : World} {T : List Tri} {tb j g1 cp1 g2 cp2 : Nat} {vn vk : Value} {s : ByteArray} {q : Tv} {ty : Ty} (h : LpR w2 T tb j vn vk wq) (hx : T[j]? = some (s, q, ty)) (ht : tb < w2.heap.size)
    (ho1 : u1.ownsRow 0 9 1 (.slice (some ⟨g1, 0, none⟩) (j + 1) cp1) (j + 1) (strs ((T.take j).map (·.1)) ++ [.string s])) (kU : Keep (fun k => vn.ownBlock = some k) wq u1) (hG1 : vn.ownBlock = some g1 ∨ wq.heap.size ≤ g1)
    (ho2 : u2.ownsRow 0 25 4 (.slice (some ⟨g2, 0, none⟩) (j + 1) cp2) (j + 1) (tflat ((T.take j).map (·.2.1)) ++ q.vals)) (kV : Keep (fun k => vk.ownBlock = some k) u1 u2) (hG2 : vk.ownBlock = some g2 ∨ u1.heap.size ≤ g2)
    (hnd : ∀ (m : Nat) (px : Tri), m + 1 = j → T[m]? = some px → px.1 ≠ s) :
    LpR w2 T tb (j + 1) (.slice (some ⟨g1, 0, none⟩) (j + 1) cp1) (.slice (some ⟨g2, 0, none⟩) (j + 1) cp2) ((u2.setCell ⟨tb, 2, none⟩ (.slice (some ⟨g1, 0, none⟩) (j + 1) cp1)).setCell ⟨tb, 3, none⟩ (.slice (some ⟨g2, 0, none⟩) (j + 1) cp2)) := by
  have hs1 := h.keep.size
  have hs2 := kU.size
  have hg1 : w2.heap.size ≤ g1 := by
    rcases hG1 with e | e
    · exact h.newN _ e
    · omega
  have hg2 : w2.heap.size ≤ g2 := by
    rcases hG2 with e | e
    · exact h.newK _ e
    · omega
  have b1 := kU.at_ h.box (fun hx => by have := h.newN tb hx; omega)
  have b2 := kV.at_ b1 (fun hx => by have := h.newK tb hx; omega)
  have hT : T.take (j + 1) = T.take j ++ [(s, q, ty)] := by rw [List.take_add_one, hx]; rfl
  refine ⟨?_, ?_, ?_, ?_, fun k hk => ?_, fun k hk => ?_, fun m x y hm hmx hmy => ?_⟩
  · refine Keep.setCell (X := fun g => g = tb) (p := ⟨tb, 3, none⟩) (Keep.setCell (X := fun g => g = tb) (p := ⟨tb, 2, none⟩) ?_ (.inl rfl) _) (.inl rfl) _
    exact (h.keep.trans kU (fun g hg hx => by have := h.newN g hx; omega)).trans kV (fun g hg hx => by have := h.newK g hx; omega)
  · exact (b2.set 2 _).set 3 _
  · rw [hT, List.map_append, strs_append]
    have ho := kV.own ho1 (fun g hg hx => own_nk ho1 (kU.own h.ownK (fun g' h1 h2 => own_nk h.ownN h.ownK h2 h1)) hg hx)
    exact ownsRow_setCell_ne (ownsRow_setCell_ne ho (a := ⟨tb, 2, none⟩) (by simp only [Value.ownBlock, ne_eq, Option.some.injEq]; omega) _) (a := ⟨tb, 3, none⟩) (by simp only [Value.ownBlock, ne_eq, Option.some.injEq]; omega) _
  · rw [hT, List.map_append, tflat_append]
    have e : tflat (List.map (fun x : Tri => x.2.1) [(s, q, ty)]) = q.vals := by simp [tflat]
    rw [e]
    exact ownsRow_setCell_ne (ownsRow_setCell_ne ho2 (a := ⟨tb, 2, none⟩) (by simp only [Value.ownBlock, ne_eq, Option.some.injEq]; omega) _) (a := ⟨tb, 3, none⟩) (by simp only [Value.ownBlock, ne_eq, Option.some.injEq]; omega) _
  · simp only [Value.ownBlock, Option.some.injEq] at hk
    omega
  · simp only [Value.ownBlock, Option.some.injEq] at hk
    omega
  · by_cases hmj : m + 1 = j
    · have : y = (s, q, ty) := by rw [hmj, hx] at hmy; exact (Option.some.inj hmy).symm
      subst this
      exact hnd m x hmj hmx
    · exact h.nd m x y (by omega) hmx hmy
theorem LpR.app2 {w2 wq u1 u2 : World} {T : List Tri} {tb j g1 cp1 g2 cp2 : Nat} {vn vk : Value} {s : ByteArray} {q : Tv} {ty : Ty} (h : LpR w2 T tb j vn vk wq) (hx : T[j]? = some (s, q, ty)) (ht : tb < w2.heap.size)
    (ho1 : u1.ownsRow 0 9 1 (.slice (some ⟨g1, 0, none⟩) (j + 1) cp1) (j + 1) (strs ((T.take j).map (·.1)) ++ [.string s])) (kU : Keep (fun k => vn.ownBlock = some k) wq u1) (hG1 : vn.ownBlock = some g1 ∨ wq.heap.size ≤ g1)
    (ho2 : u2.ownsRow 0 25 4 (.slice (some ⟨g2, 0, none⟩) (j + 1) cp2) (j + 1) (tflat ((T.take j).map (·.2.1)) ++ q.vals)) (kV : Keep (fun k => vk.ownBlock = some k) (u1.setCell ⟨tb, 2, none⟩ (.slice (some ⟨g1, 0, none⟩) (j + 1) cp1)) u2) (hG2 : vk.ownBlock = some g2 ∨ u1.heap.size ≤ g2)
    (hnd : ∀ (m : Nat) (px : Tri), m + 1 = j → T[m]? = some px → px.1 ≠ s) :
    LpR w2 T tb (j + 1) (.slice (some ⟨g1, 0, none⟩) (j + 1) cp1) (.slice (some ⟨g2, 0, none⟩) (j + 1) cp2) (u2.setCell ⟨tb, 3, none⟩ (.slice (some ⟨g2, 0, none⟩) (j + 1) cp2)) := by
  have hs1 := h.keep.size
  have hs2 := kU.size
  have hg1 : w2.heap.size ≤ g1 := by
    rcases hG1 with e | e
    · exact h.newN _ e
    · omega
  have hg2 : w2.heap.size ≤ g2 := by
    rcases hG2 with e | e
    · exact h.newK _ e
    · omega
  have b1 := kU.at_ h.box (fun hx => by have := h.newN tb hx; omega)
  have b2 := kV.at_ (b1.set 2 _) (fun hx => by have := h.newK tb hx; omega)
  have hT : T.take (j + 1) = T.take j ++ [(s, q, ty)] := by rw [List.take_add_one, hx]; rfl
  refine ⟨?_, ?_, ?_, ?_, fun k hk => ?_, fun k hk => ?_, fun m x y hm hmx hmy => ?_⟩
  · refine Keep.setCell (X := fun g => g = tb) (p := ⟨tb, 3, none⟩) ?_ (.inl rfl) _
    exact (Keep.setCell (X := fun g => g = tb) (p := ⟨tb, 2, none⟩) (h.keep.trans kU (fun g hg hx => by have := h.newN g hx; omega)) (.inl rfl) _).trans kV (fun g hg hx => by have := h.newK g hx; omega)
  · exact b2.set 3 _
  · rw [hT, List.map_append, strs_append]
    have ho1' := ownsRow_setCell_ne ho1 (a := ⟨tb, 2, none⟩) (by simp only [Value.ownBlock, ne_eq, Option.some.injEq]; omega) (.slice (some ⟨g1, 0, none⟩) (j + 1) cp1)
    have ho := kV.own ho1' (fun g hg hx => own_nk ho1 (kU.own h.ownK (fun g' h1 h2 => own_nk h.ownN h.ownK h2 h1)) hg hx)
    exact ownsRow_setCell_ne ho (a := ⟨tb, 3, none⟩) (by simp only [Value.ownBlock, ne_eq, Option.some.injEq]; omega) _
  · rw [hT, List.map_append, tflat_append]
    have e : tflat (List.map (fun x : Tri => x.2.1) [(s, q, ty)]) = q.vals := by simp [tflat]
    rw [e]
    exact ownsRow_setCell_ne ho2 (a := ⟨tb, 3, none⟩) (by simp only [Value.ownBlock, ne_eq, Option.some.injEq]; omega) _
  · simp only [Value.ownBlock, Option.some.injEq] at hk
    omega
  · simp only [Value.ownBlock, Option.some.injEq] at hk
    omega
  · by_cases hmj : m + 1 = j
    · have : y = (s, q, ty) := by rw [hmj, hx] at hmy; exact (Option.some.inj hmy).symm
      subst this
      exact hnd m x hmj hmx
    · exact h.nd m x y (by omega) hmx hmy
theorem LpR.fin {w w2 wr wf : World} {X : Nat → Prop} {T : List Tri} {names : List ByteArray} {kids : List Ty} {tb rb n cn ck : Nat} {An Ak : Option Addr} (hX : ∀ i, X i → i < w.heap.size) (hn : T.length = n) (h : LpR w2 T tb n (.slice An n cn) (.slice Ak n ck) wr) (hT : TriR w X names kids T)
    (hw2 : w.heap.size ≤ w2.heap.size) (hrb : rb < w2.heap.size) (hf : Keep (fun g => g = rb) wr wf) (hk : Keep (fun _ => False) w wf) (hl : names.length = kids.length) (hln : names.length = n) (h16 : n ≤ 16) (hok : ∀ s ∈ names, nameB s = true) :
    recT names kids = some (recOf (T.map fun x => ((x.1, x.2.2) : Ft))) ∧ TyV wf X ⟨5, ⟨#[]⟩, An, n, cn, Ak, n, ck⟩ (recOf (T.map fun x => ((x.1, x.2.2) : Ft))) := by
  have htake : T.take n = T := List.take_of_length_le (by omega)
  have oN := h.ownN
  have oK := h.ownK
  rw [htake] at oN oK
  refine ⟨recT_some hl (by omega) (by rw [List.all_eq_true]; exact hok) hT.perm (strict_of (fun i j x y hij hx hy => ?_) (fun i x y hx hy => ?_)), ?_⟩
  · rw [List.getElem?_map] at hx hy
    obtain ⟨x', hx', rfl⟩ := Option.map_eq_some_iff.1 hx
    obtain ⟨y', hy', rfl⟩ := Option.map_eq_some_iff.1 hy
    exact hT.sorted i j x' y' hij hx' hy'
  · rw [List.getElem?_map] at hx hy
    obtain ⟨x', hx', rfl⟩ := Option.map_eq_some_iff.1 hx
    obtain ⟨y', hy', rfl⟩ := Option.map_eq_some_iff.1 hy
    exact h.nd i x' y' (by have := (List.getElem?_eq_some_iff.1 hy').1; omega) hx' hy'
  · refine TyV.mk (rs := T.map (·.2.1)) ⟨rfl, by simp only; omega, by simp only; omega⟩ rfl ?_ ?_ ?_ ?_ ?_
    · simp only [recOf, Ty.names, List.length_map]; omega
    · have e : strs (recOf (T.map fun x => ((x.1, x.2.2) : Ft))).names = strs (T.map (·.1)) := by simp [recOf, Ty.names, Function.comp_def]
      rw [e]
      exact Rd.of_own (hf.own oN (fun g hg e => by have := h.newN g hg; omega)) (fun g hg hx => by have := h.newN g hg; have := hX g hx; omega)
    · simp only [recOf, Ty.kids, List.length_map]; omega
    · exact Rd.of_own (hf.own oK (fun g hg e => by have := h.newK g hg; omega)) (fun g hg hx => by have := h.newK g hg; have := hX g hx; omega)
    · have e : (recOf (T.map fun x => ((x.1, x.2.2) : Ft))).kids = T.map (·.2.2) := by simp [recOf, Ty.kids, Function.comp_def]
      rw [e]
      refine TysV.of_get (by simp) fun i r t hr ht => ?_
      rw [List.getElem?_map] at hr ht
      obtain ⟨x, hx, rfl⟩ := Option.map_eq_some_iff.1 hr
      obtain ⟨y, hy, rfl⟩ := Option.map_eq_some_iff.1 ht
      rw [hx] at hy
      have := Option.some.inj hy
      subst this
      exact (hT.tys x (List.mem_of_getElem? hx)).step hk
def LpA (w2 : World) (T : List Tri) (n tb : Nat) (k : Nat) (b : Value) (wr : World) : Prop :=
  ∃ (i : Nat) (vn vk : Value), b = .int .i64 i ∧ i ≤ n ∧ k = n - i ∧ LpR w2 T tb i vn vk wr
theorem fcells {w : World} {X : Nat → Prop} {A : Option Addr} {n c i : Nat} {l : List Fd} {s : ByteArray} {q : Tv} (h : Rd w X 5 (.slice A n c) n (fflat l)) (hi : i < n) (hr : l[i]? = some (s, q)) :
    ∃ b o, A = some ⟨b, o, none⟩ ∧ b < w.heap.size ∧ ¬ X b ∧ w.cell? ⟨b, o + i * 5, none⟩ = some (.string s) ∧ w.cell? ⟨b, o + i * 5 + 1, none⟩ = some (.int .i64 q.k) ∧ w.cell? ⟨b, o + i * 5 + 2, none⟩ = some (.string q.nm) ∧ w.cell? ⟨b, o + i * 5 + 3, none⟩ = some (.slice q.An q.nn q.cn) ∧ w.cell? ⟨b, o + i * 5 + 4, none⟩ = some (.slice q.Ak q.nk q.ck) := by
  have hll : l.length = n := by
    have := h.1
    rw [fflat_length] at this
    omega
  obtain ⟨_, A', c', hv, _, hrr⟩ := h
  simp only [Value.slice.injEq, true_and] at hv
  obtain ⟨rfl, rfl⟩ := hv
  obtain ⟨b, o, rfl, hb, hx, hc⟩ := hrr (by omega)
  have hl : l[i]! = (s, q) := by
    have h1 := (List.getElem?_eq_some_iff.1 hr).1
    rw [getElem!_pos l i h1]
    exact (List.getElem?_eq_some_iff.1 hr).2
  have g : ∀ m, m < 5 → (fflat l)[i * 5 + m]? = (encF (s, q))[m]? := by
    intro m hm
    rw [fflat_at l _ (by omega), show (i * 5 + m) / 5 = i by omega, show (i * 5 + m) % 5 = m by omega, hl]
  exact ⟨b, o, rfl, hb, hx, by rw [hc _ (by omega)]; exact g 0 (by omega), by rw [Nat.add_assoc, hc _ (by omega)]; exact g 1 (by omega), by rw [Nat.add_assoc, hc _ (by omega)]; exact g 2 (by omega), by rw [Nat.add_assoc, hc _ (by omega)]; exact g 3 (by omega), by rw [Nat.add_assoc, hc _ (by omega)]; exact g 4 (by omega)⟩
set_option maxRecDepth 100000 in
set_option maxHeartbeats 60000000 in
theorem record_any {w : World} {X : Nat → Prop} (hX : ∀ i, X i → i < w.heap.size) (hT : Tab w) {A A' : Option Addr} {n n' c c' : Nat} {names : List ByteArray} {kids : List Ty} {rs : List Tv} (hb : n ≤ 140737488355328) (hb' : n' ≤ 140737488355328)
    (h : Rd w X 1 (.slice A n c) n (strs names)) (h' : Rd w X 4 (.slice A' n' c') n' (tflat rs)) (hv : TysV w X rs kids) :
    Calls Tryd.prog 76 #[.slice A n c, .slice A' n' c'] w fun e w' => OptP X (recT names kids) e w' ∧ Keep (fun _ => False) w w' := by
  have hn : names.length = n := h.slen
  have hn' : kids.length = n' := by rw [← hv.len, h'.nlen]
  have hrsl : rs.length = n' := h'.nlen
  have H := Lib.hid (And.intro h (And.intro h' (And.intro hv (And.intro hX hT))))
  have HN := Lib.hid (And.intro hn (And.intro hn' hrsl))
  clear h h' hv hX hT
  have k1 : Keep (fun _ => False) w (w.alloc (.cells #[.int .i64 0, .string ⟨#[]⟩, .slice none 0 0, .slice none 0 0] 25)) := (Keep.refl _ w).alloc _
  have a1 : At (w.alloc (.cells #[.int .i64 0, .string ⟨#[]⟩, .slice none 0 0, .slice none 0 0] 25)) w.heap.size 25 tv0.vals.toArray := At.new _ _ _
  by_cases hlen : n = n'
  · by_cases h16 : 16 < n
    · have hr : recT names kids = none := recT_none (.inr (.inl (by omega)))
      have d2 : decide (16 < (n : Int)) = true := by simp; omega
      have d2' : decide (16 < n) = true := by simp; omega
      have HK := Lib.hid (And.intro hr k1)
      subst hlen
      clear hr k1 a1 H HN hn hn' hrsl
      go_enter Tryd.func76, Tryd.ntmps76
      go_wp2_with fail
      (try simp only [Exit.inBlock, Exit.then])
      refine bodyPost_ret (by simp [results, Tryd.results76, go_sem]; try rfl) rfl ?_
      exact ⟨OptP.no HK.out.1 tv0, HK.out.2⟩
    · have d2 : decide (16 < (n : Int)) = false := by simp; omega
      have d2' : decide (16 < n) = false := by simp; omega
      have h0 : Hid (RcA w names rs n w.heap.size n (.slice none 0 0) (.int .i64 0) (w.alloc (.cells #[.int .i64 0, .string ⟨#[]⟩, .slice none 0 0, .slice none 0 0] 25))) := ⟨0, _, rfl, rfl, Nat.zero_le _, rfl, ⟨k1, World.ownsRow_nil _ 0 100 5, fun g hg => by simp [Value.ownBlock] at hg, fun s hs => by simp at hs⟩, a1⟩
      subst hlen
      clear k1 a1 hn hn' hrsl
      go_enter Tryd.func76, Tryd.ntmps76
      go_wp2_with fail
      generalize hre : w.heap.size = rb at *
      have HRE := Lib.hid hre
      clear hre
      go_loopg [6, 25] n (RcA w names rs n rb)
      case atStart => exact h0.out
      case round =>
        clear h0
        obtain ⟨i, lv, rfl, rfl, hi, rfl, hR, hat⟩ := hrel
        obtain ⟨Al, cl, rfl⟩ := own_slice hR.own
        have HR := Lib.hid (And.intro hR hat)
        by_cases hlt : i < n
        · obtain ⟨hn, hn', hrsl⟩ := HN.out
          obtain ⟨s, hsi⟩ : ∃ s, names[i]? = some s := ⟨_, List.getElem?_eq_getElem (by omega)⟩
          obtain ⟨⟨qk, qnm, qAn, qnn, qcn, qAk, qnk, qck⟩, hq⟩ : ∃ q, rs[i]? = some q := ⟨_, List.getElem?_eq_getElem (by omega)⟩
          obtain ⟨b, o, hA1, hbz, _, c0⟩ := (H.out.1.keep hR.keep (fun _ x => x.elim)).scell hlt hsi
          have hnm := name_any s wr (H.out.2.2.2.2.step hR.keep)
          have HQ := Lib.hid (And.intro hsi hq)
          subst hA1
          have hra : At wr rb 25 #[.int .i64 0, .string ⟨#[]⟩, .slice none 0 0, .slice none 0 0] := hat
          have HRA := Lib.hid hra
          clear hra
          cases hnb : nameB s with
          | false =>
            rw [hnb] at hnm
            have hr : recT names kids = none := recT_none (.inr (.inr (.inl ⟨s, List.mem_of_getElem? hsi, hnb⟩)))
            have HNO := Lib.hid hr
            clear hsi hq hR hat hr hnb hn hn' hrsl
            go_wp2_with (go_at_call 83; refine hnm.mono ?_; rintro e w2 ⟨rfl, hk3⟩; have ra := hk3.at_ HRA.out (fun x => x); have rf0 := ra.frozen 0; have rf1 := ra.frozen 1; have rf2 := ra.frozen 2; have rf3 := ra.frozen 3; have rc0 := ra.cell 0; have rc1 := ra.cell 1; have rc2 := ra.cell 2; have rc3 := ra.cell 3; have rl := ra.lt; simp only [List.getElem?_toArray, List.getElem?_cons_succ, List.getElem?_cons_zero] at rc0 rc1 rc2 rc3; have H3 := Lib.hid hk3; clear hk3 hnm ra)
            (try simp only [Exit.inBlock, Exit.then])
            refine bodyPost_ret (by simp [results, Tryd.results76, go_sem, rc0, rc1, rc2, rc3]; try rfl) rfl ?_
            exact ⟨OptP.no HNO.out tv0, Keep.set4 (HR.out.1.keep.trans H3.out (fun _ _ x => x)) (.inr (by have := HRE.out; omega)) _ _ _ _⟩
          | true =>
            rw [hnb] at hnm
            have hfa : ∀ w2, Keep (fun _ => False) wr w2 → ∃ b2 o2, A' = some ⟨b2, o2, none⟩ ∧ b2 < w2.heap.size ∧ w2.cell? ⟨b2, o2 + i * 4, none⟩ = some (.int .i64 qk) ∧ w2.cell? ⟨b2, o2 + i * 4 + 1, none⟩ = some (.string qnm) ∧ w2.cell? ⟨b2, o2 + i * 4 + 2, none⟩ = some (.slice qAn qnn qcn) ∧ w2.cell? ⟨b2, o2 + i * 4 + 3, none⟩ = some (.slice qAk qnk qck) := by
              intro w2 hk2
              obtain ⟨b2, o2, hA, hb2, _, e0, e1, e2, e3⟩ := (H.out.2.1.keep (hR.keep.trans hk2 (fun _ _ x => x)) (fun _ x => x.elim)).tcells (i := i) (by omega) hq
              exact ⟨b2, o2, hA, hb2, e0, e1, e2, e3⟩
            obtain ⟨b2, o2, hA2, _⟩ := hfa wr (Keep.refl _ _)
            subst hA2
            have HFA := Lib.hid hfa
            have HNB := Lib.hid hnb
            have hbig : i + 1 ≤ 1099511627776 := by omega
            clear hsi hq hR hat hfa hnb hn hn' hrsl
            go_wp2_with (first
              | (go_at_call 83; refine hnm.mono ?_; rintro e w2 ⟨rfl, hk3⟩; obtain ⟨b3, o3, hA3, hb3, e0, e1, e2, e3⟩ := HFA.out w2 hk3; simp only [Option.some.injEq, Addr.mk.injEq, and_true] at hA3; obtain ⟨rfl, rfl⟩ := hA3; have hown2 := hk3.own HR.out.1.own (fun _ _ x => x); have H3 := Lib.hid (And.intro hk3 hown2); clear hk3 hnm hown2)
              | (at_builtin; refine wpList_app rfl (.tmp 34) (.tmp 41) 98 rfl E50 (.slice Al i cl) i (fflat ((names.zip rs).take i)) rfl (H3.out.2.alloc _) w2.heap.size 1 1 #[.string s, .int .i64 qk, .string qnm, .slice qAn qnn qcn, .slice qAk qnk qck] rfl (At.new _ _ _) rfl (by simp [Value.oneCell']) (by decide) hbig (by decide) ?_))
            intro g cap w5 ho5 hk5 hg5 hgl5
            have H5 := Lib.hid (And.intro ho5 (And.intro hk5 hg5))
            clear ho5 hk5 hg5 e0 e1 e2 e3
            go_wp2_with fail
            go_roundg (n - (i + 1))
            case measure => omega
            case rel =>
              obtain ⟨ho5, hk5, hg5⟩ := H5.out
              have kal := H3.out.1.alloc (.cells #[.string s, .int .i64 qk, .string qnm, .slice qAn qnn qcn, .slice qAk qnk qck] 100)
              refine ⟨i + 1, _, rfl, by go_num, by omega, rfl, HR.out.1.app (q := ⟨qk, qnm, qAn, qnn, qcn, qAk, qnk, qck⟩) HQ.out.1 HQ.out.2 HNB.out kal ho5 hk5 (by simpa using hg5), hk5.at_ (kal.at_ HR.out.2 (fun x => x)) (fun hx => ?_)⟩
              exact own_at HR.out.1.own HR.out.2 (by decide) hx
        · have hie : i = n := by omega
          subst hie
          obtain ⟨hn, hn', hrsl⟩ := HN.out
          have hfull : (names.zip rs).take i = names.zip rs := List.take_of_length_le (by simp; omega)
          have hown := hR.own
          rw [hfull] at hown
          have hso := sort_any (l := names.zip rs) (by simp; omega) (by omega) hown
          clear hown hfull hR hat hn hn' hrsl
          go_wp2_with (go_at_call 84; refine hso.mono ?_; rintro e w1 ⟨rfl, l, hp, hss, hrd, hk1⟩; obtain ⟨T, hT, hTl⟩ := tri_of H.out.2.2.1 hp hss; have H1 := Lib.hid (And.intro hT (And.intro hTl (And.intro hrd hk1))); clear hp hss hrd hk1 hT hTl hso)
          have h3 : Hid (LpA (w1.alloc (.cells #[.int .i64 5, .string ⟨#[]⟩, .slice none 0 0, .slice none 0 0] 25)) T i w1.heap.size i (.int .i64 0) (w1.alloc (.cells #[.int .i64 5, .string ⟨#[]⟩, .slice none 0 0, .slice none 0 0] 25))) :=
            ⟨0, .slice none 0 0, .slice none 0 0, rfl, Nat.zero_le _, rfl, ⟨Keep.refl _ _, At.new _ _ _, World.ownsRow_nil _ 0 9 1, World.ownsRow_nil _ 0 25 4, fun g hg => by simp [Value.ownBlock] at hg, fun g hg => by simp [Value.ownBlock] at hg, fun j x y hj => by omega⟩⟩
          have k2 : Keep (fun _ => False) w1 (w1.alloc (.cells #[.int .i64 5, .string ⟨#[]⟩, .slice none 0 0, .slice none 0 0] 25)) := (Keep.refl _ w1).alloc _
          have hkw : Keep (fun _ => False) w w1 := HR.out.1.keep.weak H1.out.2.2.2 (fun g hg => HR.out.1.new g hg)
          have hrb1 : At w1 rb 25 #[.int .i64 0, .string ⟨#[]⟩, .slice none 0 0, .slice none 0 0] := H1.out.2.2.2.at_ HR.out.2 (fun hx => own_at HR.out.1.own HR.out.2 (by decide) hx)
          have hsz : (w1.alloc (.cells #[.int .i64 5, .string ⟨#[]⟩, .slice none 0 0, .slice none 0 0] 25)).heap.size = w1.heap.size + 1 := by simp
          have htl : T.length = i := by
            have h1 := H1.out.2.2.1.1
            rw [fflat_length, ← H1.out.2.1, List.length_map] at h1
            omega
          have HB := Lib.hid (And.intro k2 (And.intro hkw (And.intro hrb1 (And.intro hsz htl))))
          clear k2 hkw hrb1 hsz htl
          generalize (w1.alloc (.cells #[.int .i64 5, .string ⟨#[]⟩, .slice none 0 0, .slice none 0 0] 25)) = w2 at *
          generalize hte : w1.heap.size = tb at *
          have HTE := Lib.hid hte
          clear hte
          go_loopg [49] i (LpA w2 T i tb)
          case atStart => exact h3.out
          case round =>
            clear h3
            obtain ⟨j, vn, vk, rfl, hj, rfl, hL⟩ := hrel
            obtain ⟨An, cn, rfl⟩ := own_slice hL.ownN
            obtain ⟨Ak, ck, rfl⟩ := own_slice hL.ownK
            have htb1 : w1.heap.size = tb := HTE.out
            have htb2 : tb < w2.heap.size := by have := HB.out.2.2.2.1; omega
            have hrdr := ((Rd.mono (w := w1) (Y := fun g => g = tb) H1.out.2.2.1 (fun g hg hx => by omega)).keep HB.out.1 (fun _ x => x.elim)).keep hL.keep (fun _ x => x)
            have b2 := hL.box.cell 2
            have b3 := hL.box.cell 3
            have bl := hL.box.lt
            have bf := hL.box.frozen
            have hrbt : ¬ rb = tb := by have := HB.out.2.2.1.lt; omega
            have ra : At wr rb 25 #[.int .i64 0, .string ⟨#[]⟩, .slice none 0 0, .slice none 0 0] := hL.keep.at_ (HB.out.1.at_ HB.out.2.2.1 (fun x => x)) hrbt
            have HRa := Lib.hid ra
            simp only [List.getElem?_toArray, List.getElem?_cons_succ, List.getElem?_cons_zero] at b2 b3
            by_cases hjl : j < i
            · obtain ⟨⟨s, ⟨qk, qnm, qAn, qnn, qcn, qAk, qnk, qck⟩, ty⟩, htx⟩ : ∃ x, T[j]? = some x := ⟨_, List.getElem?_eq_getElem (by have := HB.out.2.2.2.2; omega)⟩
              have hlx : l[j]? = some (s, ⟨qk, qnm, qAn, qnn, qcn, qAk, qnk, qck⟩) := by rw [← H1.out.2.1, List.getElem?_map, htx]; rfl
              obtain ⟨b, o, hAl, hbz, _, f0, f1, f2, f3, f4⟩ := fcells hrdr hjl hlx
              simp only at f1 f2 f3 f4
              subst hAl
              have HL := Lib.hid (And.intro hL (And.intro htx hlx))
              have d16 : i ≤ 16 := by omega
              have hbig : j + 1 ≤ 1099511627776 := by omega
              have kal : Keep (fun _ => False) wr (wr.alloc (.cells #[.string s, .int .i64 qk, .string qnm, .slice qAn qnn qcn, .slice qAk qnk qck] 100)) := (Keep.refl _ wr).alloc _
              have bx : At (wr.alloc (.cells #[.string s, .int .i64 qk, .string qnm, .slice qAn qnn qcn, .slice qAk qnk qck] 100)) wr.heap.size 100 #[.string s, .int .i64 qk, .string qnm, .slice qAn qnn qcn, .slice qAk qnk qck] := At.new _ _ _
              have HBX := Lib.hid (And.intro kal bx)
              have HRD := Lib.hid hrdr
              clear kal bx hL htx hlx hrdr
              go_upto_region 16 with fail
              go_cut [66] from 54 to 65 (fun s66 wx => Keep (fun _ => False) (wr.alloc (.cells #[.string s, .int .i64 qk, .string qnm, .slice qAn qnn qcn, .slice qAk qnk qck] 100)) wx ∧ ((s66 = .bool true ∧ recT names kids = none) ∨ (s66 = .bool false ∧ ∀ (m : Nat) (px : Tri), m + 1 = j → T[m]? = some px → px.1 ≠ s)))
              case first =>
                by_cases hj0 : j = 0
                · have d0 : decide (0 < (j : Int)) = false := by simp; omega
                  have d0' : decide (0 < j) = false := by simp; omega
                  have HJ := Lib.hid hj0
                  clear hj0
                  go_quiet (fail)
                  go_wp2_with fail
                  go_meet
                  case rel => exact ⟨(Keep.refl _ _).drewN' _, .inr ⟨rfl, fun m px hm _ => by have := HJ.out; omega⟩⟩
                · obtain ⟨m, rfl⟩ : ∃ m, j = m + 1 := ⟨j - 1, by omega⟩
                  obtain ⟨⟨ps, pq, pty⟩, hpx⟩ : ∃ x, T[m]? = some x := ⟨_, List.getElem?_eq_getElem (by have := HB.out.2.2.2.2; omega)⟩
                  have hpl : l[m]? = some (ps, pq) := by rw [← H1.out.2.1, List.getElem?_map, hpx]; rfl
                  obtain ⟨pb, po, hAp, pbz, _, p0, _⟩ := fcells HRD.out (by omega) hpl
                  simp only [Option.some.injEq, Addr.mk.injEq, and_true] at hAp
                  obtain ⟨rfl, rfl⟩ := hAp
                  have HP := Lib.hid hpx
                  have d0 : decide (0 < ((m + 1 : Nat) : Int)) = true := by simp
                  clear hpx hpl hj0
                  by_cases hps : ps = s
                  · subst hps
                    have hd := str_beq ps
                    have hno : recT names kids = none := recT_none (.inr (.inr (.inr (fun hnd => by
                      have hz : (names.zip kids).map (·.1) = names := by
                        have := HN.out
                        rw [List.map_fst_zip]
                        omega
                      have h1 := (H1.out.1.perm.map (·.1)).nodup_iff
                      rw [hz] at h1
                      exact dup_of (l := T.map fun x => ((x.1, x.2.2) : Ft)) (i := m) (x := (ps, pty)) (y := (ps, ty)) (by rw [List.getElem?_map, HP.out]; rfl) (by rw [List.getElem?_map, HL.out.2.1]; rfl) rfl (h1.2 hnd)))))
                    have HNO := Lib.hid hno
                    clear hno
                    go_quiet (fail)
                    go_wp2_with fail
                    go_meet
                    case rel => exact ⟨(Keep.refl _ _).drewN' _, .inl ⟨rfl, HNO.out⟩⟩
                  · have hd := str_bne hps
                    have HNE := Lib.hid hps
                    clear hps
                    go_quiet (fail)
                    go_wp2_with fail
                    go_meet
                    case rel => exact ⟨(Keep.refl _ _).drewN' _, .inr ⟨rfl, fun m' px hm hpx => by
                      have : m' = m := by omega
                      subst this
                      rw [HP.out] at hpx
                      rw [← Option.some.inj hpx]
                      exact HNE.out⟩⟩
              case rest =>
                obtain ⟨kq0, hnd⟩ := hcut
                rcases hnd with ⟨rfl, hno⟩ | ⟨rfl, hnd⟩
                · have kq : Keep (fun _ => False) wr wc := HBX.out.1.trans kq0 (fun _ _ x => x)
                  have ra := kq.at_ HRa.out (fun x => x)
                  have rf0 := ra.frozen 0
                  have rf1 := ra.frozen 1
                  have rf2 := ra.frozen 2
                  have rf3 := ra.frozen 3
                  have rc0 := ra.cell 0
                  have rc1 := ra.cell 1
                  have rc2 := ra.cell 2
                  have rc3 := ra.cell 3
                  have rl := ra.lt
                  simp only [List.getElem?_toArray, List.getElem?_cons_succ, List.getElem?_cons_zero] at rc0 rc1 rc2 rc3
                  have HKQ := Lib.hid (And.intro kq hno)
                  clear ra kq hno kq0
                  go_wp2_with fail
                  (try simp only [Exit.inBlock, Exit.then])
                  refine bodyPost_ret (by simp [results, Tryd.results76, go_sem, rc0, rc1, rc2, rc3]; try rfl) rfl ?_
                  have hkw2 : Keep (fun _ => False) w wr := (HB.out.2.1.trans HB.out.1 (fun _ _ x => x)).weak HL.out.1.keep (fun g hg => by have h1 := HB.out.2.1.size; rw [hg, ← HTE.out]; exact h1)
                  exact ⟨OptP.no HKQ.out.2 tv0, Keep.set4 (hkw2.trans HKQ.out.1 (fun _ _ x => x)) (.inr (by have := HRE.out; omega)) _ _ _ _⟩
                · generalize wc = wq at *
                  have kq : Keep (fun _ => False) wr wq := HBX.out.1.trans kq0 (fun _ _ x => x)
                  have bx : At wq wr.heap.size 100 #[.string s, .int .i64 qk, .string qnm, .slice qAn qnn qcn, .slice qAk qnk qck] := kq0.at_ HBX.out.2 (fun x => x)
                  have hLq := HL.out.1.step kq
                  have HLQ := Lib.hid (And.intro hLq (And.intro bx kq))
                  have HND := Lib.hid hnd
                  clear b2 b3 bl bf f0 f1 f2 f3 f4 HBX kq kq0 hnd ra HRD HRa
                  generalize wr.heap.size = xb at *
                  have x0 : wq.cell? ⟨xb, 0, none⟩ = some (.string s) := bx.cell 0
                  have x1 : wq.cell? ⟨xb, 1, none⟩ = some (.int .i64 qk) := bx.cell 1
                  have x2 : wq.cell? ⟨xb, 2, none⟩ = some (.string qnm) := bx.cell 2
                  have x3 : wq.cell? ⟨xb, 3, none⟩ = some (.slice qAn qnn qcn) := bx.cell 3
                  have x4 : wq.cell? ⟨xb, 4, none⟩ = some (.slice qAk qnk qck) := bx.cell 4
                  have xl := bx.lt
                  have b2 : wq.cell? ⟨tb, 2, none⟩ = some (.slice An j cn) := hLq.box.cell 2
                  have b3 : wq.cell? ⟨tb, 3, none⟩ = some (.slice Ak j ck) := hLq.box.cell 3
                  have bl := hLq.box.lt
                  have bf := hLq.box.frozen
                  clear hLq bx
                  have hxn : ¬ (Value.slice An j cn).ownBlock = some xb := fun hx => own_at HLQ.out.1.ownN HLQ.out.2.1 (by decide) hx
                  have hxk : ¬ (Value.slice Ak j ck).ownBlock = some xb := fun hx => own_at HLQ.out.1.ownK HLQ.out.2.1 (by decide) hx
                  have hxt : ¬ xb = tb := HLQ.out.2.1.ne HLQ.out.1.box (by decide)
                  have hsx : (xb < wq.heap.size ∧ wq.cell? ⟨xb, 0, none⟩ = some (.string s) ∧ wq.cell? ⟨xb, 1, none⟩ = some (.int .i64 qk) ∧ wq.cell? ⟨xb, 2, none⟩ = some (.string qnm) ∧ wq.cell? ⟨xb, 3, none⟩ = some (.slice qAn qnn qcn) ∧ wq.cell? ⟨xb, 4, none⟩ = some (.slice qAk qnk qck)) := ⟨xl, x0, x1, x2, x3, x4⟩
                  clear xl x0 x1 x2 x3 x4
                  go_wp2_with fail
                  have htb : tb < wq.heap.size ∧ wq.cell? ⟨tb, 2, none⟩ = some (.slice An j cn) ∧ wq.cell? ⟨tb, 3, none⟩ = some (.slice Ak j ck) := ⟨bl, b2, b3⟩
                  refine wp_region_any (by kernel_rfl) ?_
                  (try (change wpAny _ _ _ _ _ _ _ (World.drew _)))
                  refine wpAny_of_T (S := (fun w' => xb < w'.heap.size ∧ w'.cell? ⟨xb, 0, none⟩ = some (.string s) ∧ w'.cell? ⟨xb, 1, none⟩ = some (.int .i64 qk) ∧ w'.cell? ⟨xb, 2, none⟩ = some (.string qnm) ∧ w'.cell? ⟨xb, 3, none⟩ = some (.slice qAn qnn qcn) ∧ w'.cell? ⟨xb, 4, none⟩ = some (.slice qAk qnk qck))) (T := (fun w' => tb < w'.heap.size ∧ w'.cell? ⟨tb, 2, none⟩ = some (.slice An j cn) ∧ w'.cell? ⟨tb, 3, none⟩ = some (.slice Ak j ck))) (s := 13) _ _ _ _ ?_
                  refine wpAnyT_takeS (i := 0) (oi := { dst := some 68, op := Op.fieldAddr 25 (Operand.tmp 9) 2, type := 0, pos := "types.go:90", after := #[], guard := none }) (v := .pointer (some ⟨tb, 2, none⟩)) rfl (by kernel_rfl) (by kernel_rfl) (by kernel_rfl) (by decide) (fun _ _ _ h => h) (Or.inl ⟨by rfl, fun w hSw => by obtain ⟨z0, z1, z2, z3, z4, z5⟩ := hSw; go_simp⟩) hsx (fun _ => htb) ?_
                  (try simp only [Act.put, List.setIfInBounds_toArray, List.set_cons_zero, List.set_cons_succ])
                  refine wpAnyT_takeS (i := 2) (oi := { dst := some 70, op := Op.fieldAddr 100 (Operand.tmp 11) 0, type := 0, pos := "types.go:90", after := #[], guard := none }) (v := .pointer (some ⟨xb, 0, none⟩)) rfl (by kernel_rfl) (by kernel_rfl) (by kernel_rfl) (by decide) (fun _ _ _ h => h) (Or.inl ⟨by rfl, fun w hSw => by obtain ⟨z0, z1, z2, z3, z4, z5⟩ := hSw; go_simp⟩) hsx (fun _ => htb) ?_
                  (try simp only [Act.put, List.setIfInBounds_toArray, List.set_cons_zero, List.set_cons_succ])
                  refine wpAnyT_takeS (i := 6) (oi := { dst := some 74, op := Op.fieldAddr 25 (Operand.tmp 9) 3, type := 0, pos := "types.go:90", after := #[], guard := none }) (v := .pointer (some ⟨tb, 3, none⟩)) rfl (by kernel_rfl) (by kernel_rfl) (by kernel_rfl) (by decide) (fun _ _ _ h => h) (Or.inl ⟨by rfl, fun w hSw => by obtain ⟨z0, z1, z2, z3, z4, z5⟩ := hSw; go_simp⟩) hsx (fun _ => htb) ?_
                  (try simp only [Act.put, List.setIfInBounds_toArray, List.set_cons_zero, List.set_cons_succ])
                  refine wpAnyT_takeS (i := 8) (oi := { dst := some 76, op := Op.fieldAddr 100 (Operand.tmp 11) 1, type := 0, pos := "types.go:90", after := #[], guard := none }) (v := .pointer (some ⟨xb, 1, none⟩)) rfl (by kernel_rfl) (by kernel_rfl) (by kernel_rfl) (by decide) (fun _ _ _ h => h) (Or.inl ⟨by rfl, fun w hSw => by obtain ⟨z0, z1, z2, z3, z4, z5⟩ := hSw; go_simp⟩) hsx (fun _ => htb) ?_
                  (try simp only [Act.put, List.setIfInBounds_toArray, List.set_cons_zero, List.set_cons_succ])
                  refine wpAnyT_takeT (i := 1) (oi := { dst := some 69, op := Op.load 22 (Operand.tmp 68), type := 22, pos := "types.go:90", after := #[{ on := 0, ground := Ground.data }], guard := none }) (v := .slice An j cn) rfl (by kernel_rfl) (by kernel_rfl) (by kernel_rfl) (by kernel_rfl) (by decide) (by kernel_rfl) (fun _ _ _ h => h) (Or.inl ⟨by rfl, fun w hSw => by obtain ⟨_, z0, z1, z2⟩ := hSw; go_simp⟩) hsx htb ?_
                  (try simp only [Act.put, List.setIfInBounds_toArray, List.set_cons_zero, List.set_cons_succ])
                  refine wpAnyT_takeT (i := 7) (oi := { dst := some 75, op := Op.load 23 (Operand.tmp 74), type := 23, pos := "types.go:90", after := #[{ on := 6, ground := Ground.data }], guard := none }) (v := .slice Ak j ck) rfl (by kernel_rfl) (by kernel_rfl) (by kernel_rfl) (by kernel_rfl) (by decide) (by kernel_rfl) (fun _ _ _ h => h) (Or.inl ⟨by rfl, fun w hSw => by obtain ⟨_, z0, z1, z2⟩ := hSw; go_simp⟩) hsx htb ?_
                  (try simp only [Act.put, List.setIfInBounds_toArray, List.set_cons_zero, List.set_cons_succ])
                  refine wpAnyT_takeS (i := 3) (oi := { dst := some 71, op := Op.load 9 (Operand.tmp 70), type := 9, pos := "types.go:90", after := #[{ on := 2, ground := Ground.data }], guard := none }) (v := .string s) rfl (by kernel_rfl) (by kernel_rfl) (by kernel_rfl) (by decide) (fun _ _ _ h => h) (Or.inl ⟨by rfl, fun w hSw => by obtain ⟨z0, z1, z2, z3, z4, z5⟩ := hSw; go_simp⟩) hsx (fun _ => htb) ?_
                  (try simp only [Act.put, List.setIfInBounds_toArray, List.set_cons_zero, List.set_cons_succ])
                  refine wpAnyT_takeS (i := 9) (oi := { dst := some 77, op := Op.load 25 (Operand.tmp 76), type := 25, pos := "types.go:90", after := #[{ on := 8, ground := Ground.data }], guard := none }) (v := .agg #[.int .i64 qk, .string qnm, .slice qAn qnn qcn, .slice qAk qnk qck]) rfl (by kernel_rfl) (by kernel_rfl) (by kernel_rfl) (by decide) (fun _ _ _ h => h) (Or.inl ⟨by rfl, fun w hSw => by obtain ⟨z0, z1, z2, z3, z4, z5⟩ := hSw; go_simp⟩) hsx (fun _ => htb) ?_
                  (try simp only [Act.put, List.setIfInBounds_toArray, List.set_cons_zero, List.set_cons_succ])
                  refine wpAnyT_ready (rs := [4, 10]) (by kernel_rfl) (by simp) (AllT.cons (o := { dst := some 72, op := Op.buildSlice 22 1 #[(0, Operand.tmp 71)], type := 22, pos := "types.go:90", after := #[{ on := 3, ground := Ground.data }], guard := none }) rfl (fun K hK => ?_) (AllT.cons (o := { dst := some 78, op := Op.buildSlice 23 1 #[(0, Operand.tmp 77)], type := 23, pos := "types.go:90", after := #[{ on := 9, ground := Ground.data }], guard := none }) rfl (fun K hK => ?_) AllT.nil))
                  · go_simp
                    have hs1 := fun o => sx_alloc hsx o
                    have ht1 : ∀ o, tb < (wq.alloc o).heap.size ∧ (wq.alloc o).cell? ⟨tb, 2, none⟩ = some (.slice An j cn) ∧ (wq.alloc o).cell? ⟨tb, 3, none⟩ = some (.slice Ak j ck) := fun o => ⟨by have := htb.1; simp; omega, Keep.cell ((Keep.refl (fun _ => False) wq).alloc o) htb.2.1 (fun x => x), Keep.cell ((Keep.refl (fun _ => False) wq).alloc o) htb.2.2 (fun x => x)⟩
                    refine hK _ _ (hs1 _) (fun _ => ht1 _) ?_
                    clear hK K
                    (try simp only [Act.put, List.setIfInBounds_toArray, List.set_cons_zero, List.set_cons_succ])
                    refine wpAnyT_ready (rs := [5, 10]) (by kernel_rfl) (by simp) (AllT.cons (o := { dst := some 73, op := Op.call { callee := Callee.builtin Builtin.append, args := #[Operand.tmp 69, Operand.tmp 72], argTypes := #[22, 22] }, type := 22, pos := "types.go:90", after := #[{ on := 1, ground := Ground.data }, { on := 4, ground := Ground.data }], guard := none }) rfl (fun K hK => ?_) (AllT.cons (o := { dst := some 78, op := Op.buildSlice 23 1 #[(0, Operand.tmp 77)], type := 23, pos := "types.go:90", after := #[{ on := 9, ground := Ground.data }], guard := none }) rfl (fun K hK => ?_) AllT.nil))
                    · skip
                      refine step_app rfl (.tmp 69) (.tmp 72) 22 rfl E9 (.slice An j cn) j (strs ((T.take j).map (·.1))) rfl (by first | exact (HLQ.out.1.ownN.alloc _).drew | exact ((HLQ.out.1.ownN.alloc _).alloc _).drew) _ 1 1 #[.string s] rfl (by first | exact (At.new_at (by simp)).drew | exact ((At.new_at (by simp)).alloc _).drew) rfl (by simp [Value.oneCell']) (by decide) hbig (by decide) ?_; intro g1 cp1 u1 ho1 hk1' hg1 hgl1; have kU : Keep (fun k => (Value.slice An j cn).ownBlock = some k) wq u1 := (by first | exact (((Keep.refl _ wq).alloc _).drew).trans hk1' (fun _ _ x => x) | exact ((((Keep.refl _ wq).alloc _).alloc _).drew).trans hk1' (fun _ _ x => x)); have box1 := kU.at_ HLQ.out.1.box (fun hx => own_at HLQ.out.1.ownN HLQ.out.1.box (by decide) hx); have c2 : u1.cell? ⟨tb, 2, none⟩ = some (.slice An j cn) := box1.cell 2; have c3 : u1.cell? ⟨tb, 3, none⟩ = some (.slice Ak j ck) := box1.cell 3; have cl3 := box1.lt; have HU1 := Lib.hid (And.intro box1 (And.intro (kU.own HLQ.out.1.ownK (fun g hg hx => own_nk HLQ.out.1.ownN HLQ.out.1.ownK hx hg)) (And.intro ho1 (And.intro kU (hg1.imp id (fun h => by first | omega | (simp at h; omega)) : (Value.slice An j cn).ownBlock = some g1 ∨ wq.heap.size ≤ g1))))); clear ho1 kU hg1 box1
                      have hs2 := sx_keep hk1' hxn (hs1 _)
                      have ht2 : tb < u1.heap.size ∧ u1.cell? ⟨tb, 2, none⟩ = some (.slice An j cn) ∧ u1.cell? ⟨tb, 3, none⟩ = some (.slice Ak j ck) := ⟨cl3, c2, c3⟩
                      refine hK _ _ hs2 (fun _ => ht2) ?_
                      clear hK K
                      (try simp only [Act.put, List.setIfInBounds_toArray, List.set_cons_zero, List.set_cons_succ])
                      refine wpAnyT_takeS (i := 12) (oi := { dst := some 80, op := Op.fieldAddr 25 (Operand.tmp 9) 2, type := 0, pos := "types.go:90", after := #[{ on := 0, ground := Ground.phase }, { on := 1, ground := Ground.phase }, { on := 2, ground := Ground.phase }, { on := 3, ground := Ground.phase }, { on := 4, ground := Ground.phase }, { on := 5, ground := Ground.phase }, { on := 6, ground := Ground.phase }, { on := 7, ground := Ground.phase }, { on := 8, ground := Ground.textOnly Departure.lateStores }, { on := 9, ground := Ground.textOnly Departure.lateStores }, { on := 10, ground := Ground.textOnly Departure.lateStores }, { on := 11, ground := Ground.textOnly Departure.lateStoresUnsure }], guard := none }) (v := .pointer (some ⟨tb, 2, none⟩)) rfl (by kernel_rfl) (by kernel_rfl) (by kernel_rfl) (by decide) (fun _ _ _ h => h) (Or.inl ⟨by rfl, fun w hSw => by obtain ⟨z0, z1, z2, z3, z4, z5⟩ := hSw; go_simp⟩) hs2 (fun _ => ht2) ?_
                      (try simp only [Act.put, List.setIfInBounds_toArray, List.set_cons_zero, List.set_cons_succ])
                      refine wpAnyT_ready (rs := [10]) (by kernel_rfl) (by simp) (AllT.cons (o := { dst := some 78, op := Op.buildSlice 23 1 #[(0, Operand.tmp 77)], type := 23, pos := "types.go:90", after := #[{ on := 9, ground := Ground.data }], guard := none }) rfl (fun K hK => ?_) AllT.nil)
                      go_simp
                      refine hK _ _ (sx_alloc hs2 _) (fun _ => ⟨by have := ht2.1; simp; omega, Keep.cell ((Keep.refl (fun _ => False) u1).alloc _) ht2.2.1 (fun x => x), Keep.cell ((Keep.refl (fun _ => False) u1).alloc _) ht2.2.2 (fun x => x)⟩) ?_
                      clear hK K
                      (try simp only [Act.put, List.setIfInBounds_toArray, List.set_cons_zero, List.set_cons_succ])
                      refine wpAnyT_ready (rs := [11]) (by kernel_rfl) (by simp) (AllT.cons (o := { dst := some 79, op := Op.call { callee := Callee.builtin Builtin.append, args := #[Operand.tmp 75, Operand.tmp 78], argTypes := #[23, 23] }, type := 23, pos := "types.go:90", after := #[{ on := 7, ground := Ground.data }, { on := 10, ground := Ground.data }, { on := 5, ground := Ground.chain }], guard := none }) rfl (fun K hK => ?_) AllT.nil)
                      refine step_app rfl (.tmp 75) (.tmp 78) 23 rfl E25 (.slice Ak j ck) j (tflat ((T.take j).map (·.2.1))) rfl (by first | exact HU1.out.2.1.alloc _ | exact HU1.out.2.1) _ 1 1 #[.int .i64 qk, .string qnm, .slice qAn qnn qcn, .slice qAk qnk qck] rfl (by first | exact At.new_at (by simp) | exact hk1'.at_ (At.new_at (by simp)).drew (fun hx => by have h1 := own_lt HLQ.out.1.ownN hx; first | omega | (simp at h1; omega)) | exact hk1'.at_ ((At.new_at (by simp)).alloc _).drew (fun hx => by have h1 := own_lt HLQ.out.1.ownN hx; first | omega | (simp at h1; omega))) rfl (by simp [Value.oneCell']) (by decide) hbig (by decide) ?_; intro g2 cp2 u2 ho2 hk2' hg2 hgl2; have kV : Keep (fun k => (Value.slice Ak j ck).ownBlock = some k) u1 u2 := (by first | exact ((Keep.refl _ u1).alloc _).trans hk2' (fun _ _ x => x) | exact hk2'); have box2 := kV.at_ HU1.out.1 (fun hx => by have h1 := HLQ.out.1.newK tb hx; omega); have bl2 := box2.lt; have bf2 := box2.frozen; have z2 : u2.cell? ⟨tb, 2, none⟩ = some (.slice An j cn) := box2.cell 2; have z3 : u2.cell? ⟨tb, 3, none⟩ = some (.slice Ak j ck) := box2.cell 3; have HF := Lib.hid (HLQ.out.1.app (q := ⟨qk, qnm, qAn, qnn, qcn, qAk, qnk, qck⟩) HL.out.2.1 htb2 HU1.out.2.2.1 HU1.out.2.2.2.1 HU1.out.2.2.2.2 ho2 kV (hg2.imp id (fun h => by first | omega | (simp at h; omega)) : (Value.slice Ak j ck).ownBlock = some g2 ∨ u1.heap.size ≤ g2) HND.out); clear kV box2 ho2 hg2 c2 c3 cl3
                      have hs3 := sx_keep hk2' hxk (sx_alloc hs2 _)
                      refine hK _ _ hs3 (fun _ => ⟨bl2, z2, z3⟩) ?_
                      clear hK K
                      (try simp only [Act.put, List.setIfInBounds_toArray, List.set_cons_zero, List.set_cons_succ])
                      refine wpAnyT_ready (rs := [13]) (by kernel_rfl) (by simp) (AllT.cons (o := { dst := none, op := Op.store 22 (Operand.tmp 80) (Operand.tmp 73), type := 0, pos := "types.go:90", after := #[{ on := 12, ground := Ground.data }, { on := 5, ground := Ground.data }, { on := 11, ground := Ground.chain }, { on := 0, ground := Ground.phase }, { on := 1, ground := Ground.phase }, { on := 2, ground := Ground.phase }, { on := 3, ground := Ground.phase }, { on := 4, ground := Ground.phase }, { on := 5, ground := Ground.phase }, { on := 6, ground := Ground.phase }, { on := 7, ground := Ground.phase }, { on := 8, ground := Ground.textOnly Departure.lateStores }, { on := 9, ground := Ground.textOnly Departure.lateStores }, { on := 10, ground := Ground.textOnly Departure.lateStores }, { on := 11, ground := Ground.textOnly Departure.lateStoresUnsure }], guard := none }) rfl (fun K hK => ?_) AllT.nil)
                      go_simp
                      refine hK _ _ (sx_set hxt hs3 _) (fun h => absurd h (by decide)) ?_
                      clear hK K
                      (try simp only [Act.put, List.setIfInBounds_toArray, List.set_cons_zero, List.set_cons_succ])
                      refine wpAnyT_takeS (i := 14) (oi := { dst := some 81, op := Op.fieldAddr 25 (Operand.tmp 9) 3, type := 0, pos := "types.go:90", after := #[{ on := 0, ground := Ground.phase }, { on := 1, ground := Ground.phase }, { on := 2, ground := Ground.phase }, { on := 3, ground := Ground.phase }, { on := 4, ground := Ground.phase }, { on := 5, ground := Ground.phase }, { on := 6, ground := Ground.phase }, { on := 7, ground := Ground.phase }, { on := 8, ground := Ground.phase }, { on := 9, ground := Ground.phase }, { on := 10, ground := Ground.phase }, { on := 11, ground := Ground.phase }, { on := 12, ground := Ground.phase }, { on := 13, ground := Ground.phase }], guard := none }) (v := .pointer (some ⟨tb, 3, none⟩)) rfl (by kernel_rfl) (by kernel_rfl) (by kernel_rfl) (by decide) (fun _ _ _ h => h) (Or.inl ⟨by rfl, fun w hSw => by obtain ⟨z0, z1, z2, z3, z4, z5⟩ := hSw; go_simp⟩) (sx_set hxt hs3 _) (fun h => absurd h (by decide)) ?_
                      (try simp only [Act.put, List.setIfInBounds_toArray, List.set_cons_zero, List.set_cons_succ])
                      refine wpAnyT_ready (rs := [15]) (by kernel_rfl) (by simp) (AllT.cons (o := { dst := none, op := Op.store 23 (Operand.tmp 81) (Operand.tmp 79), type := 0, pos := "types.go:90", after := #[{ on := 14, ground := Ground.data }, { on := 11, ground := Ground.data }, { on := 13, ground := Ground.chain }, { on := 0, ground := Ground.phase }, { on := 1, ground := Ground.phase }, { on := 2, ground := Ground.phase }, { on := 3, ground := Ground.phase }, { on := 4, ground := Ground.phase }, { on := 5, ground := Ground.phase }, { on := 6, ground := Ground.phase }, { on := 7, ground := Ground.phase }, { on := 8, ground := Ground.phase }, { on := 9, ground := Ground.phase }, { on := 10, ground := Ground.phase }, { on := 11, ground := Ground.phase }, { on := 12, ground := Ground.phase }, { on := 13, ground := Ground.phase }], guard := none }) rfl (fun K hK => ?_) AllT.nil)
                      go_simp
                      refine hK _ _ (sx_set hxt (sx_set hxt hs3 _) _) (fun h => absurd h (by decide)) ?_
                      clear hK K
                      (try simp only [Act.put, List.setIfInBounds_toArray, List.set_cons_zero, List.set_cons_succ])
                      refine wpAnyT_done (by kernel_rfl) ?_ _
                      go_wp2_with fail
                      go_roundg (i - (j + 1))
                      case measure => omega
                      case rel => exact ⟨j + 1, _, _, by go_num, by omega, rfl, HF.out⟩
                    · go_simp
                      refine hK _ _ (sx_alloc (hs1 _) _) (fun _ => ⟨by have := htb.1; simp; omega, Keep.cell (((Keep.refl (fun _ => False) wq).alloc _).alloc _) htb.2.1 (fun x => x), Keep.cell (((Keep.refl (fun _ => False) wq).alloc _).alloc _) htb.2.2 (fun x => x)⟩) ?_
                      clear hK K
                      (try simp only [Act.put, List.setIfInBounds_toArray, List.set_cons_zero, List.set_cons_succ])
                      refine wpAnyT_ready (rs := [5]) (by kernel_rfl) (by simp) (AllT.cons (o := { dst := some 73, op := Op.call { callee := Callee.builtin Builtin.append, args := #[Operand.tmp 69, Operand.tmp 72], argTypes := #[22, 22] }, type := 22, pos := "types.go:90", after := #[{ on := 1, ground := Ground.data }, { on := 4, ground := Ground.data }], guard := none }) rfl (fun K hK => ?_) AllT.nil)
                      refine step_app rfl (.tmp 69) (.tmp 72) 22 rfl E9 (.slice An j cn) j (strs ((T.take j).map (·.1))) rfl (by first | exact (HLQ.out.1.ownN.alloc _).drew | exact ((HLQ.out.1.ownN.alloc _).alloc _).drew) _ 1 1 #[.string s] rfl (by first | exact (At.new_at (by simp)).drew | exact ((At.new_at (by simp)).alloc _).drew) rfl (by simp [Value.oneCell']) (by decide) hbig (by decide) ?_; intro g1 cp1 u1 ho1 hk1' hg1 hgl1; have kU : Keep (fun k => (Value.slice An j cn).ownBlock = some k) wq u1 := (by first | exact (((Keep.refl _ wq).alloc _).drew).trans hk1' (fun _ _ x => x) | exact ((((Keep.refl _ wq).alloc _).alloc _).drew).trans hk1' (fun _ _ x => x)); have box1 := kU.at_ HLQ.out.1.box (fun hx => own_at HLQ.out.1.ownN HLQ.out.1.box (by decide) hx); have c2 : u1.cell? ⟨tb, 2, none⟩ = some (.slice An j cn) := box1.cell 2; have c3 : u1.cell? ⟨tb, 3, none⟩ = some (.slice Ak j ck) := box1.cell 3; have cl3 := box1.lt; have HU1 := Lib.hid (And.intro box1 (And.intro (kU.own HLQ.out.1.ownK (fun g hg hx => own_nk HLQ.out.1.ownN HLQ.out.1.ownK hx hg)) (And.intro ho1 (And.intro kU (hg1.imp id (fun h => by first | omega | (simp at h; omega)) : (Value.slice An j cn).ownBlock = some g1 ∨ wq.heap.size ≤ g1))))); clear ho1 kU hg1 box1
                      have hs2 := sx_keep hk1' hxn (sx_alloc (hs1 _) _)
                      have ht2 : tb < u1.heap.size ∧ u1.cell? ⟨tb, 2, none⟩ = some (.slice An j cn) ∧ u1.cell? ⟨tb, 3, none⟩ = some (.slice Ak j ck) := ⟨cl3, c2, c3⟩
                      refine hK _ _ hs2 (fun _ => ht2) ?_
                      clear hK K
                      (try simp only [Act.put, List.setIfInBounds_toArray, List.set_cons_zero, List.set_cons_succ])
                      refine wpAnyT_takeS (i := 12) (oi := { dst := some 80, op := Op.fieldAddr 25 (Operand.tmp 9) 2, type := 0, pos := "types.go:90", after := #[{ on := 0, ground := Ground.phase }, { on := 1, ground := Ground.phase }, { on := 2, ground := Ground.phase }, { on := 3, ground := Ground.phase }, { on := 4, ground := Ground.phase }, { on := 5, ground := Ground.phase }, { on := 6, ground := Ground.phase }, { on := 7, ground := Ground.phase }, { on := 8, ground := Ground.textOnly Departure.lateStores }, { on := 9, ground := Ground.textOnly Departure.lateStores }, { on := 10, ground := Ground.textOnly Departure.lateStores }, { on := 11, ground := Ground.textOnly Departure.lateStoresUnsure }], guard := none }) (v := .pointer (some ⟨tb, 2, none⟩)) rfl (by kernel_rfl) (by kernel_rfl) (by kernel_rfl) (by decide) (fun _ _ _ h => h) (Or.inl ⟨by rfl, fun w hSw => by obtain ⟨z0, z1, z2, z3, z4, z5⟩ := hSw; go_simp⟩) hs2 (fun _ => ht2) ?_
                      (try simp only [Act.put, List.setIfInBounds_toArray, List.set_cons_zero, List.set_cons_succ])
                      refine wpAnyT_ready (rs := [11]) (by kernel_rfl) (by simp) (AllT.cons (o := { dst := some 79, op := Op.call { callee := Callee.builtin Builtin.append, args := #[Operand.tmp 75, Operand.tmp 78], argTypes := #[23, 23] }, type := 23, pos := "types.go:90", after := #[{ on := 7, ground := Ground.data }, { on := 10, ground := Ground.data }, { on := 5, ground := Ground.chain }], guard := none }) rfl (fun K hK => ?_) AllT.nil)
                      refine step_app rfl (.tmp 75) (.tmp 78) 23 rfl E25 (.slice Ak j ck) j (tflat ((T.take j).map (·.2.1))) rfl (by first | exact HU1.out.2.1.alloc _ | exact HU1.out.2.1) _ 1 1 #[.int .i64 qk, .string qnm, .slice qAn qnn qcn, .slice qAk qnk qck] rfl (by first | exact At.new_at (by simp) | exact hk1'.at_ (At.new_at (by simp)).drew (fun hx => by have h1 := own_lt HLQ.out.1.ownN hx; first | omega | (simp at h1; omega)) | exact hk1'.at_ ((At.new_at (by simp)).alloc _).drew (fun hx => by have h1 := own_lt HLQ.out.1.ownN hx; first | omega | (simp at h1; omega))) rfl (by simp [Value.oneCell']) (by decide) hbig (by decide) ?_; intro g2 cp2 u2 ho2 hk2' hg2 hgl2; have kV : Keep (fun k => (Value.slice Ak j ck).ownBlock = some k) u1 u2 := (by first | exact ((Keep.refl _ u1).alloc _).trans hk2' (fun _ _ x => x) | exact hk2'); have box2 := kV.at_ HU1.out.1 (fun hx => by have h1 := HLQ.out.1.newK tb hx; omega); have bl2 := box2.lt; have bf2 := box2.frozen; have z2 : u2.cell? ⟨tb, 2, none⟩ = some (.slice An j cn) := box2.cell 2; have z3 : u2.cell? ⟨tb, 3, none⟩ = some (.slice Ak j ck) := box2.cell 3; have HF := Lib.hid (HLQ.out.1.app (q := ⟨qk, qnm, qAn, qnn, qcn, qAk, qnk, qck⟩) HL.out.2.1 htb2 HU1.out.2.2.1 HU1.out.2.2.2.1 HU1.out.2.2.2.2 ho2 kV (hg2.imp id (fun h => by first | omega | (simp at h; omega)) : (Value.slice Ak j ck).ownBlock = some g2 ∨ u1.heap.size ≤ g2) HND.out); clear kV box2 ho2 hg2 c2 c3 cl3
                      have hs3 := sx_keep hk2' hxk hs2
                      refine hK _ _ hs3 (fun _ => ⟨bl2, z2, z3⟩) ?_
                      clear hK K
                      (try simp only [Act.put, List.setIfInBounds_toArray, List.set_cons_zero, List.set_cons_succ])
                      refine wpAnyT_ready (rs := [13]) (by kernel_rfl) (by simp) (AllT.cons (o := { dst := none, op := Op.store 22 (Operand.tmp 80) (Operand.tmp 73), type := 0, pos := "types.go:90", after := #[{ on := 12, ground := Ground.data }, { on := 5, ground := Ground.data }, { on := 11, ground := Ground.chain }, { on := 0, ground := Ground.phase }, { on := 1, ground := Ground.phase }, { on := 2, ground := Ground.phase }, { on := 3, ground := Ground.phase }, { on := 4, ground := Ground.phase }, { on := 5, ground := Ground.phase }, { on := 6, ground := Ground.phase }, { on := 7, ground := Ground.phase }, { on := 8, ground := Ground.textOnly Departure.lateStores }, { on := 9, ground := Ground.textOnly Departure.lateStores }, { on := 10, ground := Ground.textOnly Departure.lateStores }, { on := 11, ground := Ground.textOnly Departure.lateStoresUnsure }], guard := none }) rfl (fun K hK => ?_) AllT.nil)
                      go_simp
                      refine hK _ _ (sx_set hxt hs3 _) (fun h => absurd h (by decide)) ?_
                      clear hK K
                      (try simp only [Act.put, List.setIfInBounds_toArray, List.set_cons_zero, List.set_cons_succ])
                      refine wpAnyT_takeS (i := 14) (oi := { dst := some 81, op := Op.fieldAddr 25 (Operand.tmp 9) 3, type := 0, pos := "types.go:90", after := #[{ on := 0, ground := Ground.phase }, { on := 1, ground := Ground.phase }, { on := 2, ground := Ground.phase }, { on := 3, ground := Ground.phase }, { on := 4, ground := Ground.phase }, { on := 5, ground := Ground.phase }, { on := 6, ground := Ground.phase }, { on := 7, ground := Ground.phase }, { on := 8, ground := Ground.phase }, { on := 9, ground := Ground.phase }, { on := 10, ground := Ground.phase }, { on := 11, ground := Ground.phase }, { on := 12, ground := Ground.phase }, { on := 13, ground := Ground.phase }], guard := none }) (v := .pointer (some ⟨tb, 3, none⟩)) rfl (by kernel_rfl) (by kernel_rfl) (by kernel_rfl) (by decide) (fun _ _ _ h => h) (Or.inl ⟨by rfl, fun w hSw => by obtain ⟨z0, z1, z2, z3, z4, z5⟩ := hSw; go_simp⟩) (sx_set hxt hs3 _) (fun h => absurd h (by decide)) ?_
                      (try simp only [Act.put, List.setIfInBounds_toArray, List.set_cons_zero, List.set_cons_succ])
                      refine wpAnyT_ready (rs := [15]) (by kernel_rfl) (by simp) (AllT.cons (o := { dst := none, op := Op.store 23 (Operand.tmp 81) (Operand.tmp 79), type := 0, pos := "types.go:90", after := #[{ on := 14, ground := Ground.data }, { on := 11, ground := Ground.data }, { on := 13, ground := Ground.chain }, { on := 0, ground := Ground.phase }, { on := 1, ground := Ground.phase }, { on := 2, ground := Ground.phase }, { on := 3, ground := Ground.phase }, { on := 4, ground := Ground.phase }, { on := 5, ground := Ground.phase }, { on := 6, ground := Ground.phase }, { on := 7, ground := Ground.phase }, { on := 8, ground := Ground.phase }, { on := 9, ground := Ground.phase }, { on := 10, ground := Ground.phase }, { on := 11, ground := Ground.phase }, { on := 12, ground := Ground.phase }, { on := 13, ground := Ground.phase }], guard := none }) rfl (fun K hK => ?_) AllT.nil)
                      go_simp
                      refine hK _ _ (sx_set hxt (sx_set hxt hs3 _) _) (fun h => absurd h (by decide)) ?_
                      clear hK K
                      (try simp only [Act.put, List.setIfInBounds_toArray, List.set_cons_zero, List.set_cons_succ])
                      refine wpAnyT_done (by kernel_rfl) ?_ _
                      go_wp2_with fail
                      go_roundg (i - (j + 1))
                      case measure => omega
                      case rel => exact ⟨j + 1, _, _, by go_num, by omega, rfl, HF.out⟩
                  · go_simp
                    have hs1 := fun o => sx_alloc hsx o
                    have ht1 : ∀ o, tb < (wq.alloc o).heap.size ∧ (wq.alloc o).cell? ⟨tb, 2, none⟩ = some (.slice An j cn) ∧ (wq.alloc o).cell? ⟨tb, 3, none⟩ = some (.slice Ak j ck) := fun o => ⟨by have := htb.1; simp; omega, Keep.cell ((Keep.refl (fun _ => False) wq).alloc o) htb.2.1 (fun x => x), Keep.cell ((Keep.refl (fun _ => False) wq).alloc o) htb.2.2 (fun x => x)⟩
                    refine hK _ _ (hs1 _) (fun _ => ht1 _) ?_
                    clear hK K
                    (try simp only [Act.put, List.setIfInBounds_toArray, List.set_cons_zero, List.set_cons_succ])
                    refine wpAnyT_ready (rs := [4]) (by kernel_rfl) (by simp) (AllT.cons (o := { dst := some 72, op := Op.buildSlice 22 1 #[(0, Operand.tmp 71)], type := 22, pos := "types.go:90", after := #[{ on := 3, ground := Ground.data }], guard := none }) rfl (fun K hK => ?_) AllT.nil)
                    go_simp
                    refine hK _ _ (sx_alloc (hs1 _) _) (fun _ => ⟨by have := htb.1; simp; omega, Keep.cell (((Keep.refl (fun _ => False) wq).alloc _).alloc _) htb.2.1 (fun x => x), Keep.cell (((Keep.refl (fun _ => False) wq).alloc _).alloc _) htb.2.2 (fun x => x)⟩) ?_
                    clear hK K
                    (try simp only [Act.put, List.setIfInBounds_toArray, List.set_cons_zero, List.set_cons_succ])
                    refine wpAnyT_ready (rs := [5]) (by kernel_rfl) (by simp) (AllT.cons (o := { dst := some 73, op := Op.call { callee := Callee.builtin Builtin.append, args := #[Operand.tmp 69, Operand.tmp 72], argTypes := #[22, 22] }, type := 22, pos := "types.go:90", after := #[{ on := 1, ground := Ground.data }, { on := 4, ground := Ground.data }], guard := none }) rfl (fun K hK => ?_) AllT.nil)
                    refine step_app rfl (.tmp 69) (.tmp 72) 22 rfl E9 (.slice An j cn) j (strs ((T.take j).map (·.1))) rfl (by first | exact (HLQ.out.1.ownN.alloc _).drew | exact ((HLQ.out.1.ownN.alloc _).alloc _).drew) _ 1 1 #[.string s] rfl (by first | exact (At.new_at (by simp)).drew | exact ((At.new_at (by simp)).alloc _).drew) rfl (by simp [Value.oneCell']) (by decide) hbig (by decide) ?_; intro g1 cp1 u1 ho1 hk1' hg1 hgl1; have kU : Keep (fun k => (Value.slice An j cn).ownBlock = some k) wq u1 := (by first | exact (((Keep.refl _ wq).alloc _).drew).trans hk1' (fun _ _ x => x) | exact ((((Keep.refl _ wq).alloc _).alloc _).drew).trans hk1' (fun _ _ x => x)); have box1 := kU.at_ HLQ.out.1.box (fun hx => own_at HLQ.out.1.ownN HLQ.out.1.box (by decide) hx); have c2 : u1.cell? ⟨tb, 2, none⟩ = some (.slice An j cn) := box1.cell 2; have c3 : u1.cell? ⟨tb, 3, none⟩ = some (.slice Ak j ck) := box1.cell 3; have cl3 := box1.lt; have HU1 := Lib.hid (And.intro box1 (And.intro (kU.own HLQ.out.1.ownK (fun g hg hx => own_nk HLQ.out.1.ownN HLQ.out.1.ownK hx hg)) (And.intro ho1 (And.intro kU (hg1.imp id (fun h => by first | omega | (simp at h; omega)) : (Value.slice An j cn).ownBlock = some g1 ∨ wq.heap.size ≤ g1))))); clear ho1 kU hg1 box1
                    have hs2 := sx_keep hk1' hxn (sx_alloc (hs1 _) _)
                    have ht2 : tb < u1.heap.size ∧ u1.cell? ⟨tb, 2, none⟩ = some (.slice An j cn) ∧ u1.cell? ⟨tb, 3, none⟩ = some (.slice Ak j ck) := ⟨cl3, c2, c3⟩
                    refine hK _ _ hs2 (fun _ => ht2) ?_
                    clear hK K
                    (try simp only [Act.put, List.setIfInBounds_toArray, List.set_cons_zero, List.set_cons_succ])
                    refine wpAnyT_takeS (i := 12) (oi := { dst := some 80, op := Op.fieldAddr 25 (Operand.tmp 9) 2, type := 0, pos := "types.go:90", after := #[{ on := 0, ground := Ground.phase }, { on := 1, ground := Ground.phase }, { on := 2, ground := Ground.phase }, { on := 3, ground := Ground.phase }, { on := 4, ground := Ground.phase }, { on := 5, ground := Ground.phase }, { on := 6, ground := Ground.phase }, { on := 7, ground := Ground.phase }, { on := 8, ground := Ground.textOnly Departure.lateStores }, { on := 9, ground := Ground.textOnly Departure.lateStores }, { on := 10, ground := Ground.textOnly Departure.lateStores }, { on := 11, ground := Ground.textOnly Departure.lateStoresUnsure }], guard := none }) (v := .pointer (some ⟨tb, 2, none⟩)) rfl (by kernel_rfl) (by kernel_rfl) (by kernel_rfl) (by decide) (fun _ _ _ h => h) (Or.inl ⟨by rfl, fun w hSw => by obtain ⟨z0, z1, z2, z3, z4, z5⟩ := hSw; go_simp⟩) hs2 (fun _ => ht2) ?_
                    (try simp only [Act.put, List.setIfInBounds_toArray, List.set_cons_zero, List.set_cons_succ])
                    refine wpAnyT_ready (rs := [11]) (by kernel_rfl) (by simp) (AllT.cons (o := { dst := some 79, op := Op.call { callee := Callee.builtin Builtin.append, args := #[Operand.tmp 75, Operand.tmp 78], argTypes := #[23, 23] }, type := 23, pos := "types.go:90", after := #[{ on := 7, ground := Ground.data }, { on := 10, ground := Ground.data }, { on := 5, ground := Ground.chain }], guard := none }) rfl (fun K hK => ?_) AllT.nil)
                    refine step_app rfl (.tmp 75) (.tmp 78) 23 rfl E25 (.slice Ak j ck) j (tflat ((T.take j).map (·.2.1))) rfl (by first | exact HU1.out.2.1.alloc _ | exact HU1.out.2.1) _ 1 1 #[.int .i64 qk, .string qnm, .slice qAn qnn qcn, .slice qAk qnk qck] rfl (by first | exact At.new_at (by simp) | exact hk1'.at_ (At.new_at (by simp)).drew (fun hx => by have h1 := own_lt HLQ.out.1.ownN hx; first | omega | (simp at h1; omega)) | exact hk1'.at_ ((At.new_at (by simp)).alloc _).drew (fun hx => by have h1 := own_lt HLQ.out.1.ownN hx; first | omega | (simp at h1; omega))) rfl (by simp [Value.oneCell']) (by decide) hbig (by decide) ?_; intro g2 cp2 u2 ho2 hk2' hg2 hgl2; have kV : Keep (fun k => (Value.slice Ak j ck).ownBlock = some k) u1 u2 := (by first | exact ((Keep.refl _ u1).alloc _).trans hk2' (fun _ _ x => x) | exact hk2'); have box2 := kV.at_ HU1.out.1 (fun hx => by have h1 := HLQ.out.1.newK tb hx; omega); have bl2 := box2.lt; have bf2 := box2.frozen; have z2 : u2.cell? ⟨tb, 2, none⟩ = some (.slice An j cn) := box2.cell 2; have z3 : u2.cell? ⟨tb, 3, none⟩ = some (.slice Ak j ck) := box2.cell 3; have HF := Lib.hid (HLQ.out.1.app (q := ⟨qk, qnm, qAn, qnn, qcn, qAk, qnk, qck⟩) HL.out.2.1 htb2 HU1.out.2.2.1 HU1.out.2.2.2.1 HU1.out.2.2.2.2 ho2 kV (hg2.imp id (fun h => by first | omega | (simp at h; omega)) : (Value.slice Ak j ck).ownBlock = some g2 ∨ u1.heap.size ≤ g2) HND.out); clear kV box2 ho2 hg2 c2 c3 cl3
                    have hs3 := sx_keep hk2' hxk hs2
                    refine hK _ _ hs3 (fun _ => ⟨bl2, z2, z3⟩) ?_
                    clear hK K
                    (try simp only [Act.put, List.setIfInBounds_toArray, List.set_cons_zero, List.set_cons_succ])
                    refine wpAnyT_ready (rs := [13]) (by kernel_rfl) (by simp) (AllT.cons (o := { dst := none, op := Op.store 22 (Operand.tmp 80) (Operand.tmp 73), type := 0, pos := "types.go:90", after := #[{ on := 12, ground := Ground.data }, { on := 5, ground := Ground.data }, { on := 11, ground := Ground.chain }, { on := 0, ground := Ground.phase }, { on := 1, ground := Ground.phase }, { on := 2, ground := Ground.phase }, { on := 3, ground := Ground.phase }, { on := 4, ground := Ground.phase }, { on := 5, ground := Ground.phase }, { on := 6, ground := Ground.phase }, { on := 7, ground := Ground.phase }, { on := 8, ground := Ground.textOnly Departure.lateStores }, { on := 9, ground := Ground.textOnly Departure.lateStores }, { on := 10, ground := Ground.textOnly Departure.lateStores }, { on := 11, ground := Ground.textOnly Departure.lateStoresUnsure }], guard := none }) rfl (fun K hK => ?_) AllT.nil)
                    go_simp
                    refine hK _ _ (sx_set hxt hs3 _) (fun h => absurd h (by decide)) ?_
                    clear hK K
                    (try simp only [Act.put, List.setIfInBounds_toArray, List.set_cons_zero, List.set_cons_succ])
                    refine wpAnyT_takeS (i := 14) (oi := { dst := some 81, op := Op.fieldAddr 25 (Operand.tmp 9) 3, type := 0, pos := "types.go:90", after := #[{ on := 0, ground := Ground.phase }, { on := 1, ground := Ground.phase }, { on := 2, ground := Ground.phase }, { on := 3, ground := Ground.phase }, { on := 4, ground := Ground.phase }, { on := 5, ground := Ground.phase }, { on := 6, ground := Ground.phase }, { on := 7, ground := Ground.phase }, { on := 8, ground := Ground.phase }, { on := 9, ground := Ground.phase }, { on := 10, ground := Ground.phase }, { on := 11, ground := Ground.phase }, { on := 12, ground := Ground.phase }, { on := 13, ground := Ground.phase }], guard := none }) (v := .pointer (some ⟨tb, 3, none⟩)) rfl (by kernel_rfl) (by kernel_rfl) (by kernel_rfl) (by decide) (fun _ _ _ h => h) (Or.inl ⟨by rfl, fun w hSw => by obtain ⟨z0, z1, z2, z3, z4, z5⟩ := hSw; go_simp⟩) (sx_set hxt hs3 _) (fun h => absurd h (by decide)) ?_
                    (try simp only [Act.put, List.setIfInBounds_toArray, List.set_cons_zero, List.set_cons_succ])
                    refine wpAnyT_ready (rs := [15]) (by kernel_rfl) (by simp) (AllT.cons (o := { dst := none, op := Op.store 23 (Operand.tmp 81) (Operand.tmp 79), type := 0, pos := "types.go:90", after := #[{ on := 14, ground := Ground.data }, { on := 11, ground := Ground.data }, { on := 13, ground := Ground.chain }, { on := 0, ground := Ground.phase }, { on := 1, ground := Ground.phase }, { on := 2, ground := Ground.phase }, { on := 3, ground := Ground.phase }, { on := 4, ground := Ground.phase }, { on := 5, ground := Ground.phase }, { on := 6, ground := Ground.phase }, { on := 7, ground := Ground.phase }, { on := 8, ground := Ground.phase }, { on := 9, ground := Ground.phase }, { on := 10, ground := Ground.phase }, { on := 11, ground := Ground.phase }, { on := 12, ground := Ground.phase }, { on := 13, ground := Ground.phase }], guard := none }) rfl (fun K hK => ?_) AllT.nil)
                    go_simp
                    refine hK _ _ (sx_set hxt (sx_set hxt hs3 _) _) (fun h => absurd h (by decide)) ?_
                    clear hK K
                    (try simp only [Act.put, List.setIfInBounds_toArray, List.set_cons_zero, List.set_cons_succ])
                    refine wpAnyT_done (by kernel_rfl) ?_ _
                    go_wp2_with fail
                    go_roundg (i - (j + 1))
                    case measure => omega
                    case rel => exact ⟨j + 1, _, _, by go_num, by omega, rfl, HF.out⟩
            · have hji : j = i := by omega
              subst hji
              have b0 := hL.box.cell 0
              have b1 := hL.box.cell 1
              simp only [List.getElem?_toArray, List.getElem?_cons_succ, List.getElem?_cons_zero] at b0 b1
              have rf0 := ra.frozen 0
              have rf1 := ra.frozen 1
              have rf2 := ra.frozen 2
              have rf3 := ra.frozen 3
              have rc0 := ra.cell 0
              have rc1 := ra.cell 1
              have rc2 := ra.cell 2
              have rc3 := ra.cell 3
              have rl := ra.lt
              simp only [List.getElem?_toArray, List.getElem?_cons_succ, List.getElem?_cons_zero] at rc0 rc1 rc2 rc3
              have hkw2 : Keep (fun _ => False) w wr := (HB.out.2.1.trans HB.out.1 (fun _ _ x => x)).weak hL.keep (fun g hg => by have h1 := HB.out.2.1.size; rw [hg, ← HTE.out]; exact h1)
              have hkf := Keep.set4 (Keep.refl (fun g => g = rb) wr) (.inl rfl) (.int .i64 5) (.string ⟨#[]⟩) (.slice An j cn) (.slice Ak j ck)
              have hwf : Keep (fun _ => False) w ((((wr.setCell ⟨rb, 0, none⟩ (.int .i64 5)).setCell ⟨rb, 1, none⟩ (.string ⟨#[]⟩)).setCell ⟨rb, 2, none⟩ (.slice An j cn)).setCell ⟨rb, 3, none⟩ (.slice Ak j ck)) := hkw2.weak hkf (fun g hg => by rw [hg]; have := HRE.out; omega)
              obtain ⟨hn, hn', hrsl⟩ := HN.out
              have hfin := hL.fin (fun q hq => by have h1 := H.out.2.2.2.1 q hq; have h2 := HRE.out; omega) HB.out.2.2.2.2 H1.out.1 (by have h1 := HB.out.2.1.size; have h2 := HB.out.1.size; omega) (Nat.lt_of_lt_of_le HB.out.2.2.1.lt HB.out.1.size) hkf hwf (by omega) hn (by omega) (fun s hs => HR.out.1.ok s (by rw [List.take_of_length_le (by omega)]; exact hs))
              have hrbt2 : ¬ tb = rb := fun e => hrbt e.symm
              have HF := Lib.hid (And.intro hfin hwf)
              clear hfin hwf hkf hkw2 ra hL hrdr HRa hn hn' hrsl
              go_wp2_with fail
              (try simp only [Exit.inBlock, Exit.then])
              refine bodyPost_ret (by simp [results, Tryd.results76, go_sem, rc0, rc1, rc2, rc3]; try rfl) rfl ?_
              exact ⟨OptP.yes (r := ⟨5, ⟨#[]⟩, An, j, cn, Ak, j, ck⟩) HF.out.1.1 HF.out.1.2, HF.out.2⟩
  · have hr : recT names kids = none := recT_none (.inl (by omega))
    have d1 : ((n : Int) == (n' : Int)) = false := by rw [beq_eq_false_iff_ne]; omega
    have HK := Lib.hid (And.intro hr k1)
    clear hr k1 a1 H HN hn hn' hrsl
    go_enter Tryd.func76, Tryd.ntmps76
    go_wp2_with fail
    (try simp only [Exit.inBlock, Exit.then])
    refine bodyPost_ret (by simp [results, Tryd.results76, go_sem]; try rfl) rfl ?_
    exact ⟨OptP.no HK.out.1 tv0, HK.out.2⟩
end Go.Proofs.YtbanpohholnkaaaDoor
