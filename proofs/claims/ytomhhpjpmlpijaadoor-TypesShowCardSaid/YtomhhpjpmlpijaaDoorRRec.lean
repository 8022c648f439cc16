/-
  A record's fields put in one by one, in plain Lean; slices cut. Conditions: none.
-/
import Derived.Test.YtomhhpjpmlpijaaDoorRec
namespace Go.Proofs.YtomhhpjpmlpijaaDoor
open Go.RowKit

theorem insF_at {x : Ft} : ∀ {l : List Ft} {k : Nat}, (∀ (j : Nat) (y : Ft), j < k → l[j]? = some y → ltS y.1 x.1 = true) → (∀ y, l[k]? = some y → ltS y.1 x.1 = false) → k ≤ l.length → insF x l = l.take k ++ x :: l.drop k
  | [], k, _, _, hk => by
    have : k = 0 := by simpa using hk
    subst this
    rfl
  | y :: l, 0, _, h2, _ => by
    have := h2 y rfl
    simp [insF, this]
  | y :: l, k + 1, h1, h2, hk => by
    have := h1 0 y (by omega) rfl
    rw [insF, if_pos this, insF_at (k := k) (fun j z hj hz => h1 (j + 1) z (by omega) (by simpa using hz)) (fun z hz => h2 z (by simpa using hz)) (by simpa using hk)]
    rfl
structure RecI (names : List ByteArray) (kids : List Ty) (i : Nat) (l : List Ft) : Prop where
  strict : Strict l
  perm : l.Perm ((names.zip kids).take i)
  ok : ∀ s ∈ names.take i, nameB s = true
theorem RecI.zero (names : List ByteArray) (kids : List Ty) : RecI names kids 0 [] := ⟨List.Pairwise.nil, by simp, by simp⟩
theorem RecI.len {names : List ByteArray} {kids : List Ty} {i : Nat} {l : List Ft} (h : RecI names kids i l) (hl : names.length = kids.length) (hi : i ≤ names.length) : l.length = i := by
  have := h.perm.length_eq
  simp only [List.length_take, List.length_zip] at this
  omega
theorem RecI.fin {names : List ByteArray} {kids : List Ty} {l : List Ft} (h : RecI names kids names.length l) (hl : names.length = kids.length) (h16 : names.length ≤ 16) : recT names kids = some (recOf l) := by
  refine recT_some hl h16 ?_ ?_ h.strict
  · rw [List.all_eq_true]
    intro s hs
    exact h.ok s (by simpa using hs)
  · have := h.perm
    rwa [List.take_of_length_le (by simp; omega)] at this
theorem RecI.names {names : List ByteArray} {kids : List Ty} {i : Nat} {l : List Ft} (h : RecI names kids i l) {y : Ft} (hy : y ∈ l) : ∃ q, q < i ∧ names[q]? = some y.1 := by
  have h1 := h.perm.mem_iff.1 hy
  obtain ⟨q, hq⟩ := List.getElem?_of_mem h1
  rw [List.getElem?_take] at hq
  split at hq
  · rename_i hqi
    refine ⟨q, hqi, ?_⟩
    have := List.getElem?_zip_eq_some.1 hq
    exact this.1
  · cases hq
theorem RecI.dup {names : List ByteArray} {kids : List Ty} {i : Nat} {l : List Ft} (h : RecI names kids i l) {y : Ft} {s : ByteArray} (hy : y ∈ l) (hs : names[i]? = some s) (e : y.1 = s) : recT names kids = none := by
  refine recT_none (.inr (.inr (.inr fun hnd => ?_)))
  obtain ⟨q, hq, hn⟩ := h.names hy
  have hi := (List.getElem?_eq_some_iff.1 hs).1
  have := (List.pairwise_iff_getElem.1 hnd) q i (by omega) hi hq
  rw [(List.getElem?_eq_some_iff.1 hn).2, (List.getElem?_eq_some_iff.1 hs).2] at this
  exact this e
theorem RecI.bad {names : List ByteArray} {kids : List Ty} {i : Nat} {s : ByteArray} (hs : names[i]? = some s) (e : nameB s = false) : recT names kids = none :=
  recT_none (.inr (.inr (.inl ⟨s, List.mem_of_getElem? hs, e⟩)))
theorem RecI.step {names : List ByteArray} {kids : List Ty} {i k : Nat} {l : List Ft} {s : ByteArray} {t : Ty} (h : RecI names kids i l) (hs : names[i]? = some s) (ht : kids[i]? = some t) (hn : nameB s = true) (hk : k ≤ l.length)
    (h1 : ∀ (j : Nat) (y : Ft), j < k → l[j]? = some y → ltS y.1 s = true) (h2 : ∀ y, l[k]? = some y → ltS y.1 s = false ∧ y.1 ≠ s) : RecI names kids (i + 1) (l.take k ++ (s, t) :: l.drop k) := by
  have he : insF (s, t) l = l.take k ++ (s, t) :: l.drop k := insF_at h1 (fun y hy => (h2 y hy).1) hk
  have hne : ∀ y ∈ l, y.1 ≠ (s, t).1 := by
    intro y hy e
    obtain ⟨q, hq⟩ := List.getElem?_of_mem hy
    rcases Nat.lt_trichotomy q k with hlt | rfl | hgt
    · have := h1 q y hlt hq
      rw [e, ltS_irrefl] at this
      cases this
    · exact (h2 y hq).2 e
    · have hql := (List.getElem?_eq_some_iff.1 hq).1
      obtain ⟨z, hz⟩ : ∃ z, l[k]? = some z := ⟨_, List.getElem?_eq_getElem (by omega)⟩
      have hzy : ltS z.1 y.1 = true := by
        have := (List.pairwise_iff_getElem.1 h.strict) k q (by omega) hql hgt
        rw [(List.getElem?_eq_some_iff.1 hz).2, (List.getElem?_eq_some_iff.1 hq).2] at this
        exact this
      have h3 := (h2 z hz).1
      rw [e] at hzy
      simp only at hzy
      rw [hzy] at h3
      cases h3
  have hzip : (names.zip kids)[i]? = some (s, t) := List.getElem?_zip_eq_some.2 ⟨hs, ht⟩
  refine ⟨?_, ?_, ?_⟩
  · rw [← he]
    exact insF_strict _ _ h.strict hne
  · rw [← he, List.take_add_one, hzip]
    exact (insF_perm _ _).trans (((h.perm.cons _)).trans (List.perm_append_comm (l₁ := [(s, t)])))
  · intro x hx
    rw [List.take_add_one, hs] at hx
    rcases List.mem_append.1 hx with hx | hx
    · exact h.ok x hx
    · have : x = s := by simpa using hx
      rw [this]; exact hn
theorem Rd.cutL {w : World} {X : Nat → Prop} {size n c j : Nat} {A : Option Addr} {xs : List Value} (h : Rd w X size (.slice A n c) n xs) (hj : j ≤ n) : Rd w X size (.slice A j c) j (xs.take (j * size)) := by
  obtain ⟨hl, A', c', hv, hc, hr⟩ := h
  simp only [Value.slice.injEq, true_and] at hv
  obtain ⟨rfl, rfl⟩ := hv
  have hm : j * size ≤ n * size := Nat.mul_le_mul_right _ hj
  refine ⟨by rw [List.length_take]; omega, A, c, rfl, by omega, fun h0 => ?_⟩
  obtain ⟨b, o, hA, hb, hX, hcell⟩ := hr (by omega)
  exact ⟨b, o, hA, hb, hX, fun q hq => by rw [hcell q (by omega), List.getElem?_take, if_pos hq]⟩
theorem Rd.cutR {w : World} {X : Nat → Prop} {size n c j : Nat} {A : Option Addr} {xs : List Value} (h : Rd w X size (.slice A n c) n xs) (hj : j ≤ n) : Rd w X size (.slice (if c = j then A else A.map (·.add (j * size))) (n - j) (c - j)) (n - j) (xs.drop (j * size)) := by
  obtain ⟨hl, A', c', hv, hc, hr⟩ := h
  simp only [Value.slice.injEq, true_and] at hv
  obtain ⟨rfl, rfl⟩ := hv
  have hm : (n - j) * size = n * size - j * size := Nat.sub_mul _ _ _
  have hm2 : j * size ≤ n * size := Nat.mul_le_mul_right _ hj
  refine ⟨by rw [List.length_drop]; omega, _, c - j, rfl, by omega, fun h0 => ?_⟩
  obtain ⟨b, o, rfl, hb, hX, hcell⟩ := hr (by omega)
  refine ⟨b, o + j * size, ?_, hb, hX, fun q hq => ?_⟩
  · rw [if_neg (by omega)]
    simp [Addr_lit]
  · rw [Nat.add_assoc, hcell _ (by omega), List.getElem?_drop]
theorem Rd.of_at {w : World} {X : Nat → Prop} {size n c b : Nat} {e : TypeId} {cs : Array Value} (h : At w b e cs) (hX : ¬ X b) (hs : cs.size = n * size) (hn : n ≤ c) : Rd w X size (.slice (some ⟨b, 0, none⟩) n c) n cs.toList :=
  ⟨by simpa using hs, _, _, rfl, hn, fun _ => ⟨b, 0, rfl, h.lt, hX, fun j _ => by rw [Nat.zero_add, h.cell]; simp⟩⟩
end Go.Proofs.YtomhhpjpmlpijaaDoor
