/-
  What the laws say, in plain Lean. Conditions: none; no program.
-/
import Derived.Test.YtbanpohholnkaaaDoorLits
import Derived.Test.YtbanpohholnkaaaDoorInj
namespace Go.Proofs.YtbanpohholnkaaaDoor

theorem normL_append : ∀ (a b : List Ty), normL (a ++ b) = (normL a).bind fun a' => (normL b).map fun b' => a' ++ b'
  | [], b => by
    simp only [List.nil_append, normL, Option.bind_some]
    cases normL b <;> simp
  | x :: a, b => by
    simp only [List.cons_append, normL, normL_append a b]
    cases normT x with
    | none => simp
    | some x' =>
      cases normL a with
      | none => simp
      | some a' => cases normL b <;> simp
theorem recT_swap {n1 n2 : List ByteArray} {k1 k2 : List Ty} (h1 : n1.length = k1.length) (h2 : n2.length = k2.length) : recT (n1 ++ n2) (k1 ++ k2) = recT (n2 ++ n1) (k2 ++ k1) := by
  have ho : ∀ {n1 n2 : List ByteArray} {k1 k2 : List Ty}, n1.length = k1.length → n2.length = k2.length → recOk (n1 ++ n2) (k1 ++ k2) = true → recOk (n2 ++ n1) (k2 ++ k1) = true := fun {n1 n2 k1 k2} h1 h2 h => by
    obtain ⟨a, b, c, d⟩ := recOk_iff.1 h
    refine recOk_iff.2 ⟨?_, ?_, fun s hs => c s ?_, ?_⟩
    · simp only [List.length_append] at a ⊢; omega
    · simp only [List.length_append] at b ⊢; omega
    · simp only [List.mem_append] at hs ⊢; exact hs.symm
    · exact (List.perm_append_comm.nodup_iff).1 d
  have hz : ∀ {n1 n2 : List ByteArray} {k1 k2 : List Ty}, n1.length = k1.length → (n1 ++ n2).zip (k1 ++ k2) = n1.zip k1 ++ n2.zip k2 := fun h => List.zip_append h
  unfold recT
  by_cases hc : recOk (n1 ++ n2) (k1 ++ k2) = true
  · rw [if_pos hc, if_pos (ho h1 h2 hc)]
    congr 2
    obtain ⟨a, b, c, d⟩ := recOk_iff.1 hc
    obtain ⟨a', b', c', d'⟩ := recOk_iff.1 (ho h1 h2 hc)
    refine strict_unique (sortT_strict _ (by rw [zip_fst a]; exact d)) (sortT_strict _ (by rw [zip_fst a']; exact d')) ?_
    refine ((sortT_perm _).trans ?_).trans (sortT_perm _).symm
    rw [hz h1, hz h2]
    exact List.perm_append_comm
  · rw [if_neg hc, if_neg fun h => hc (ho h2 h1 h)]
/-- A record's fields turned round. -/
theorem fields_turn {nm nm' : ByteArray} {n1 n2 : List ByteArray} {k1 k2 : List Ty} (h1 : n1.length = k1.length) (h2 : n2.length = k2.length) : NormT (.mk 5 nm (n1 ++ n2) (k1 ++ k2)) = NormT (.mk 5 nm' (n2 ++ n1) (k2 ++ k1)) := by
  unfold NormT
  have es : (Ty.mk 5 nm (n1 ++ n2) (k1 ++ k2)).size = (Ty.mk 5 nm' (n2 ++ n1) (k2 ++ k1)).size := by
    simp only [Ty.size, sizeL_append]; omega
  have eh : (Ty.mk 5 nm (n1 ++ n2) (k1 ++ k2)).ht = (Ty.mk 5 nm' (n2 ++ n1) (k2 ++ k1)).ht := by
    simp only [Ty.ht, htL_append]; omega
  rw [es, eh]
  congr 1
  rw [normT_eq, normT_eq]
  simp only [Ty.kind, Ty.names, Ty.kids]
  unfold headT
  rw [if_neg (by omega), if_pos rfl, if_neg (by omega), if_pos rfl, normL_append, normL_append]
  cases e1 : normL k1 with
  | none => cases normL k2 <;> simp
  | some l1 =>
    cases e2 : normL k2 with
    | none => simp
    | some l2 =>
      simp only [Option.bind_some, Option.map_some]
      exact recT_swap (by rw [normL_length e1, h1]) (by rw [normL_length e2, h2])
theorem NF.kinds {t : Ty} (h : NF t) : 0 ≤ t.kind ∧ t.kind ≤ 7 := by
  obtain ⟨_, hh⟩ := h.head
  rcases hh with ⟨h1, h2, _⟩ | ⟨h5, _⟩ | ⟨h6, _⟩ | ⟨h7, _⟩ <;> omega
theorem NF.uni {t : Ty} (h : NF t) (h7 : t.kind = 7) : t.name = ⟨#[]⟩ ∧ t.names = [] ∧ 2 ≤ t.kids.length ∧ Rise t.kids := by
  obtain ⟨hn, hh⟩ := h.head
  rcases hh with ⟨h1, h2, _⟩ | ⟨h5, _⟩ | ⟨h6, _⟩ | ⟨_, h8, h9, h10⟩
  · omega
  · omega
  · omega
  · exact ⟨hn, h8, h9, h10⟩
theorem tagT_in {t : Ty} (h1 : 1 ≤ t.kind) (h6 : t.kind ≤ 6) : tagT t = t.kind - 1 := by
  unfold tagT
  rw [if_neg (by omega)]
theorem tagT_out {t : Ty} (h : t.kind < 1 ∨ 6 < t.kind) : tagT t = -1 := by
  unfold tagT
  rw [if_pos h]
/-- A union of a normal type's members is that type. -/
theorem unions_law {n : Ty} (h : NF n) (h0 : n.kind ≠ 0) {ks : List Ty} (hk : ∀ x, x ∈ ks ↔ x ∈ atoms n) (hs : (Ty.mk 7 ⟨#[]⟩ [] ks).size ≤ 200) (hh : (Ty.mk 7 ⟨#[]⟩ [] ks).ht ≤ 16) : NormT (.mk 7 ⟨#[]⟩ [] ks) = some n := by
  unfold NormT
  rw [if_neg (by omega), normT_eq]
  have hl : normL ks = some ks := normL_id fun k hk' => ((h.atoms).1 k ((hk k).1 hk')).1.norm
  simp only [Ty.kind, Ty.names, Ty.kids]
  rw [hl]
  unfold headT
  rw [if_neg (by decide), if_neg (by decide), if_neg (by decide), if_pos (by decide), Option.bind_some]
  by_cases h7 : n.kind = 7
  · obtain ⟨a, b, c, d⟩ := h.uni h7
    have e : atoms n = n.kids := by unfold atoms; rw [if_pos h7]
    rw [e] at hk
    rw [uniT_same d hk, uniOf_two c]
    exact congrArg some (Ty.ext' h7.symm a.symm b.symm rfl)
  · have e : atoms n = [n] := by unfold atoms; rw [if_neg h7]
    rw [e] at hk
    have := h.kinds
    rw [uniT_same (K := [n]) ⟨fun x hx => by rw [List.mem_singleton.1 hx, tagT_in (by omega) (by omega)]; omega, List.pairwise_singleton _ _⟩ hk]
    rfl
/-- The member of a tag. -/
def memT (t : Ty) (tag : Int) : Option Ty := if tag < 0 then none else (atoms t).find? fun k => decide (tagT k = tag)
theorem memT_one {n : Ty} (h7 : n.kind ≠ 7) (tag : Int) : memT n tag = if 0 ≤ tag ∧ tagT n = tag then some n else none := by
  unfold memT atoms
  rw [if_neg h7]
  by_cases h : tag < 0
  · rw [if_pos h, if_neg (by omega)]
  · rw [if_neg h]
    by_cases h2 : tagT n = tag
    · rw [if_pos ⟨by omega, h2⟩]
      simp [h2]
    · rw [if_neg fun x => h2 x.2]
      simp [h2]
/-- A union's member of a tag is the Kid that has it. -/
theorem memT_uni {n k : Ty} (h : NF n) (h7 : n.kind = 7) {tag : Int} (hk : k ∈ n.kids) (ht : tagT k = tag) : memT n tag = some k := by
  obtain ⟨a, b, c, d⟩ := h.uni h7
  have e : atoms n = n.kids := by unfold atoms; rw [if_pos h7]
  have h0 := d.1 k hk
  unfold memT
  rw [if_neg (by omega), e]
  cases hf : n.kids.find? fun k => decide (tagT k = tag) with
  | none =>
    have := List.find?_eq_none.1 hf k hk
    simp [ht] at this
  | some m =>
    have h1 := List.find?_some hf
    have h2 := List.mem_of_find?_eq_some hf
    simp only [decide_eq_true_eq] at h1
    rw [d.ok.2 m h2 k hk (by omega)]
theorem memT_no {n : Ty} (h7 : n.kind = 7) {tag : Int} (h : ∀ k ∈ n.kids, tagT k ≠ tag) : memT n tag = none := by
  have e : atoms n = n.kids := by unfold atoms; rw [if_pos h7]
  unfold memT
  split
  · rfl
  · rw [e]
    exact List.find?_eq_none.2 fun k hk => by simp [h k hk]
end Go.Proofs.YtbanpohholnkaaaDoor
