/-
  Two loops over the tags make a union's kids, in plain Lean. Conditions: none; no program.
-/
import Derived.Test.YtomhhpjpmlpijaaDoorPLaw
namespace Go.Proofs.YtomhhpjpmlpijaaDoor

structure UTb (L : List Ty) (tg : Nat) (K : List Ty) : Prop where
  rise : Rise K
  mem : ∀ x, x ∈ K ↔ x ∈ L ∧ 0 ≤ tagT x ∧ tagT x < tg
  eq : ∀ x ∈ L, ∀ y ∈ L, tagT x = tagT y → 0 ≤ tagT x → tagT x < tg → x = y
  nz : tg = 0 ∨ ∀ x ∈ L, x.kind ≠ 0
structure UT (L : List Ty) (tg i : Nat) (had : Bool) (K' : List Ty) : Prop where
  base : ∃ K, UTb L tg K ∧ (had = false → K' = K ∧ ∀ x ∈ L.take i, tagT x ≠ tg) ∧ (had = true → ∃ x0, K' = K ++ [x0] ∧ x0 ∈ L ∧ tagT x0 = tg ∧ ∀ x ∈ L.take i, tagT x = tg → x = x0)
  nz : ∀ x ∈ L.take i, x.kind ≠ 0
theorem take_next {L : List Ty} {i : Nat} {x y : Ty} (h : L[i]? = some x) (hy : y ∈ L.take (i + 1)) : y ∈ L.take i ∨ y = x := by
  rw [List.take_add_one, h] at hy
  simpa using hy
theorem UT.start (L : List Ty) : UT L 0 0 false [] :=
  ⟨⟨[], ⟨⟨by simp, List.Pairwise.nil⟩, fun x => ⟨by simp, fun h => by omega⟩, fun x _ y _ _ _ h => by omega, .inl rfl⟩, fun _ => ⟨rfl, by simp⟩, by simp⟩, by simp⟩
theorem UT.skip {L K : List Ty} {tg i : Nat} {had : Bool} {x : Ty} (h : UT L tg i had K) (hx : L[i]? = some x) (h0 : x.kind ≠ 0) (ht : tagT x ≠ tg) : UT L tg (i + 1) had K := by
  obtain ⟨⟨B, hb, h1, h2⟩, h3⟩ := h
  refine ⟨⟨B, hb, fun e => ⟨(h1 e).1, fun y hy => ?_⟩, fun e => ?_⟩, fun y hy => ?_⟩
  · rcases take_next hx hy with hy | rfl
    · exact (h1 e).2 y hy
    · exact ht
  · obtain ⟨x0, a, b, c, d⟩ := h2 e
    refine ⟨x0, a, b, c, fun y hy hty => ?_⟩
    rcases take_next hx hy with hy | rfl
    · exact d y hy hty
    · exact absurd hty ht
  · rcases take_next hx hy with hy | rfl
    · exact h3 y hy
    · exact h0
theorem UT.first {L K : List Ty} {tg i : Nat} {x : Ty} (h : UT L tg i false K) (hx : L[i]? = some x) (h0 : x.kind ≠ 0) (ht : tagT x = tg) : UT L tg (i + 1) true (K ++ [x]) := by
  obtain ⟨⟨B, hb, h1, h2⟩, h3⟩ := h
  obtain ⟨rfl, hn⟩ := h1 rfl
  refine ⟨⟨K, hb, by simp, fun _ => ⟨x, rfl, List.mem_of_getElem? hx, ht, fun y hy hty => ?_⟩⟩, fun y hy => ?_⟩
  · rcases take_next hx hy with hy | rfl
    · exact absurd hty (hn y hy)
    · rfl
  · rcases take_next hx hy with hy | rfl
    · exact h3 y hy
    · exact h0
theorem UT.again {L K : List Ty} {tg i : Nat} {x : Ty} (h : UT L tg i true K) (hx : L[i]? = some x) (h0 : x.kind ≠ 0) {K0 : List Ty} (hl : K = K0 ++ [x]) : UT L tg (i + 1) true K := by
  obtain ⟨⟨B, hb, h1, h2⟩, h3⟩ := h
  obtain ⟨x0, a, b, c, d⟩ := h2 rfl
  have he : x = x0 := by
    have h5 : (K0 ++ [x]).getLast? = (B ++ [x0]).getLast? := by rw [← hl, ← a]
    simpa using h5
  subst he
  refine ⟨⟨B, hb, by simp, fun _ => ⟨x, a, b, c, fun y hy hty => ?_⟩⟩, fun y hy => ?_⟩
  · rcases take_next hx hy with hy | rfl
    · exact d y hy hty
    · rfl
  · rcases take_next hx hy with hy | rfl
    · exact h3 y hy
    · exact h0
theorem UT.last {L K : List Ty} {tg i : Nat} (h : UT L tg i true K) : ∃ K0 x0, K = K0 ++ [x0] ∧ x0 ∈ L ∧ tagT x0 = tg := by
  obtain ⟨⟨B, hb, h1, h2⟩, h3⟩ := h
  obtain ⟨x0, a, b, c, d⟩ := h2 rfl
  exact ⟨B, x0, a, b, c⟩
theorem UT.next {L K : List Ty} {tg : Nat} {had : Bool} (h : UT L tg L.length had K) : UT L (tg + 1) 0 false K := by
  obtain ⟨⟨B, hb, h1, h2⟩, h3⟩ := h
  rw [List.take_length] at h1 h2 h3
  cases had with
  | false =>
    obtain ⟨rfl, hn⟩ := h1 rfl
    refine ⟨⟨K, ⟨hb.rise, fun x => ⟨fun hx => ?_, fun ⟨a, b, c⟩ => ?_⟩, fun x hx y hy e h0 hl => ?_, .inr h3⟩, fun _ => ⟨rfl, by simp⟩, by simp⟩, by simp⟩
    · obtain ⟨a, b, c⟩ := (hb.mem x).1 hx
      exact ⟨a, b, by omega⟩
    · have := hn x a
      exact (hb.mem x).2 ⟨a, b, by omega⟩
    · have := hn x hx
      exact hb.eq x hx y hy e h0 (by omega)
  | true =>
    obtain ⟨x0, rfl, hm, ht, hu⟩ := h2 rfl
    refine ⟨⟨B ++ [x0], ⟨⟨fun x hx => ?_, List.pairwise_append.2 ⟨hb.rise.2, List.pairwise_singleton _ _, fun a ha b hb' => ?_⟩⟩, fun x => ⟨fun hx => ?_, fun ⟨a, b, c⟩ => ?_⟩, fun x hx y hy e h0 hl => ?_, .inr h3⟩, fun _ => ⟨rfl, by simp⟩, by simp⟩, by simp⟩
    · rcases List.mem_append.1 hx with hx | hx
      · exact hb.rise.1 x hx
      · rw [List.mem_singleton.1 hx, ht]
        omega
    · rw [List.mem_singleton.1 hb', ht]
      exact ((hb.mem a).1 ha).2.2
    · rcases List.mem_append.1 hx with hx | hx
      · obtain ⟨a, b, c⟩ := (hb.mem x).1 hx
        exact ⟨a, b, by omega⟩
      · rw [List.mem_singleton.1 hx, ht]
        exact ⟨hm, by omega, by omega⟩
    · by_cases hc : tagT x = tg
      · rw [hu x a hc]
        simp
      · exact List.mem_append_left _ ((hb.mem x).2 ⟨a, b, by omega⟩)
    · by_cases hc : tagT x = tg
      · rw [hu x hx hc, hu y hy (by omega)]
      · exact hb.eq x hx y hy e h0 (by omega)
theorem rise_len : ∀ (K : List Ty) (lo n : Int), K.Pairwise (fun x y => tagT x < tagT y) → (∀ x ∈ K, lo ≤ tagT x ∧ tagT x < n) → (K.length : Int) ≤ n - lo ∨ K = []
  | [], _, _, _, _ => .inr rfl
  | a :: K, lo, n, h, hm => by
    obtain ⟨h1, h2⟩ := List.pairwise_cons.1 h
    have ha := hm a List.mem_cons_self
    left
    rcases rise_len K (lo + 1) n h2 (fun x hx => ⟨by have := h1 x hx; omega, (hm x (List.mem_cons_of_mem _ hx)).2⟩) with h3 | h3
    · rw [List.length_cons]
      omega
    · subst h3
      simp
      omega
theorem UT.len {L K : List Ty} {tg i : Nat} {had : Bool} (h : UT L tg i had K) : K.length ≤ tg + 1 := by
  obtain ⟨⟨B, hb, h1, h2⟩, h3⟩ := h
  have hB : B.length ≤ tg := by
    rcases rise_len B 0 tg hb.rise.2 (fun x hx => ((hb.mem x).1 hx).2) with h4 | h4
    · omega
    · subst h4
      simp
  cases had with
  | false =>
    obtain ⟨rfl, _⟩ := h1 rfl
    omega
  | true =>
    obtain ⟨x0, rfl, _⟩ := h2 rfl
    simp
    exact hB
theorem UT.len0 {L K : List Ty} {tg i : Nat} (h : UT L tg i false K) : K.length ≤ tg := by
  obtain ⟨⟨B, hb, h1, h2⟩, h3⟩ := h
  obtain ⟨rfl, _⟩ := h1 rfl
  rcases rise_len K 0 tg hb.rise.2 (fun x hx => ((hb.mem x).1 hx).2) with h4 | h4
  · omega
  · subst h4
    simp
theorem flat_tag {kids : List Ty} (hk : ∀ k ∈ kids, NF k) {x : Ty} (hx : x ∈ flatU kids) (h0 : x.kind ≠ 0) : 0 ≤ tagT x ∧ tagT x < 6 := by
  have hn := NF.kinds (NF.flat hk x hx)
  have h6 : x.kind = 7 → 0 ≤ tagT x := fun h7 => by
    unfold flatU at hx
    obtain ⟨k, hkm, hxk⟩ := List.mem_flatMap.1 hx
    by_cases hk7 : k.kind = 7
    · rw [if_pos hk7] at hxk
      exact (NF.uni (hk k hkm) hk7).2.2.2.1 x hxk
    · rw [if_neg hk7] at hxk
      exact absurd (List.mem_singleton.1 hxk ▸ h7) hk7
  by_cases h7 : x.kind = 7
  · have := h6 h7
    rw [tagT_out (.inr (by omega))] at this
    omega
  · unfold tagT
    rw [if_neg (by omega)]
    omega
theorem UT.fin {kids K : List Ty} (hk : ∀ k ∈ kids, NF k) (h : UT (flatU kids) 6 0 false K) : uniT kids = uniOf K := by
  obtain ⟨⟨B, hb, h1, h2⟩, h3⟩ := h
  obtain ⟨rfl, _⟩ := h1 rfl
  have hnz : ∀ x ∈ flatU kids, x.kind ≠ 0 := hb.nz.resolve_left (by omega)
  have htg : ∀ x ∈ flatU kids, 0 ≤ tagT x ∧ tagT x < 6 := fun x hx => flat_tag hk hx (hnz x hx)
  obtain ⟨K', hr, hm, he⟩ := uniT_yes (kids := kids) ⟨fun x hx => (htg x hx).1, fun x hx y hy e => hb.eq x hx y hy e (htg x hx).1 (by have := (htg x hx).2; omega)⟩
  rw [he, hr.unique hb.rise fun x => (hm x).trans ⟨fun hx => (hb.mem x).2 ⟨hx, (htg x hx).1, by have := (htg x hx).2; omega⟩, fun hx => ((hb.mem x).1 hx).1⟩]
theorem uni_any {kids : List Ty} {x : Ty} (hx : x ∈ flatU kids) (h0 : x.kind = 0) : uniT kids = none := uniT_no fun h => by
  have := h.1 x hx
  rw [tagT_out (.inl (by omega))] at this
  omega
theorem uni_ne {kids : List Ty} {x y : Ty} (hx : x ∈ flatU kids) (hy : y ∈ flatU kids) (e : tagT x = tagT y) (hn : x ≠ y) : uniT kids = none := uniT_no fun h => hn (h.2 x hx y hy e)
theorem flat_len {kids : List Ty} (hk : ∀ k ∈ kids, NF k) : (flatU kids).length ≤ 6 * kids.length := by
  induction kids with
  | nil => simp [flatU]
  | cons k kids ih =>
    have h1 := ih fun x hx => hk x (List.mem_cons_of_mem _ hx)
    have h2 : flatU (k :: kids) = (if k.kind = 7 then k.kids else [k]) ++ flatU kids := by simp [flatU]
    rw [h2, List.length_append, List.length_cons]
    have h3 : (if k.kind = 7 then k.kids else [k]).length ≤ 6 := by
      by_cases h7 : k.kind = 7
      · rw [if_pos h7]
        have hr := (NF.uni (hk k List.mem_cons_self) h7).2.2.2
        rcases rise_len k.kids 0 6 hr.2 (fun x hx => ⟨hr.1 x hx, by unfold tagT; split <;> omega⟩) with h4 | h4
        · omega
        · rw [h4]
          simp
      · rw [if_neg h7]
        simp
    omega
end Go.Proofs.YtomhhpjpmlpijaaDoor
