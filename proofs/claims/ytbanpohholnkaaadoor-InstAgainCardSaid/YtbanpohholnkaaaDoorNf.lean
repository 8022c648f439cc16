/-
  Normal types in plain Lean: their shape, and that norm keeps them. Conditions: none; no program.
-/
import Derived.Test.YtbanpohholnkaaaDoorShowT
namespace Go.Proofs.YtbanpohholnkaaaDoor

def OkTags (L : List Ty) : Prop := (∀ x ∈ L, 0 ≤ tagT x) ∧ ∀ x ∈ L, ∀ y ∈ L, tagT x = tagT y → x = y
def Rise (L : List Ty) : Prop := (∀ x ∈ L, 0 ≤ tagT x) ∧ L.Pairwise fun x y => tagT x < tagT y
theorem Rise.ok {L : List Ty} (h : Rise L) : OkTags L := by
  refine ⟨h.1, ?_⟩
  have h2 := h.2
  clear h
  induction L with
  | nil => intro x hx; cases hx
  | cons a L ih =>
    obtain ⟨h3, h4⟩ := List.pairwise_cons.1 h2
    intro x hx y hy e
    rcases List.mem_cons.1 hx with hx1 | hx1 <;> rcases List.mem_cons.1 hy with hy1 | hy1
    · rw [hx1, hy1]
    · have := h3 y hy1; rw [← hx1] at this; omega
    · have := h3 x hx1; rw [← hy1] at this; omega
    · exact ih h4 x hx1 y hy1 e
theorem Rise.unique : ∀ {K K' : List Ty}, Rise K → Rise K' → (∀ x, x ∈ K ↔ x ∈ K') → K = K'
  | [], [], _, _, _ => rfl
  | [], y :: b, _, _, h => absurd ((h y).2 List.mem_cons_self) (by simp)
  | x :: a, [], _, _, h => absurd ((h x).1 List.mem_cons_self) (by simp)
  | x :: a, y :: b, ha, hb, h => by
    obtain ⟨a1, a2⟩ := List.pairwise_cons.1 ha.2
    obtain ⟨b1, b2⟩ := List.pairwise_cons.1 hb.2
    have hxy : x = y := by
      rcases List.mem_cons.1 ((h x).1 List.mem_cons_self) with e | hx
      · exact e
      · rcases List.mem_cons.1 ((h y).2 List.mem_cons_self) with e | hy
        · exact e.symm
        · have h1 := a1 y hy
          have h2 := b1 x hx
          omega
    subst hxy
    congr 1
    refine Rise.unique ⟨fun z hz => ha.1 z (List.mem_cons_of_mem _ hz), a2⟩ ⟨fun z hz => hb.1 z (List.mem_cons_of_mem _ hz), b2⟩ fun z => ⟨fun hz => ?_, fun hz => ?_⟩
    · rcases List.mem_cons.1 ((h z).1 (List.mem_cons_of_mem _ hz)) with rfl | hz'
      · have := a1 z hz; omega
      · exact hz'
    · rcases List.mem_cons.1 ((h z).2 (List.mem_cons_of_mem _ hz)) with rfl | hz'
      · have := b1 z hz; omega
      · exact hz'
structure Fits (os : List (Option Ty)) (L : List Ty) : Prop where
  len : os.length = 6
  emp : ∀ i : Nat, os[i]? = some none → ∀ x ∈ L, tagT x ≠ i
  has : ∀ (i : Nat) (m : Ty), os[i]? = some (some m) → m ∈ L ∧ tagT m = i
theorem Fits.none6 : Fits none6 [] := ⟨rfl, fun _ _ _ h => by simp at h, fun i m h => by
  have hi := (List.getElem?_eq_some_iff.1 h).1
  have : i < 6 := hi
  have hcase : i = 0 ∨ i = 1 ∨ i = 2 ∨ i = 3 ∨ i = 4 ∨ i = 5 := by omega
  rcases hcase with rfl | rfl | rfl | rfl | rfl | rfl <;> simp [Proofs.YtbanpohholnkaaaDoor.none6] at h⟩
theorem putAll_ok : ∀ (ms L : List Ty) (os : List (Option Ty)), Fits os L → OkTags L → (OkTags (L ++ ms) → (putAll os ms).1 = true ∧ Fits (putAll os ms).2 (L ++ ms)) ∧ ((putAll os ms).1 = true → OkTags (L ++ ms))
  | [], L, os, hf, ho => by simp only [List.append_nil, putAll]; exact ⟨fun _ => ⟨trivial, hf⟩, fun _ => ho⟩
  | m :: ms, L, os, hf, ho => by
    have e : L ++ m :: ms = (L ++ [m]) ++ ms := by simp
    by_cases hn : tagT m < 0
    · have hp := putT_neg (os := os) hn
      simp only [putAll, hp]
      refine ⟨fun h => ?_, fun h => by simp at h⟩
      have := h.1 m (by simp)
      omega
    · have h5 := tagT_le m
      obtain ⟨n, hn6, htn⟩ : ∃ n : Nat, n < 6 ∧ tagT m = n := ⟨(tagT m).toNat, by omega, by omega⟩
      obtain ⟨o, hos⟩ : ∃ o, os[n]? = some o := ⟨_, List.getElem?_eq_getElem (by rw [hf.len]; exact hn6)⟩
      cases o with
      | none =>
        have hp := putT_none htn hos
        have hf' : Fits (os.set n (some m)) (L ++ [m]) := by
          refine ⟨by simp [hf.len], fun i hi x hx e => ?_, fun i y hi => ?_⟩
          · rw [List.getElem?_set] at hi
            by_cases hin : n = i
            · subst hin
              rw [if_pos rfl, if_pos (by rw [hf.len]; exact hn6)] at hi
              simp at hi
            · rw [if_neg hin] at hi
              rcases List.mem_append.1 hx with hx | hx
              · exact hf.emp i hi x hx e
              · rw [List.mem_singleton.1 hx] at e
                omega
          · rw [List.getElem?_set] at hi
            by_cases hin : n = i
            · subst hin
              rw [if_pos rfl, if_pos (by rw [hf.len]; exact hn6)] at hi
              simp only [Option.some.injEq] at hi
              subst hi
              exact ⟨by simp, htn⟩
            · rw [if_neg hin] at hi
              have := hf.has i y hi
              exact ⟨List.mem_append_left _ this.1, this.2⟩
        have ho' : OkTags (L ++ [m]) := by
          refine ⟨fun x hx => ?_, fun x hx y hy e => ?_⟩
          · rcases List.mem_append.1 hx with hx | hx
            · exact ho.1 x hx
            · rw [List.mem_singleton.1 hx]; omega
          · rcases List.mem_append.1 hx with hx | hx <;> rcases List.mem_append.1 hy with hy | hy
            · exact ho.2 x hx y hy e
            · rw [List.mem_singleton.1 hy, htn] at e
              exact absurd e (hf.emp n hos x hx)
            · rw [List.mem_singleton.1 hx, htn] at e
              exact absurd e.symm (hf.emp n hos y hy)
            · rw [List.mem_singleton.1 hx, List.mem_singleton.1 hy]
        simp only [putAll, hp, if_true]
        rw [e]
        exact putAll_ok ms (L ++ [m]) _ hf' ho'
      | some m' =>
        obtain ⟨hm1, hm2⟩ := hf.has n m' hos
        have hp := putT_some htn hos
        by_cases hmm : m = m'
        · subst hmm
          rw [sameT_refl] at hp
          simp only [putAll, hp, if_true]
          rw [e]
          have hmem : ∀ x, x ∈ L ++ [m] ↔ x ∈ L := fun x => by
            simp only [List.mem_append, List.mem_singleton]
            exact ⟨fun h => h.elim id (fun e => e ▸ hm1), .inl⟩
          refine putAll_ok ms (L ++ [m]) _ ⟨hf.len, fun i hi x hx => hf.emp i hi x ((hmem x).1 hx), fun i y hi => ?_⟩ ⟨fun x hx => ho.1 x ((hmem x).1 hx), fun x hx y hy => ho.2 x ((hmem x).1 hx) y ((hmem y).1 hy)⟩
          have := hf.has i y hi
          exact ⟨(hmem y).2 this.1, this.2⟩
        · rw [sameT_ne hmm] at hp
          simp only [putAll, hp]
          refine ⟨fun h => ?_, fun h => by simp at h⟩
          exact absurd (h.2 m (by simp) m' (by simp [hm1]) (by omega)) hmm
theorem filter_rise : ∀ (os : List (Option Ty)) (k : Int), (∀ (i : Nat) (m : Ty), os[i]? = some (some m) → tagT m = k + i) → (os.filterMap id).Pairwise (fun x y => tagT x < tagT y) ∧ ∀ x ∈ os.filterMap id, k ≤ tagT x
  | [], _, _ => by simp
  | o :: os, k, h => by
    obtain ⟨h1, h2⟩ := filter_rise os (k + 1) fun i m hm => by
      have := h (i + 1) m (by simpa using hm)
      omega
    cases o with
    | none =>
      simp only [List.filterMap_cons, id]
      exact ⟨h1, fun x hx => by have := h2 x hx; omega⟩
    | some m =>
      have hm := h 0 m (by simp)
      simp only [List.filterMap_cons, id]
      refine ⟨List.pairwise_cons.2 ⟨fun x hx => ?_, h1⟩, fun x hx => ?_⟩
      · have := h2 x hx; omega
      · rcases List.mem_cons.1 hx with rfl | hx
        · omega
        · have := h2 x hx; omega
theorem uniT_yes {kids : List Ty} (h : OkTags (flatU kids)) : ∃ K, Rise K ∧ (∀ x, x ∈ K ↔ x ∈ flatU kids) ∧ uniT kids = uniOf K := by
  obtain ⟨h1, h2⟩ := (putAll_ok (flatU kids) [] none6 Fits.none6 ⟨fun x hx => by simp at hx, fun x hx => by simp at hx⟩).1 (by simpa using h)
  rw [List.nil_append] at h2
  refine ⟨(putAll none6 (flatU kids)).2.filterMap id, ?_, fun x => ?_, ?_⟩
  · obtain ⟨a, b⟩ := filter_rise (putAll none6 (flatU kids)).2 0 fun i m hm => by have := (h2.has i m hm).2; omega
    exact ⟨b, a⟩
  · rw [List.mem_filterMap]
    constructor
    · rintro ⟨o, ho, rfl⟩
      obtain ⟨i, hi⟩ := List.getElem?_of_mem ho
      exact (h2.has i x hi).1
    · intro hx
      have h0 := h.1 x hx
      have h5 := tagT_le x
      obtain ⟨n, hn6, htn⟩ : ∃ n : Nat, n < 6 ∧ tagT x = n := ⟨(tagT x).toNat, by omega, by omega⟩
      obtain ⟨o, hos⟩ : ∃ o, (putAll none6 (flatU kids)).2[n]? = some o := ⟨_, List.getElem?_eq_getElem (by rw [h2.len]; exact hn6)⟩
      cases o with
      | none => exact absurd htn (h2.emp n hos x hx)
      | some m =>
        obtain ⟨hm1, hm2⟩ := h2.has n m hos
        have := h.2 m hm1 x hx (by omega)
        subst this
        exact ⟨some m, List.mem_of_getElem? hos, rfl⟩
  · unfold uniT
    rw [if_pos h1]
theorem uniT_no {kids : List Ty} (h : ¬ OkTags (flatU kids)) : uniT kids = none := by
  unfold uniT
  rw [if_neg]
  intro h'
  have := (putAll_ok (flatU kids) [] none6 Fits.none6 ⟨fun x hx => by simp at hx, fun x hx => by simp at hx⟩).2 h'
  exact h (by simpa using this)

def headN (t : Ty) : Prop := t.name = ⟨#[]⟩ ∧ ((0 ≤ t.kind ∧ t.kind ≤ 4 ∧ t.names = [] ∧ t.kids = []) ∨ (t.kind = 5 ∧ recOk t.names t.kids = true ∧ Strict (t.names.zip t.kids)) ∨ (t.kind = 6 ∧ t.names = [] ∧ t.kids.length = 2) ∨ (t.kind = 7 ∧ t.names = [] ∧ 2 ≤ t.kids.length ∧ Rise t.kids))
/-- A normal type. -/
inductive NF : Ty → Prop
  | mk (t : Ty) : headN t → (∀ k ∈ t.kids, NF k) → NF t
theorem NF.head {t : Ty} (h : NF t) : headN t := by cases h; assumption
theorem NF.kid {t : Ty} (h : NF t) : ∀ k ∈ t.kids, NF k := by cases h; assumption
theorem sizeL_perm {a b : List Ty} (h : a.Perm b) : sizeL a = sizeL b := by
  induction h with
  | nil => rfl
  | cons x _ ih => simp only [sizeL, ih]
  | swap x y l => simp only [sizeL]; omega
  | trans _ _ ih1 ih2 => rw [ih1, ih2]
theorem htL_perm {a b : List Ty} (h : a.Perm b) : htL a = htL b := by
  induction h with
  | nil => rfl
  | cons x _ ih => simp only [htL, ih]
  | swap x y l => simp only [htL]; omega
  | trans _ _ ih1 ih2 => rw [ih1, ih2]
theorem htL_le {l : List Ty} {n : Nat} (h : ∀ k ∈ l, k.ht ≤ n) : htL l ≤ n := by
  induction l with
  | nil => simp [htL]
  | cons a l ih =>
    simp only [htL]
    have h1 := h a List.mem_cons_self
    have h2 := ih fun k hk => h k (List.mem_cons_of_mem _ hk)
    omega
theorem sizeL_sub : ∀ (K L : List Ty), K.Nodup → (∀ x ∈ K, x ∈ L) → sizeL K ≤ sizeL L
  | [], _, _, _ => by simp [sizeL]
  | x :: K, L, hn, h => by
    obtain ⟨s, t, rfl⟩ := List.append_of_mem (h x List.mem_cons_self)
    rw [List.nodup_cons] at hn
    have := sizeL_sub K (s ++ t) hn.2 fun y hy => by
      have h1 := h y (List.mem_cons_of_mem _ hy)
      simp only [List.mem_append, List.mem_cons] at h1 ⊢
      rcases h1 with h1 | rfl | h1
      · exact .inl h1
      · exact absurd hy hn.1
      · exact .inr h1
    rw [sizeL_append] at this ⊢
    simp only [sizeL]
    omega
theorem Rise.nodup {K : List Ty} (h : Rise K) : K.Nodup := by
  refine List.Pairwise.imp (fun hxy e => ?_) h.2
  rw [e] at hxy
  omega
theorem flatU_mem {kids : List Ty} {x : Ty} (h : x ∈ flatU kids) : x ∈ kids ∨ ∃ k ∈ kids, x ∈ k.kids := by
  unfold flatU at h
  obtain ⟨k, hk, hx⟩ := List.mem_flatMap.1 h
  split at hx
  · exact .inr ⟨k, hk, hx⟩
  · rw [List.mem_singleton.1 hx]; exact .inl hk
theorem flatU_size (kids : List Ty) : sizeL (flatU kids) ≤ sizeL kids := by
  induction kids with
  | nil => simp [flatU, sizeL]
  | cons k kids ih =>
    have e : flatU (k :: kids) = (if k.kind = 7 then k.kids else [k]) ++ flatU kids := by simp [flatU]
    rw [e, sizeL_append]
    have := k.size_eq
    split <;> simp only [sizeL] <;> omega
theorem flatU_ht (kids : List Ty) : htL (flatU kids) ≤ htL kids := by
  refine htL_le fun x hx => ?_
  rcases flatU_mem hx with h | ⟨k, hk, h⟩
  · exact ht_mem h
  · have h1 := ht_mem hk
    have h2 := ht_mem h
    have := k.ht_eq
    omega
theorem flatU_id {kids : List Ty} (h : ∀ x ∈ kids, 0 ≤ tagT x) : flatU kids = kids := by
  induction kids with
  | nil => rfl
  | cons k kids ih =>
    have e : flatU (k :: kids) = (if k.kind = 7 then k.kids else [k]) ++ flatU kids := by simp [flatU]
    have h7 : k.kind ≠ 7 := by
      intro h7
      have := h k List.mem_cons_self
      unfold tagT at this
      rw [if_pos (by omega)] at this
      omega
    rw [e, if_neg h7, ih fun x hx => h x (List.mem_cons_of_mem _ hx)]
    rfl
theorem recOk_iff {names : List ByteArray} {kids : List Ty} : recOk names kids = true ↔ names.length = kids.length ∧ names.length ≤ 16 ∧ (∀ s ∈ names, nameB s = true) ∧ names.Nodup := by
  simp only [recOk, Bool.and_eq_true, decide_eq_true_eq, List.all_eq_true, nodupB_iff, and_assoc]
theorem zip_fst {names : List ByteArray} {kids : List Ty} (h : names.length = kids.length) : (names.zip kids).map (·.1) = names := List.map_fst_zip (by omega)
theorem zip_snd {names : List ByteArray} {kids : List Ty} (h : names.length = kids.length) : (names.zip kids).map (·.2) = kids := List.map_snd_zip (by omega)
theorem zip_maps (l : List Ft) : (l.map (·.1)).zip (l.map (·.2)) = l := by
  induction l with
  | nil => rfl
  | cons a l ih => simp [ih]
/-- A record out of normal kids is normal. -/
theorem recT_nf {names : List ByteArray} {kids : List Ty} {n : Ty} (h : recT names kids = some n) (hk : ∀ k ∈ kids, NF k) : NF n ∧ n.size = 1 + sizeL kids ∧ n.ht = 1 + htL kids := by
  unfold recT at h
  split at h
  · rename_i hok
    simp only [Option.some.injEq] at h
    subst h
    obtain ⟨h1, h2, h3, h4⟩ := recOk_iff.1 hok
    have hp := sortT_perm (names.zip kids)
    have hs := sortT_strict (names.zip kids) (by rw [zip_fst h1]; exact h4)
    have hp1 := hp.map (·.1)
    have hp2 := hp.map (·.2)
    rw [zip_fst h1] at hp1
    rw [zip_snd h1] at hp2
    refine ⟨.mk _ ⟨rfl, .inr (.inl ⟨rfl, recOk_iff.2 ⟨?_, ?_, ?_, ?_⟩, ?_⟩)⟩ fun k hk' => ?_, ?_, ?_⟩
    · simp [recOf, Ty.names, Ty.kids]
    · have := hp1.length_eq
      simp only [recOf, Ty.names]
      omega
    · intro s hs'
      exact h3 s (hp1.mem_iff.1 hs')
    · exact hp1.nodup_iff.2 h4
    · simp only [recOf, Ty.names, Ty.kids]
      rw [zip_maps]
      exact hs
    · exact hk k (hp2.mem_iff.1 hk')
    · rw [Ty.size_eq, ← sizeL_perm hp2]; rfl
    · rw [Ty.ht_eq, ← htL_perm hp2]; rfl
  · cases h
theorem NF.flat {kids : List Ty} (hk : ∀ k ∈ kids, NF k) : ∀ x ∈ flatU kids, NF x := fun x hx => by
  rcases flatU_mem hx with h | ⟨k, hk', h⟩
  · exact hk x h
  · exact (hk k hk').kid x h
theorem uniT_nf {kids : List Ty} {n : Ty} (h : uniT kids = some n) (hk : ∀ k ∈ kids, NF k) : NF n ∧ n.size ≤ 1 + sizeL kids ∧ n.ht ≤ 1 + htL kids := by
  by_cases ho : OkTags (flatU kids)
  · obtain ⟨K, hr, hm, he⟩ := uniT_yes ho
    rw [he] at h
    have hs := sizeL_sub K (flatU kids) hr.nodup fun x hx => (hm x).1 hx
    have hs2 := flatU_size kids
    have hh : htL K ≤ htL (flatU kids) := htL_le fun x hx => ht_mem ((hm x).1 hx)
    have hh2 := flatU_ht kids
    have hf := NF.flat hk
    match K, hr, hm, h with
    | [x], hr, hm, h =>
      simp only [uniOf, Option.some.injEq] at h
      subst h
      simp only [sizeL, htL] at hs hh
      exact ⟨hf x ((hm x).1 (by simp)), by omega, by omega⟩
    | x :: y :: r, hr, hm, h =>
      simp only [uniOf, Option.some.injEq] at h
      subst h
      refine ⟨.mk _ ⟨rfl, .inr (.inr (.inr ⟨rfl, rfl, by simp [Ty.kids], hr⟩))⟩ fun k hk' => hf k ((hm k).1 hk'), ?_, ?_⟩
      · rw [Ty.size_eq]; simp only [Ty.kids]; omega
      · rw [Ty.ht_eq]; simp only [Ty.kids]; omega
  · rw [uniT_no ho] at h
    cases h
theorem normL_nf : ∀ {ks l : List Ty}, normL ks = some l → (∀ k ∈ ks, ∀ n, normT k = some n → NF n ∧ n.size ≤ k.size ∧ n.ht ≤ k.ht) → (∀ n ∈ l, NF n) ∧ sizeL l ≤ sizeL ks ∧ htL l ≤ htL ks
  | [], l, h, _ => by
    simp only [normL, Option.some.injEq] at h
    subst h
    simp [sizeL, htL]
  | k :: ks, l, h, hk => by
    simp only [normL] at h
    cases hx : normT k with
    | none => rw [hx] at h; simp at h
    | some x' =>
      rw [hx] at h
      simp only [Option.bind_some, Option.map_eq_some_iff] at h
      obtain ⟨l', h1, rfl⟩ := h
      obtain ⟨a1, a2, a3⟩ := normL_nf h1 fun k' hk' => hk k' (List.mem_cons_of_mem _ hk')
      obtain ⟨b1, b2, b3⟩ := hk k List.mem_cons_self x' hx
      refine ⟨fun n hn => ?_, by simp only [sizeL]; omega, by simp only [htL]; omega⟩
      rcases List.mem_cons.1 hn with rfl | hn
      · exact b1
      · exact a1 n hn
/-- What norm keeps is normal, and not greater. -/
theorem normT_nf (t : Ty) : ∀ n, normT t = some n → NF n ∧ n.size ≤ t.size ∧ n.ht ≤ t.ht := by
  induction t using Ty.ind with
  | h t ih =>
    intro n h
    rw [normT_eq] at h
    have hL : ∀ l, normL t.kids = some l → (∀ n ∈ l, NF n) ∧ sizeL l ≤ sizeL t.kids ∧ htL l ≤ htL t.kids := fun l hl => normL_nf hl fun k hk n hn => ih k (Ty.kid_lt hk) n hn
    have hts := t.size_eq
    have hth := t.ht_eq
    unfold headT at h
    split at h
    · rename_i hk
      simp only [Option.some.injEq] at h
      subst h
      refine ⟨.mk _ ⟨rfl, .inl ⟨hk.1, hk.2, rfl, rfl⟩⟩ fun k hk' => by simp [Ty.kids] at hk', ?_, ?_⟩
      · rw [Ty.size_eq]; simp only [Ty.kids, sizeL]; omega
      · rw [Ty.ht_eq]; simp only [Ty.kids, htL]; omega
    · split at h
      · obtain ⟨l, hl, h⟩ := Option.bind_eq_some_iff.1 h
        obtain ⟨h1, h2, h3⟩ := hL l hl
        obtain ⟨a1, a2, a3⟩ := recT_nf h h1
        exact ⟨a1, by omega, by omega⟩
      · split at h
        · obtain ⟨l, hl, h⟩ := Option.bind_eq_some_iff.1 h
          obtain ⟨h1, h2, h3⟩ := hL l hl
          unfold funT at h
          split at h
          · rename_i hlen
            simp only [Option.some.injEq] at h
            subst h
            refine ⟨.mk _ ⟨rfl, .inr (.inr (.inl ⟨rfl, rfl, hlen⟩))⟩ h1, ?_, ?_⟩
            · rw [Ty.size_eq]; simp only [Ty.kids]; omega
            · rw [Ty.ht_eq]; simp only [Ty.kids]; omega
          · cases h
        · split at h
          · obtain ⟨l, hl, h⟩ := Option.bind_eq_some_iff.1 h
            obtain ⟨h1, h2, h3⟩ := hL l hl
            obtain ⟨a1, a2, a3⟩ := uniT_nf h h1
            exact ⟨a1, by omega, by omega⟩
          · cases h
theorem normL_id : ∀ {ks : List Ty}, (∀ k ∈ ks, normT k = some k) → normL ks = some ks
  | [], _ => rfl
  | k :: ks, h => by
    simp only [normL, h k List.mem_cons_self, normL_id fun k' hk' => h k' (List.mem_cons_of_mem _ hk')]
    rfl
theorem recT_id {names : List ByteArray} {kids : List Ty} (h : recOk names kids = true) (hs : Strict (names.zip kids)) : recT names kids = some (.mk 5 ⟨#[]⟩ names kids) := by
  obtain ⟨h1, h2, h3, h4⟩ := recOk_iff.1 h
  unfold recT
  rw [if_pos h, strict_unique (sortT_strict _ (by rw [zip_fst h1]; exact h4)) hs (sortT_perm _)]
  unfold recOf
  rw [zip_fst h1, zip_snd h1]
theorem uniT_same {kids K : List Ty} (hr : Rise K) (h : ∀ x, x ∈ kids ↔ x ∈ K) : uniT kids = uniOf K := by
  have hk : flatU kids = kids := flatU_id fun x hx => hr.1 x ((h x).1 hx)
  have ho : OkTags (flatU kids) := by
    rw [hk]
    exact ⟨fun x hx => hr.1 x ((h x).1 hx), fun x hx y hy => hr.ok.2 x ((h x).1 hx) y ((h y).1 hy)⟩
  obtain ⟨K', hr', hm, he⟩ := uniT_yes ho
  rw [he, Rise.unique hr' hr fun x => by rw [hm, hk, h]]
theorem uniOf_two {K : List Ty} (h : 2 ≤ K.length) : uniOf K = some (.mk 7 ⟨#[]⟩ [] K) := by
  match K, h with
  | x :: y :: r, _ => rfl
/-- norm keeps what is normal. -/
theorem NF.norm {n : Ty} (h : NF n) : normT n = some n := by
  induction n using Ty.ind with
  | h n ih =>
    have hk : normL n.kids = some n.kids := normL_id fun k hk => ih k (Ty.kid_lt hk) (h.kid k hk)
    rw [normT_eq, hk]
    obtain ⟨hn, hh⟩ := h.head
    unfold headT
    rcases hh with ⟨h1, h2, h3, h4⟩ | ⟨h5, h6, h7⟩ | ⟨h6, h7, h8⟩ | ⟨h7, h8, h9, h10⟩
    · rw [if_pos ⟨h1, h2⟩]
      exact congrArg some (Ty.ext' rfl hn.symm h3.symm h4.symm)
    · rw [if_neg (by omega), if_pos h5, Option.bind_some, recT_id h6 h7]
      exact congrArg some (Ty.ext' h5.symm hn.symm rfl rfl)
    · rw [if_neg (by omega), if_neg (by omega), if_pos h6, Option.bind_some]
      unfold funT
      rw [if_pos h8]
      exact congrArg some (Ty.ext' h6.symm hn.symm h7.symm rfl)
    · rw [if_neg (by omega), if_neg (by omega), if_neg (by omega), if_pos h7, Option.bind_some, uniT_same h10 (fun x => Iff.rfl), uniOf_two h9]
      exact congrArg some (Ty.ext' h7.symm hn.symm h8.symm rfl)
theorem NormT_nf {t n : Ty} (h : NormT t = some n) : NF n ∧ n.size ≤ t.size ∧ n.ht ≤ t.ht ∧ t.size ≤ 200 ∧ t.ht ≤ 16 := by
  unfold NormT at h
  split at h
  · cases h
  · rename_i hc
    obtain ⟨a, b, c⟩ := normT_nf t n h
    exact ⟨a, b, c, by omega, by omega⟩
theorem NF.Norm {n : Ty} (h : NF n) (h1 : n.size ≤ 200) (h2 : n.ht ≤ 16) : NormT n = some n := by
  unfold NormT
  rw [if_neg (by omega), h.norm]
theorem NormT_again {t n : Ty} (h : NormT t = some n) : NormT n = some n := by
  obtain ⟨a, b, c, d, e⟩ := NormT_nf h
  exact a.Norm (by omega) (by omega)
theorem NormT_kid {t n k : Ty} (h : NormT t = some n) (hk : k ∈ n.kids) : NormT k = some k := by
  obtain ⟨a, b, c, d, e⟩ := NormT_nf h
  have h1 := Ty.kid_lt hk
  have h2 := ht_mem hk
  have h3 := n.ht_eq
  exact (a.kid k hk).Norm (by omega) (by omega)
theorem nameB_size {s : ByteArray} (h : nameB s = true) : s.size ≤ 32 := by
  unfold nameB at h
  split at h
  · cases h
  · simp only [Bool.and_eq_true, decide_eq_true_eq] at h
    exact h.1.1.1
theorem NF.wf {t : Ty} (h : NF t) : WfS t := by
  induction t using Ty.ind with
  | h t ih =>
    have hk : WfL t.kids := WfL_iff.2 fun k hk => ih k (Ty.kid_lt hk) (h.kid k hk)
    obtain ⟨hn, hh⟩ := h.head
    have hw : headW t.kind t.names t.kids.length := by
      rcases hh with ⟨h1, h2, h3, h4⟩ | ⟨h5, h6, h7⟩ | ⟨h6, h7, h8⟩ | ⟨h7, h8, h9, h10⟩
      · exact .inl ⟨h1, h2⟩
      · obtain ⟨a, b, c, d⟩ := recOk_iff.1 h6
        exact .inr (.inl ⟨h5, a, fun s hs => nameB_size (c s hs)⟩)
      · exact .inr (.inr (.inl ⟨h6, h8⟩))
      · exact .inr (.inr (.inr h7))
    cases t
    exact ⟨hw, hk⟩
open Classical in
/-- The text of a type, empty if it is not normal. -/
noncomputable def ShowS (t : Ty) : ByteArray := if NormT t = some t then showT t else ⟨#[]⟩
end Go.Proofs.YtbanpohholnkaaaDoor
