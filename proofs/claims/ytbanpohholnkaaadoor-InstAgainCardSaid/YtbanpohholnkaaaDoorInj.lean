/-
  Two normal types that are shown alike are the same. Conditions: none; no program.
-/
import Derived.Test.YtbanpohholnkaaaDoorNf
namespace Go.Proofs.YtbanpohholnkaaaDoor

def bL (s : ByteArray) : List UInt8 := s.data.toList
theorem bL_app (a b : ByteArray) : bL (a ++ b) = bL a ++ bL b := by simp [bL]
theorem bL_inj {a b : ByteArray} (h : bL a = bL b) : a = b := by
  cases a; cases b
  simp only [bL, Array.toList_inj] at h
  rw [h]
theorem bL_join (sep : ByteArray) : ∀ (l : List ByteArray) (x : ByteArray), bL (joinB sep (x :: l)) = bL x ++ (l.map fun y => bL sep ++ bL y).flatten
  | [], x => by simp [joinB]
  | y :: l, x => by
    rw [joinB, bL_app, bL_app, bL_join sep l y]
    simp

/-- The text of an atom. -/
def inT (t : Ty) : List UInt8 := bL (innS (t.kind, showT t))
/-- Atoms with bars between. -/
def barL : List Ty → List UInt8
  | [] => []
  | x :: l => inT x ++ (l.map fun y => [32, 124, 32] ++ inT y).flatten
def atoms (t : Ty) : List Ty := if t.kind = 7 then t.kids else [t]
/-- What may stand behind a text, and behind a row of atoms. -/
def R0 (r : List UInt8) : Prop := r = [] ∨ ∃ c s, r = c :: s ∧ (c = 44 ∨ c = 125 ∨ c = 41)
def RU (r : List UInt8) : Prop := R0 r ∨ ∃ s, r = 32 :: 45 :: s
theorem R0.no32 {s : List UInt8} (h : R0 (32 :: s)) : False := by
  rcases h with h | ⟨c, s', h, hc⟩
  · cases h
  · simp only [List.cons.injEq] at h
    obtain ⟨rfl, _⟩ := h
    rcases hc with h | h | h <;> exact absurd h (by decide)
theorem RU.no {s : List UInt8} (h : RU (32 :: 124 :: s)) : False := by
  rcases h with h | ⟨s', h⟩
  · exact h.no32
  · simp only [List.cons.injEq, true_and] at h
    exact absurd h.1 (by decide)

theorem inT_fun {t : Ty} (h : t.kind = 6) : inT t = 40 :: (bL (showT t) ++ [41]) := by
  unfold inT innS
  rw [if_pos h, bL_app, bL_app]
  simp [bL]
theorem inT_other {t : Ty} (h : t.kind ≠ 6) : inT t = bL (showT t) := by
  unfold inT innS
  rw [if_neg h]
theorem show_fun {t a b : Ty} (h : t.kind = 6) (hk : t.kids = [a, b]) : bL (showT t) = inT a ++ ([32, 45, 62, 32] ++ bL (showT b)) := by
  rw [showT_eq, hk]
  unfold headS
  rw [if_neg (by omega), if_pos h]
  simp only [showL]
  rw [bL_app, bL_app]
  simp [inT, bL]
theorem show_uni {t : Ty} (h : t.kind = 7) : bL (showT t) = barL t.kids := by
  rw [showT_eq]
  unfold headS
  rw [if_neg (by omega), if_neg (by omega), if_pos h, showL_eq]
  cases t.kids with
  | nil => simp [joinB, barL, bL]
  | cons x l =>
    simp only [List.map_cons, List.map_map]
    rw [bL_join]
    simp [barL, inT, bL, Function.comp_def]
theorem barL_atoms {t : Ty} (h : t.kind ≠ 6) : bL (showT t) = barL (atoms t) := by
  unfold atoms
  by_cases h7 : t.kind = 7
  · rw [if_pos h7, show_uni h7]
  · rw [if_neg h7]
    simp [barL, inT_other h]
theorem show_base {t : Ty} (h : t.kind ≠ 5) (h6 : t.kind ≠ 6) (h7 : t.kind ≠ 7) : showT t = baseS t.kind := by
  rw [showT_eq]
  unfold headS
  rw [if_neg h, if_neg h6, if_neg h7]

/-- A field's text. -/
def fdT (x : Ft) : List UInt8 := bL x.1 ++ (58 :: 32 :: bL (showT x.2))
def fdsL : List Ft → List UInt8
  | [] => []
  | x :: l => fdT x ++ (l.map fun y => [44, 32] ++ fdT y).flatten
theorem show_rec {t : Ty} (h : t.kind = 5) : bL (showT t) = 123 :: (fdsL (t.names.zip t.kids) ++ [125]) := by
  rw [showT_eq]
  unfold headS
  rw [if_pos h, bL_app, bL_app, showL_eq]
  have e : (t.names.zip (t.kids.map fun t => (t.kind, showT t))).map (fun x => x.1 ++ ⟨#[58, 32]⟩ ++ x.2.2) = (t.names.zip t.kids).map fun x : Ft => x.1 ++ (⟨#[58, 32]⟩ : ByteArray) ++ showT x.2 := by
    rw [List.zip_map_right, List.map_map]
    rfl
  rw [e]
  cases t.names.zip t.kids with
  | nil => simp [joinB, fdsL, bL]
  | cons x l =>
    simp only [List.map_cons]
    rw [bL_join]
    have e2 : ∀ y : Ft, bL (y.1 ++ (⟨#[58, 32]⟩ : ByteArray) ++ showT y.2) = fdT y := fun y => by
      rw [bL_app, bL_app]
      simp [fdT, bL]
    simp only [List.map_map, Function.comp_def, e2]
    simp [fdsL, bL]

def innerW (l : List UInt8) : Prop := ∀ c ∈ l, innerN c.toNat = true
theorem name_cut : ∀ {a b x y : List UInt8}, innerW a → innerW b → a ++ 58 :: x = b ++ 58 :: y → a = b ∧ x = y
  | [], [], x, y, _, _, h => by simpa using h
  | [], c :: b, x, y, _, hb, h => by
    simp only [List.nil_append, List.cons_append, List.cons.injEq] at h
    have := hb c (by simp)
    rw [← h.1] at this
    exact absurd this (by decide)
  | c :: a, [], x, y, ha, _, h => by
    simp only [List.nil_append, List.cons_append, List.cons.injEq] at h
    have := ha c (by simp)
    rw [h.1] at this
    exact absurd this (by decide)
  | c :: a, d :: b, x, y, ha, hb, h => by
    simp only [List.cons_append, List.cons.injEq] at h
    obtain ⟨h1, h2⟩ := name_cut (fun z hz => ha z (List.mem_cons_of_mem _ hz)) (fun z hz => hb z (List.mem_cons_of_mem _ hz)) h.2
    exact ⟨by rw [h.1, h1], h2⟩
theorem nameB_inner {s : ByteArray} (h : nameB s = true) : innerW (bL s) ∧ bL s ≠ [] := by
  unfold nameB at h
  split at h
  · cases h
  · rename_i c l hs
    simp only [Bool.and_eq_true, List.all_eq_true] at h
    refine ⟨fun c hc => h.1.2 c hc, ?_⟩
    unfold bL
    rw [hs]
    simp

def InjI (a : Ty) : Prop := ∀ (b : Ty) (r r' : List UInt8), NF b → b.kind ≠ 7 → inT a ++ r = inT b ++ r' → a = b ∧ r = r'
def InjS (a : Ty) : Prop := ∀ (b : Ty) (r r' : List UInt8), NF b → R0 r → R0 r' → bL (showT a) ++ r = bL (showT b) ++ r' → a = b ∧ r = r'

/-- Rows of atoms. -/
theorem barL_tail : ∀ (l l' : List Ty) (r r' : List UInt8), (∀ x ∈ l, InjI x) → (∀ x ∈ l', NF x ∧ x.kind ≠ 7) → RU r → RU r' →
    (l.map fun y => [32, 124, 32] ++ inT y).flatten ++ r = (l'.map fun y => [32, 124, 32] ++ inT y).flatten ++ r' → l = l' ∧ r = r'
  | [], [], r, r', _, _, _, _, h => ⟨rfl, by simpa using h⟩
  | [], y :: l', r, r', _, _, hr, _, h => by
    simp only [List.map_nil, List.flatten_nil, List.nil_append, List.map_cons, List.flatten_cons, List.cons_append, List.append_assoc] at h
    subst h
    exact hr.no.elim
  | x :: l, [], r, r', _, _, _, hr, h => by
    simp only [List.map_nil, List.flatten_nil, List.nil_append, List.map_cons, List.flatten_cons, List.cons_append, List.append_assoc] at h
    subst h
    exact hr.no.elim
  | x :: l, y :: l', r, r', h1, h2, hr, hr', h => by
    simp only [List.nil_append, List.map_cons, List.flatten_cons, List.cons_append, List.append_assoc, List.cons.injEq, true_and] at h
    obtain ⟨rfl, h3⟩ := h1 x (by simp) y _ _ (h2 y (by simp)).1 (h2 y (by simp)).2 h
    obtain ⟨rfl, rfl⟩ := barL_tail l l' r r' (fun z hz => h1 z (List.mem_cons_of_mem _ hz)) (fun z hz => h2 z (List.mem_cons_of_mem _ hz)) hr hr' (by simpa using h3)
    exact ⟨rfl, rfl⟩
theorem barL_inj {l l' : List Ty} {r r' : List UInt8} (hl : l ≠ []) (hl' : l' ≠ []) (h1 : ∀ x ∈ l, InjI x) (h2 : ∀ x ∈ l', NF x ∧ x.kind ≠ 7) (hr : RU r) (hr' : RU r') (h : barL l ++ r = barL l' ++ r') : l = l' ∧ r = r' := by
  match l, l', hl, hl' with
  | x :: l, y :: l', _, _ =>
    simp only [barL, List.append_assoc] at h
    obtain ⟨rfl, h3⟩ := h1 x (by simp) y _ _ (h2 y (by simp)).1 (h2 y (by simp)).2 h
    obtain ⟨rfl, rfl⟩ := barL_tail l l' r r' (fun z hz => h1 z (List.mem_cons_of_mem _ hz)) (fun z hz => h2 z (List.mem_cons_of_mem _ hz)) hr hr' h3
    exact ⟨rfl, rfl⟩
theorem tag7 {x : Ty} (h : 0 ≤ tagT x) : x.kind ≠ 7 := by
  intro h7
  unfold tagT at h
  rw [if_pos (by omega)] at h
  omega
theorem NF.atoms {t : Ty} (h : NF t) : (∀ x ∈ atoms t, NF x ∧ x.kind ≠ 7) ∧ Proofs.YtbanpohholnkaaaDoor.atoms t ≠ [] := by
  unfold Proofs.YtbanpohholnkaaaDoor.atoms
  by_cases h7 : t.kind = 7
  · rw [if_pos h7]
    obtain ⟨hn, hh⟩ := h.head
    rcases hh with ⟨h1, h2, h3, h4⟩ | ⟨h5, _⟩ | ⟨h6, _⟩ | ⟨_, h8, h9, h10⟩
    · omega
    · omega
    · omega
    · refine ⟨fun x hx => ⟨h.kid x hx, tag7 (h10.1 x hx)⟩, fun e => ?_⟩
      rw [e] at h9
      simp at h9
  · rw [if_neg h7]
    exact ⟨fun x hx => by rw [List.mem_singleton.1 hx]; exact ⟨h, h7⟩, by simp⟩
theorem atoms_inj {a b : Ty} (ha : NF a) (hb : NF b) (h : atoms a = atoms b) : a = b := by
  have key : ∀ {a b : Ty}, NF a → a.kind = 7 → b.kind ≠ 7 → atoms a = atoms b → False := fun {a b} ha h7 hb7 h => by
    unfold atoms at h
    rw [if_pos h7, if_neg hb7] at h
    obtain ⟨hn, hh⟩ := ha.head
    rcases hh with ⟨h1, h2, h3, h4⟩ | ⟨h5, _⟩ | ⟨h6, _⟩ | ⟨_, h8, h9, h10⟩
    · omega
    · omega
    · omega
    · rw [h] at h9; simp at h9
  by_cases ha7 : a.kind = 7
  · by_cases hb7 : b.kind = 7
    · unfold atoms at h
      rw [if_pos ha7, if_pos hb7] at h
      have f : ∀ {t : Ty}, NF t → t.kind = 7 → t.name = ⟨#[]⟩ ∧ t.names = [] := fun {t} ht h7 => by
        obtain ⟨hn, hh⟩ := ht.head
        rcases hh with ⟨h1, h2, h3, h4⟩ | ⟨h5, _⟩ | ⟨h6, _⟩ | ⟨_, h8, h9, h10⟩
        · omega
        · omega
        · omega
        · exact ⟨hn, h8⟩
      obtain ⟨a1, a2⟩ := f ha ha7
      obtain ⟨b1, b2⟩ := f hb hb7
      exact Ty.ext' (by rw [ha7, hb7]) (by rw [a1, b1]) (by rw [a2, b2]) h
    · exact (key ha ha7 hb7 h).elim
  · by_cases hb7 : b.kind = 7
    · exact (key hb hb7 ha7 h.symm).elim
    · unfold atoms at h
      rw [if_neg ha7, if_neg hb7] at h
      simpa using h
/-- Fields. -/
theorem fdT_inj {x y : Ft} {r r' : List UInt8} (hx : innerW (bL x.1)) (hy : innerW (bL y.1)) (hs : InjS x.2) (hn : NF y.2) (hr : R0 r) (hr' : R0 r') (h : fdT x ++ r = fdT y ++ r') : x = y ∧ r = r' := by
  unfold fdT at h
  simp only [List.append_assoc, List.cons_append] at h
  obtain ⟨h1, h2⟩ := name_cut hx hy h
  simp only [List.cons.injEq, true_and] at h2
  obtain ⟨h3, h4⟩ := hs y.2 r r' hn hr hr' h2
  exact ⟨Prod.ext (bL_inj h1) h3, h4⟩
theorem R0_44 (s : List UInt8) : R0 (44 :: s) := .inr ⟨44, s, rfl, .inl rfl⟩
theorem R0_125 (s : List UInt8) : R0 (125 :: s) := .inr ⟨125, s, rfl, .inr (.inl rfl)⟩
theorem R0_41 (s : List UInt8) : R0 (41 :: s) := .inr ⟨41, s, rfl, .inr (.inr rfl)⟩
def fdTail (l : List Ft) : List UInt8 := (l.map fun y => [44, 32] ++ fdT y).flatten
theorem fdTail_R0 (l : List Ft) (s : List UInt8) : R0 (fdTail l ++ 125 :: s) := by
  cases l with
  | nil => exact R0_125 s
  | cons x l => exact R0_44 _
theorem fdTail_inj : ∀ (l l' : List Ft) (r r' : List UInt8), (∀ x ∈ l, innerW (bL x.1) ∧ InjS x.2) → (∀ x ∈ l', innerW (bL x.1) ∧ NF x.2) → fdTail l ++ 125 :: r = fdTail l' ++ 125 :: r' → l = l' ∧ r = r'
  | [], [], r, r', _, _, h => ⟨rfl, by simpa [fdTail] using h⟩
  | [], y :: l', r, r', _, _, h => by simp [fdTail] at h
  | x :: l, [], r, r', _, _, h => by simp [fdTail] at h
  | x :: l, y :: l', r, r', h1, h2, h => by
    have e : ∀ (z : Ft) (m : List Ft) (s : List UInt8), fdTail (z :: m) ++ 125 :: s = 44 :: 32 :: (fdT z ++ (fdTail m ++ 125 :: s)) := fun z m s => by simp [fdTail]
    rw [e, e] at h
    simp only [List.cons.injEq, true_and] at h
    obtain ⟨rfl, h3⟩ := fdT_inj (h1 x (by simp)).1 (h2 y (by simp)).1 (h1 x (by simp)).2 (h2 y (by simp)).2 (fdTail_R0 _ _) (fdTail_R0 _ _) h
    obtain ⟨rfl, rfl⟩ := fdTail_inj l l' r r' (fun z hz => h1 z (List.mem_cons_of_mem _ hz)) (fun z hz => h2 z (List.mem_cons_of_mem _ hz)) h3
    exact ⟨rfl, rfl⟩
theorem fdT_head {x : Ft} (h : innerW (bL x.1)) (hne : bL x.1 ≠ []) (r s : List UInt8) : fdT x ++ r ≠ 125 :: s := by
  unfold fdT
  cases hb : bL x.1 with
  | nil => exact absurd hb hne
  | cons c l =>
    simp only [List.cons_append, ne_eq, List.cons.injEq]
    rintro ⟨rfl, _⟩
    have := h 125 (by rw [hb]; simp)
    exact absurd this (by decide)
theorem fdsL_inj {l l' : List Ft} {r r' : List UInt8} (h1 : ∀ x ∈ l, (innerW (bL x.1) ∧ bL x.1 ≠ []) ∧ InjS x.2) (h2 : ∀ x ∈ l', (innerW (bL x.1) ∧ bL x.1 ≠ []) ∧ NF x.2) (h : fdsL l ++ 125 :: r = fdsL l' ++ 125 :: r') : l = l' ∧ r = r' := by
  match l, l' with
  | [], [] => exact ⟨rfl, by simpa [fdsL] using h⟩
  | [], y :: l' =>
    have h' : fdT y ++ (fdTail l' ++ 125 :: r') = 125 :: r := by simpa [fdsL, fdTail] using h.symm
    exact absurd h' (fdT_head (h2 y (by simp)).1.1 (h2 y (by simp)).1.2 _ _)
  | x :: l, [] =>
    have h' : fdT x ++ (fdTail l ++ 125 :: r) = 125 :: r' := by simpa [fdsL, fdTail] using h
    exact absurd h' (fdT_head (h1 x (by simp)).1.1 (h1 x (by simp)).1.2 _ _)
  | x :: l, y :: l' =>
    have h' : fdT x ++ (fdTail l ++ 125 :: r) = fdT y ++ (fdTail l' ++ 125 :: r') := by simpa [fdsL, fdTail] using h
    obtain ⟨rfl, h3⟩ := fdT_inj (h1 x (by simp)).1.1 (h2 y (by simp)).1.1 (h1 x (by simp)).2 (h2 y (by simp)).2 (fdTail_R0 _ _) (fdTail_R0 _ _) h'
    obtain ⟨rfl, rfl⟩ := fdTail_inj l l' r r' (fun z hz => ⟨(h1 z (List.mem_cons_of_mem _ hz)).1.1, (h1 z (List.mem_cons_of_mem _ hz)).2⟩) (fun z hz => ⟨(h2 z (List.mem_cons_of_mem _ hz)).1.1, (h2 z (List.mem_cons_of_mem _ hz)).2⟩) h3
    exact ⟨rfl, rfl⟩

/-- What a normal type that is no union is, and its text's first letter. -/
inductive Form (t : Ty) : Prop
  | base : t.name = ⟨#[]⟩ → 0 ≤ t.kind → t.kind ≤ 4 → t.names = [] → t.kids = [] → inT t = bL (baseS t.kind) → Form t
  | rcd : t.name = ⟨#[]⟩ → t.kind = 5 → recOk t.names t.kids = true → inT t = 123 :: (fdsL (t.names.zip t.kids) ++ [125]) → Form t
  | fn (a b : Ty) : t.name = ⟨#[]⟩ → t.kind = 6 → t.names = [] → t.kids = [a, b] → inT t = 40 :: (inT a ++ ([32, 45, 62, 32] ++ bL (showT b)) ++ [41]) → Form t
theorem NF.form {t : Ty} (h : NF t) (h7 : t.kind ≠ 7) : Form t := by
  obtain ⟨hn, hh⟩ := h.head
  rcases hh with ⟨h1, h2, h3, h4⟩ | ⟨h5, h6, _⟩ | ⟨h6, h8, h9⟩ | ⟨h8, _⟩
  · exact .base hn h1 h2 h3 h4 (by rw [inT_other (by omega), show_base (by omega) (by omega) h7])
  · exact .rcd hn h5 h6 (by rw [inT_other (by omega), show_rec h5])
  · match hk : t.kids, h9 with
    | [a, b], _ => exact .fn a b hn h6 h8 hk (by rw [inT_fun h6, show_fun h6 hk])
  · exact absurd h8 h7
def hd1 (k : Int) : UInt8 := if k = 0 then 97 else if k = 1 then 110 else if k = 2 then 98 else if k = 3 then 105 else 115
theorem base_form {k : Int} (h0 : 0 ≤ k) (h4 : k ≤ 4) : ∃ s, bL (baseS k) = hd1 k :: s := by
  have hc : k = 0 ∨ k = 1 ∨ k = 2 ∨ k = 3 ∨ k = 4 := by omega
  rcases hc with rfl | rfl | rfl | rfl | rfl
  · exact ⟨[110, 121], rfl⟩
  · exact ⟨[117, 108, 108], rfl⟩
  · exact ⟨[111, 111, 108], rfl⟩
  · exact ⟨[110, 116], rfl⟩
  · exact ⟨[116, 114], rfl⟩
theorem hd1_ne {k : Int} (h0 : 0 ≤ k) (h4 : k ≤ 4) : hd1 k ≠ 123 ∧ hd1 k ≠ 40 := by
  have hc : k = 0 ∨ k = 1 ∨ k = 2 ∨ k = 3 ∨ k = 4 := by omega
  rcases hc with rfl | rfl | rfl | rfl | rfl <;> decide
theorem hd1_inj {k k' : Int} (h0 : 0 ≤ k) (h4 : k ≤ 4) (h0' : 0 ≤ k') (h4' : k' ≤ 4) (h : hd1 k = hd1 k') : k = k' := by
  have hc : k = 0 ∨ k = 1 ∨ k = 2 ∨ k = 3 ∨ k = 4 := by omega
  have hc' : k' = 0 ∨ k' = 1 ∨ k' = 2 ∨ k' = 3 ∨ k' = 4 := by omega
  rcases hc with rfl | rfl | rfl | rfl | rfl <;> rcases hc' with rfl | rfl | rfl | rfl | rfl <;> first | rfl | exact absurd h (by decide)
theorem base_hd {k : Int} (h0 : 0 ≤ k) (h4 : k ≤ 4) : ∃ c s, bL (baseS k) = c :: s ∧ c ≠ 123 ∧ c ≠ 40 ∧ ∀ k', 0 ≤ k' → k' ≤ 4 → ∀ c' s', bL (baseS k') = c' :: s' → c = c' → k = k' := by
  obtain ⟨s, hs⟩ := base_form h0 h4
  refine ⟨hd1 k, s, hs, (hd1_ne h0 h4).1, (hd1_ne h0 h4).2, fun k' a b c' s' h e => ?_⟩
  obtain ⟨s2, h2⟩ := base_form a b
  rw [h2] at h
  simp only [List.cons.injEq] at h
  exact hd1_inj h0 h4 a b (e.trans h.1.symm)
theorem nameInner {t : Ty} (h : recOk t.names t.kids = true) : ∀ x ∈ t.names.zip t.kids, (innerW (bL x.1) ∧ bL x.1 ≠ []) ∧ x.2 ∈ t.kids := fun x hx => by
  obtain ⟨_, _, h3, _⟩ := recOk_iff.1 h
  have := List.of_mem_zip hx
  exact ⟨nameB_inner (h3 x.1 this.1), this.2⟩
theorem inT_atoms (t : Ty) : inT t = barL (atoms t) := by
  by_cases h6 : t.kind = 6
  · unfold atoms
    rw [if_neg (by omega)]
    simp [barL]
  · rw [inT_other h6, barL_atoms h6]
theorem atoms_small {t x : Ty} (h : x ∈ atoms t) : x = t ∨ x ∈ t.kids := by
  unfold atoms at h
  split at h
  · exact .inr h
  · exact .inl (List.mem_singleton.1 h)
theorem kid0 {a a1 b1 : Ty} {r r' : List UInt8} (ih : ∀ k : Ty, k.size < a.size → NF k → (k.kind ≠ 7 → InjI k) ∧ InjS k) (ha : NF a1) (hs : a1.size < a.size) (hb : NF b1) (hr : RU r) (hr' : RU r') (h : inT a1 ++ r = barL (atoms b1) ++ r') : a1 = b1 ∧ r = r' := by
  rw [inT_atoms] at h
  obtain ⟨h1, h2⟩ := barL_inj ha.atoms.2 hb.atoms.2 (fun x hx => by
    have hn := ha.atoms.1 x hx
    refine (ih x ?_ hn.1).1 hn.2
    rcases atoms_small hx with rfl | hx
    · exact hs
    · have := Ty.kid_lt hx; omega) hb.atoms.1 hr hr' h
  exact ⟨atoms_inj ha hb h1, h2⟩
theorem RU_32 (s : List UInt8) : RU (32 :: 45 :: s) := .inr ⟨s, rfl⟩
theorem show_inj_both (a : Ty) : NF a → (a.kind ≠ 7 → InjI a) ∧ InjS a := by
  induction a using Ty.ind with
  | h a ih =>
    intro ha
    have hI : a.kind ≠ 7 → InjI a := by
      intro ha7 b r r' hb hb7 h
      cases ha.form ha7 with
      | base an a0 a4 ans aks ae =>
        obtain ⟨c, s, hc, hc1, hc2, hc3⟩ := base_hd a0 a4
        rw [ae, hc] at h
        cases hb.form hb7 with
        | base bn b0 b4 bns bks be =>
          obtain ⟨c', s', hc', _, _, _⟩ := base_hd b0 b4
          rw [be, hc'] at h
          simp only [List.cons_append, List.cons.injEq] at h
          have hk := hc3 _ b0 b4 c' s' hc' h.1
          have hab : a = b := Ty.ext' hk (by rw [an, bn]) (by rw [ans, bns]) (by rw [aks, bks])
          subst hab
          rw [hc] at hc'
          simp only [List.cons.injEq] at hc'
          rw [hc'.2] at h
          exact ⟨rfl, List.append_cancel_left h.2⟩
        | rcd bn b5 bok be =>
          rw [be] at h
          simp only [List.cons_append, List.cons.injEq] at h
          exact absurd h.1 hc1
        | fn b1 b2 bn b6 bns bks be =>
          rw [be] at h
          simp only [List.cons_append, List.cons.injEq] at h
          exact absurd h.1 hc2
      | rcd an a5 aok ae =>
        rw [ae] at h
        cases hb.form hb7 with
        | base bn b0 b4 bns bks be =>
          obtain ⟨c', s', hc', q1, q2, _⟩ := base_hd b0 b4
          rw [be, hc'] at h
          simp only [List.cons_append, List.cons.injEq] at h
          exact absurd h.1.symm q1
        | rcd bn b5 bok be =>
          rw [be] at h
          simp only [List.cons_append, List.cons.injEq, true_and, List.append_assoc, List.nil_append] at h
          obtain ⟨h1, h2⟩ := fdsL_inj (fun x hx => ⟨(nameInner aok x hx).1, (ih x.2 (Ty.kid_lt (nameInner aok x hx).2) (ha.kid _ (nameInner aok x hx).2)).2⟩) (fun x hx => ⟨(nameInner bok x hx).1, hb.kid _ (nameInner bok x hx).2⟩) h
          obtain ⟨al, _⟩ := recOk_iff.1 aok
          obtain ⟨bl, _⟩ := recOk_iff.1 bok
          have e1 := congrArg (List.map (·.1)) h1
          have e2 := congrArg (List.map (·.2)) h1
          rw [zip_fst al, zip_fst bl] at e1
          rw [zip_snd al, zip_snd bl] at e2
          exact ⟨Ty.ext' (by rw [a5, b5]) (by rw [an, bn]) e1 e2, h2⟩
        | fn b1 b2 bn b6 bns bks be =>
          rw [be] at h
          simp only [List.cons_append, List.cons.injEq] at h
          exact absurd h.1 (by decide)
      | fn a1 a2 an a6 ans aks ae =>
        rw [ae] at h
        cases hb.form hb7 with
        | base bn b0 b4 bns bks be =>
          obtain ⟨c', s', hc', q1, q2, _⟩ := base_hd b0 b4
          rw [be, hc'] at h
          simp only [List.cons_append, List.cons.injEq] at h
          exact absurd h.1.symm q2
        | rcd bn b5 bok be =>
          rw [be] at h
          simp only [List.cons_append, List.cons.injEq] at h
          exact absurd h.1 (by decide)
        | fn b1 b2 bn b6 bns bks be =>
          rw [be] at h
          simp only [List.cons_append, List.cons.injEq, true_and, List.append_assoc, List.nil_append] at h
          have k1 : a1 ∈ a.kids := by rw [aks]; simp
          have k2 : a2 ∈ a.kids := by rw [aks]; simp
          have j1 : b1 ∈ b.kids := by rw [bks]; simp
          have j2 : b2 ∈ b.kids := by rw [bks]; simp
          rw [inT_atoms b1] at h
          obtain ⟨h1, h2⟩ := kid0 ih (ha.kid _ k1) (Ty.kid_lt k1) (hb.kid _ j1) (RU_32 _) (RU_32 _) h
          subst h1
          simp only [List.cons.injEq, true_and] at h2
          obtain ⟨h3, h4⟩ := (ih a2 (Ty.kid_lt k2) (ha.kid _ k2)).2 b2 _ _ (hb.kid _ j2) (R0_41 _) (R0_41 _) h2
          subst h3
          simp only [List.cons.injEq, true_and] at h4
          exact ⟨Ty.ext' (by rw [a6, b6]) (by rw [an, bn]) (by rw [ans, bns]) (by rw [aks, bks]), h4⟩
    refine ⟨hI, fun b r r' hb hr hr' h => ?_⟩
    have hfun : ∀ {t : Ty}, NF t → t.kind = 6 → ∃ x y, t.kids = [x, y] ∧ t.name = ⟨#[]⟩ ∧ t.names = [] := fun {t} ht h6 => by
      obtain ⟨hn, hh⟩ := ht.head
      rcases hh with ⟨h1, h2, h3, h4⟩ | ⟨h5, _⟩ | ⟨_, h8, h9⟩ | ⟨h8, _⟩
      · omega
      · omega
      · match hk : t.kids, h9 with
        | [x, y], _ => exact ⟨x, y, rfl, hn, h8⟩
      · omega
    by_cases ha6 : a.kind = 6
    · obtain ⟨a1, a2, aks, an, ans⟩ := hfun ha ha6
      have k1 : a1 ∈ a.kids := by rw [aks]; simp
      have k2 : a2 ∈ a.kids := by rw [aks]; simp
      rw [show_fun ha6 aks] at h
      simp only [List.append_assoc, List.cons_append, List.nil_append] at h
      by_cases hb6 : b.kind = 6
      · obtain ⟨b1, b2, bks, bn, bns⟩ := hfun hb hb6
        have j1 : b1 ∈ b.kids := by rw [bks]; simp
        have j2 : b2 ∈ b.kids := by rw [bks]; simp
        rw [show_fun hb6 bks] at h
        simp only [List.append_assoc, List.cons_append, List.nil_append] at h
        rw [inT_atoms b1] at h
        obtain ⟨h1, h2⟩ := kid0 ih (ha.kid _ k1) (Ty.kid_lt k1) (hb.kid _ j1) (RU_32 _) (RU_32 _) h
        subst h1
        simp only [List.cons.injEq, true_and] at h2
        obtain ⟨h3, h4⟩ := (ih a2 (Ty.kid_lt k2) (ha.kid _ k2)).2 b2 _ _ (hb.kid _ j2) hr hr' h2
        subst h3
        exact ⟨Ty.ext' (by rw [ha6, hb6]) (by rw [an, bn]) (by rw [ans, bns]) (by rw [aks, bks]), h4⟩
      · rw [barL_atoms hb6] at h
        obtain ⟨_, h2⟩ := kid0 ih (ha.kid _ k1) (Ty.kid_lt k1) hb (RU_32 _) (.inl hr') h
        rw [← h2] at hr'
        exact hr'.no32.elim
    · rw [barL_atoms ha6] at h
      have hat : ∀ x ∈ atoms a, InjI x := fun x hx => by
        have hn := ha.atoms.1 x hx
        rcases atoms_small hx with rfl | hx'
        · exact hI hn.2
        · exact (ih x (Ty.kid_lt hx') hn.1).1 hn.2
      by_cases hb6 : b.kind = 6
      · obtain ⟨b1, b2, bks, bn, bns⟩ := hfun hb hb6
        have j1 : b1 ∈ b.kids := by rw [bks]; simp
        rw [show_fun hb6 bks] at h
        simp only [List.append_assoc, List.cons_append, List.nil_append] at h
        rw [inT_atoms b1] at h
        obtain ⟨_, h2⟩ := barL_inj ha.atoms.2 (hb.kid _ j1).atoms.2 hat (hb.kid _ j1).atoms.1 (.inl hr) (RU_32 _) h
        rw [h2] at hr
        exact hr.no32.elim
      · rw [barL_atoms hb6] at h
        obtain ⟨h1, h2⟩ := barL_inj ha.atoms.2 hb.atoms.2 hat hb.atoms.1 (.inl hr) (.inl hr') h
        exact ⟨atoms_inj ha hb h1, h2⟩
/-- Two normal types that are shown alike are the same. -/
theorem show_inj {a b : Ty} (ha : NF a) (hb : NF b) (h : showT a = showT b) : a = b :=
  ((show_inj_both a ha).2 b [] [] hb (.inl rfl) (.inl rfl) (by rw [h])).1
theorem ShowS_inj {a b : Ty} (h : ShowS a = ShowS b) (hne : ShowS a ≠ ⟨#[]⟩) : a = b := by
  have f : ∀ {t : Ty}, ShowS t ≠ ⟨#[]⟩ → NormT t = some t := fun {t} h => by
    unfold ShowS at h
    split at h
    · assumption
    · exact absurd rfl h
  have ha := f hne
  have hb := f (t := b) (by rw [← h]; exact hne)
  unfold ShowS at h
  rw [if_pos ha, if_pos hb] at h
  exact show_inj (NormT_nf ha).1 (NormT_nf hb).1 h
end Go.Proofs.YtbanpohholnkaaaDoor
