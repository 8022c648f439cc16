/-
  What the laws of layer 6 say, in plain Lean. Conditions: none; no program.
-/
import Derived.Test.YtbanpohholnkaaaDoorRel
namespace Go.Proofs.YtbanpohholnkaaaDoor

/-- A part of a normal type that is not any. -/
structure Prt (t : Ty) (tag : Nat) (m : Bool × Ty) : Prop where
  shut : m.1 = false
  nf : NF m.2
  knd : m.2.kind = (tag : Int) + 1
  mem : m.2 ∈ atoms t
  lt : ∀ k ∈ m.2.kids, k.size < t.size
theorem atoms_tag {t x : Ty} (h : NF t) (h0 : t.kind ≠ 0) (hx : x ∈ atoms t) : 0 ≤ tagT x ∧ x.kind = tagT x + 1 := by
  have h1 := (h.atoms.1 x hx).1.kinds
  have h7 := (h.atoms.1 x hx).2
  have hn : x.kind ≠ 0 := by
    unfold atoms at hx
    split at hx
    · rename_i h7
      have := (h.uni h7).2.2.2.1 x hx
      intro e
      rw [tagT_out (by omega)] at this
      omega
    · rw [List.mem_singleton.1 hx]; exact h0
  rw [tagT_in (by omega) (by omega)]
  omega
theorem prt_prt {t : Ty} {tag : Nat} {m : Bool × Ty} (h : NF t) (h0 : t.kind ≠ 0) (hp : prt t tag = some m) : Prt t tag m := by
  have hs := (prt_small hp).elim id fun x => absurd x.1 h0
  unfold prt at hp
  rw [if_neg h0] at hp
  simp only [Option.map_eq_some_iff] at hp
  obtain ⟨k, hk, rfl⟩ := hp
  have h1 := List.mem_of_find?_eq_some hk
  have h2 := List.find?_some hk
  simp only [decide_eq_true_eq] at h2
  have := (atoms_tag h h0 h1).2
  exact ⟨rfl, (h.atoms.1 k h1).1, (show k.kind = _ by omega), h1, hs⟩
theorem atoms_rise {t : Ty} (h : NF t) (h0 : t.kind ≠ 0) : Rise (atoms t) := by
  by_cases h7 : t.kind = 7
  · have e : atoms t = t.kids := by unfold atoms; rw [if_pos h7]
    rw [e]
    exact (h.uni h7).2.2.2
  · have e : atoms t = [t] := by unfold atoms; rw [if_neg h7]
    have := atoms_tag h h0 (x := t) (by rw [e]; simp)
    rw [e]
    exact ⟨fun x hx => by rw [List.mem_singleton.1 hx]; exact this.1, List.pairwise_singleton _ _⟩
theorem prt_atom {t x : Ty} {tag : Nat} (h : NF t) (h0 : t.kind ≠ 0) (hx : x ∈ atoms t) (ht : tagT x = tag) : prt t tag = some (false, x) := by
  unfold prt
  rw [if_neg h0]
  cases hf : (atoms t).find? fun k => decide (tagT k = (tag : Int)) with
  | none =>
    have := List.find?_eq_none.1 hf x hx
    simp [ht] at this
  | some k =>
    have h1 := List.find?_some hf
    simp only [decide_eq_true_eq] at h1
    rw [(atoms_rise h h0).ok.2 k (List.mem_of_find?_eq_some hf) x hx (by omega)]
    rfl
theorem prt_tag {t : Ty} {tag : Nat} {m : Bool × Ty} (h : NF t) (h0 : t.kind ≠ 0) (hp : prt t tag = some m) : tag < 6 := by
  have h1 := prt_prt h h0 hp
  have h2 := h1.nf.kinds
  have h3 := (h.atoms.1 _ h1.mem).2
  have := h1.knd
  omega
theorem prt_any (tag : Nat) {t : Ty} (h : t.kind = 0) : prt t tag = some (decide (tag = 4), anyP tag) := by
  unfold prt
  rw [if_pos h]
theorem NF.any {t : Ty} (h : NF t) (h0 : t.kind = 0) : t = ty0 := by
  obtain ⟨hn, hh⟩ := h.head
  rcases hh with ⟨h1, h2, h3, h4⟩ | ⟨h5, _⟩ | ⟨h6, _⟩ | ⟨h7, _⟩
  · exact Ty.ext' h0 hn h3 h4
  · omega
  · omega
  · omega
/-- What a part of each tag has. -/
theorem Prt.base {t : Ty} {tag : Nat} {m : Bool × Ty} (h : Prt t tag m) (h4 : tag < 4) : m.2.names = [] ∧ m.2.kids = [] := by
  have := h.knd
  obtain ⟨hn, hh⟩ := h.nf.head
  rcases hh with ⟨h1, h2, h3, h4⟩ | ⟨h5, _⟩ | ⟨h6, _⟩ | ⟨h7, _⟩
  · exact ⟨h3, h4⟩
  · omega
  · omega
  · omega
theorem Prt.recd {t : Ty} {tag : Nat} {m : Bool × Ty} (h : Prt t tag m) (h4 : tag = 4) : m.2.names.length = m.2.kids.length ∧ m.2.names.Nodup ∧ Strict (m.2.names.zip m.2.kids) := by
  have := h.knd
  obtain ⟨hn, hh⟩ := h.nf.head
  rcases hh with ⟨h1, h2, _⟩ | ⟨h5, h6, h7⟩ | ⟨h6, _⟩ | ⟨h7, _⟩
  · omega
  · obtain ⟨a, b, c, d⟩ := recOk_iff.1 h6
    exact ⟨a, d, h7⟩
  · omega
  · omega
theorem Prt.fun_ {t : Ty} {tag : Nat} {m : Bool × Ty} (h : Prt t tag m) (h5 : tag = 5) : m.2.names = [] ∧ ∃ x y, m.2.kids = [x, y] ∧ NF x ∧ NF y ∧ x.size < t.size ∧ y.size < t.size := by
  have := h.knd
  obtain ⟨hn, hh⟩ := h.nf.head
  rcases hh with ⟨h1, h2, _⟩ | ⟨h5, _⟩ | ⟨h6, h7, h8⟩ | ⟨h7, _⟩
  · omega
  · omega
  · refine ⟨h7, ?_⟩
    match hk : m.2.kids, h8 with
    | [x, y], _ => exact ⟨x, y, rfl, h.nf.kid x (by rw [hk]; simp), h.nf.kid y (by rw [hk]; simp), h.lt x (by rw [hk]; simp), h.lt y (by rw [hk]; simp)⟩
  · omega
theorem Prt.len {t : Ty} {tag : Nat} {m : Bool × Ty} (h : Prt t tag m) (h5 : tag < 5) : m.2.names.length = m.2.kids.length := by
  by_cases h4 : tag = 4
  · exact (h.recd h4).1
  · obtain ⟨a, b⟩ := h.base (by omega)
    rw [a, b]
    rfl
/-- A field of a record is found. -/
theorem fld_zip {t : Ty} {x : Ft} (hn : t.names.Nodup) (hl : t.names.length = t.kids.length) (h : x ∈ t.names.zip t.kids) : fld t x.1 = some x.2 := by
  unfold fld
  have hz : (t.names.zip t.kids).map (·.1) = t.names := zip_fst hl
  have hnd : ((t.names.zip t.kids).map (·.1)).Nodup := by rw [hz]; exact hn
  cases hf : (t.names.zip t.kids).find? fun y => decide (y.1 = x.1) with
  | none =>
    have := List.find?_eq_none.1 hf x h
    simp at this
  | some y =>
    have h1 := List.find?_some hf
    have h2 := List.mem_of_find?_eq_some hf
    simp only [decide_eq_true_eq] at h1
    simp only [Option.map_some, Option.some.injEq]
    obtain ⟨i, hi⟩ := List.mem_iff_getElem?.1 h
    obtain ⟨j, hj⟩ := List.mem_iff_getElem?.1 h2
    have e1 : ((t.names.zip t.kids).map (·.1))[i]? = some x.1 := by rw [List.getElem?_map, hi]; rfl
    have e2 : ((t.names.zip t.kids).map (·.1))[j]? = some x.1 := by rw [List.getElem?_map, hj]; simp [h1]
    have hij : i = j := (List.getElem?_inj (List.getElem?_eq_some_iff.1 e1).1 hnd).1 (e1.trans e2.symm)
    subst hij
    rw [hi] at hj
    exact congrArg Prod.snd (Option.some.inj hj).symm
theorem fld_some {t k : Ty} {s : ByteArray} (h : fld t s = some k) : (s, k) ∈ t.names.zip t.kids := by
  unfold fld at h
  simp only [Option.map_eq_some_iff] at h
  obtain ⟨x, hx, rfl⟩ := h
  have h1 := List.find?_some hx
  simp only [decide_eq_true_eq] at h1
  rw [← h1]
  exact List.mem_of_find?_eq_some hx
theorem kidT_shut {p : Bool × Ty} {s : ByteArray} (h : p.1 = false) : kidT p s = fld p.2 s := by
  unfold kidT
  cases fld p.2 s with
  | some k => rfl
  | none => simp [h]
theorem Prt.zip {t : Ty} {tag : Nat} {m : Bool × Ty} (h : Prt t tag m) {x : Ft} (hx : x ∈ m.2.names.zip m.2.kids) : tag = 4 ∧ kidT m x.1 = some x.2 ∧ NF x.2 ∧ x.2.size < t.size := by
  have ht : tag = 4 := by
    by_cases h4 : tag < 4
    · rw [(h.base h4).1] at hx
      cases hx
    · have := h.knd
      have := h.nf.kinds
      by_cases h5 : tag = 5
      · rw [(h.fun_ h5).1] at hx
        cases hx
      · by_cases h6 : tag = 6
        · obtain ⟨_, hh⟩ := h.nf.head
          rcases hh with ⟨h1, h2, _⟩ | ⟨h5, _⟩ | ⟨h6, _⟩ | ⟨h7, h8, _⟩
          · omega
          · omega
          · omega
          · rw [h8] at hx
            cases hx
        · omega
  obtain ⟨a, b, c⟩ := h.recd ht
  have hk := (List.of_mem_zip hx).2
  exact ⟨ht, by rw [kidT_shut h.shut]; exact fld_zip b a hx, h.nf.kid _ hk, h.lt _ hk⟩
theorem Prt.found {t : Ty} {tag : Nat} {m : Bool × Ty} (h : Prt t tag m) {s : ByteArray} {k : Ty} (hk : kidT m s = some k) : (s, k) ∈ m.2.names.zip m.2.kids ∧ NF k ∧ k.size < t.size := by
  rw [kidT_shut h.shut] at hk
  have := fld_some hk
  have hk := (List.of_mem_zip this).2
  exact ⟨this, h.nf.kid _ hk, h.lt _ hk⟩
theorem eachB_same {a b : Ty} {ms : Bool} {f : Nat → Bool × Ty → Bool × Ty → Bool} (h : eachB a b ms f = true) {tag : Nat} {m p : Bool × Ty} (ht : tag < 6) (hm : prt a tag = some m) (hp : prt b tag = some p) : f tag m p = true :=
  (eachB_iff.1 h tag ht m hm).2 p hp
theorem belP_iff {f : Ty → Ty → Bool} {tag : Nat} {m p : Bool × Ty} : belP f tag m p = true ↔ (∀ x ∈ p.2.names.zip p.2.kids, ∃ k, kidT m x.1 = some k ∧ f k x.2 = true) ∧ (tag = 5 → ∃ pa pb pr ma mb mr, p.2.kids = pa :: pb :: pr ∧ m.2.kids = ma :: mb :: mr ∧ f pa ma = true ∧ f mb pb = true) := by
  unfold belP
  rw [Bool.and_eq_true, allz_iff]
  refine and_congr ⟨fun h x hx => ?_, fun h x hx => ?_⟩ ?_
  · have := h x hx
    cases hk : kidT m x.1 with
    | none => rw [hk] at this; cases this
    | some k => rw [hk] at this; exact ⟨k, rfl, this⟩
  · obtain ⟨k, hk, hf⟩ := h x hx
    rw [hk]
    exact hf
  · by_cases h5 : tag = 5
    · subst h5
      simp only [ne_eq, not_true_eq_false, decide_false, Bool.false_or, true_imp_iff]
      match hx : p.2.kids, hy : m.2.kids with
      | pa :: pb :: pr, ma :: mb :: mr =>
        simp only [Bool.and_eq_true]
        exact ⟨fun h => ⟨pa, pb, pr, ma, mb, mr, rfl, rfl, h.1, h.2⟩, fun ⟨_, _, _, _, _, _, h1, h2, h3, h4⟩ => by
          simp only [List.cons.injEq] at h1 h2
          obtain ⟨rfl, rfl, _⟩ := h1
          obtain ⟨rfl, rfl, _⟩ := h2
          exact ⟨h3, h4⟩⟩
      | [], _ => simp
      | [_], _ => simp
      | _ :: _ :: _, [] => simp
      | _ :: _ :: _, [_] => simp
    · simp [h5]
/-- Each normal type is below itself. -/
theorem below_refl (l : Bool) (t : Ty) : NF t → belowT l t t = true := by
  induction t using Ty.ind with
  | h t ih =>
    intro h
    rw [belowT_eq]
    by_cases h0 : t.kind = 0
    · rw [if_pos (.inl h0)]
      simp [h0]
    · rw [if_neg (by omega)]
      refine eachB_iff.2 fun tag _ m hm => ⟨fun hn => (by rw [hn] at hm; cases hm), fun p hp => ?_⟩
      obtain rfl : m = p := Option.some.inj (hm.symm.trans hp)
      have hP := prt_prt h h0 hm
      refine belP_iff.2 ⟨fun x hx => ?_, fun h5 => ?_⟩
      · obtain ⟨_, h1, h2, h3⟩ := hP.zip hx
        exact ⟨x.2, h1, ih _ h3 h2⟩
      · obtain ⟨_, x, y, h1, h2, h3, h4, h5⟩ := hP.fun_ h5
        exact ⟨x, y, [], x, y, [], h1, h1, ih x h4 h2, ih y h5 h3⟩
theorem Strict.unique : ∀ {a b : List Ft}, Strict a → Strict b → (∀ x, x ∈ a ↔ x ∈ b) → a = b
  | [], [], _, _, _ => rfl
  | [], y :: b, _, _, h => absurd ((h y).2 List.mem_cons_self) (by simp)
  | x :: a, [], _, _, h => absurd ((h x).1 List.mem_cons_self) (by simp)
  | x :: a, y :: b, ha, hb, h => by
    obtain ⟨a1, a2⟩ := List.pairwise_cons.1 ha
    obtain ⟨b1, b2⟩ := List.pairwise_cons.1 hb
    have hxy : x = y := by
      rcases List.mem_cons.1 ((h x).1 List.mem_cons_self) with e | hx
      · exact e
      · rcases List.mem_cons.1 ((h y).2 List.mem_cons_self) with e | hy
        · exact e.symm
        · have h1 := a1 y hy
          have h2 := b1 x hx
          rw [ltS_asymm h1] at h2
          cases h2
    subst hxy
    congr 1
    refine Strict.unique a2 b2 fun z => ⟨fun hz => ?_, fun hz => ?_⟩
    · rcases List.mem_cons.1 ((h z).1 (List.mem_cons_of_mem _ hz)) with rfl | hz'
      · have := a1 z hz; rw [ltS_irrefl] at this; cases this
      · exact hz'
    · rcases List.mem_cons.1 ((h z).2 (List.mem_cons_of_mem _ hz)) with rfl | hz'
      · have := b1 z hz; rw [ltS_irrefl] at this; cases this
      · exact hz'
/-- Two normal types that are Sub of one another are the same. -/
theorem below_antisymm (a : Ty) : ∀ b, NF a → NF b → belowT false a b = true → belowT false b a = true → a = b := by
  induction a using Ty.ind with
  | h a ih =>
    intro b ha hb h h'
    rw [belowT_eq] at h h'
    by_cases h0 : a.kind = 0 ∨ b.kind = 0
    · rw [if_pos h0] at h
      simp only [Bool.false_or, Bool.and_eq_true, decide_eq_true_eq] at h
      rw [ha.any h.1, hb.any h.2]
    · rw [if_neg h0] at h
      rw [if_neg (by omega)] at h'
      have a0 : a.kind ≠ 0 := by omega
      have b0 : b.kind ≠ 0 := by omega
      have key : ∀ tag m p, prt a tag = some m → prt b tag = some p → m.2 = p.2 := by
        intro tag m p hm hp
        have ht := prt_tag ha a0 hm
        have hM := prt_prt ha a0 hm
        have hP := prt_prt hb b0 hp
        have e1 := belP_iff.1 (eachB_same h ht hm hp)
        have e2 := belP_iff.1 (eachB_same h' ht hp hm)
        have hn : m.2.name = p.2.name := by rw [hM.nf.head.1, hP.nf.head.1]
        have hkk : m.2.kind = p.2.kind := by rw [hM.knd, hP.knd]
        by_cases h4 : tag < 4
        · obtain ⟨x1, x2⟩ := hM.base h4
          obtain ⟨y1, y2⟩ := hP.base h4
          exact Ty.ext' hkk hn (by rw [x1, y1]) (by rw [x2, y2])
        · by_cases h5 : tag = 5
          · obtain ⟨x1, x, y, x2, nx, ny, sx, sy⟩ := hM.fun_ h5
            obtain ⟨y1, u, v, y2, nu, nv, su, sv⟩ := hP.fun_ h5
            obtain ⟨_, _, _, _, _, _, f1, f2, f3, f4⟩ := e1.2 h5
            obtain ⟨_, _, _, _, _, _, g1, g2, g3, g4⟩ := e2.2 h5
            rw [y2] at f1 g2
            rw [x2] at f2 g1
            simp only [List.cons.injEq] at f1 f2 g1 g2
            obtain ⟨rfl, rfl, _⟩ := f1
            obtain ⟨rfl, rfl, _⟩ := f2
            obtain ⟨rfl, rfl, _⟩ := g1
            obtain ⟨rfl, rfl, _⟩ := g2
            have ex : x = u := ih x sx u nx nu g3 f3
            have ey : y = v := ih y sy v ny nv f4 g4
            exact Ty.ext' hkk hn (by rw [x1, y1]) (by rw [x2, y2, ex, ey])
          · have h4 : tag = 4 := by omega
            obtain ⟨r1, r2, r3⟩ := hM.recd h4
            obtain ⟨s1, s2, s3⟩ := hP.recd h4
            have hz : m.2.names.zip m.2.kids = p.2.names.zip p.2.kids := Strict.unique r3 s3 fun x => by
              constructor
              · intro hx
                obtain ⟨k, hk, hf⟩ := e2.1 x hx
                obtain ⟨hz, hnk, _⟩ := hP.found hk
                obtain ⟨j, hj, hg⟩ := e1.1 (x.1, k) hz
                obtain ⟨_, q1, q2, q3⟩ := hM.zip hx
                simp only at hj
                rw [q1] at hj
                obtain rfl := Option.some.inj hj
                have := ih x.2 q3 k q2 hnk hg hf
                rw [show x = (x.1, k) by rw [← this]]
                exact hz
              · intro hx
                obtain ⟨k, hk, hf⟩ := e1.1 x hx
                obtain ⟨hz, hnk, hsk⟩ := hM.found hk
                obtain ⟨j, hj, hg⟩ := e2.1 (x.1, k) hz
                obtain ⟨_, q1, q2, q3⟩ := hP.zip hx
                simp only at hj
                rw [q1] at hj
                obtain rfl := Option.some.inj hj
                have := ih k hsk x.2 hnk q2 hf hg
                rw [show x = (x.1, k) by rw [this]]
                exact hz
            exact Ty.ext' hkk hn (by rw [← zip_fst r1, hz, zip_fst s1]) (by rw [← zip_snd r1, hz, zip_snd s1])
      refine atoms_inj ha hb (Rise.unique (atoms_rise ha a0) (atoms_rise hb b0) fun x => ⟨fun hx => ?_, fun hx => ?_⟩)
      · have ht := (atoms_tag ha a0 hx).1
        have hm := prt_atom (tag := (tagT x).toNat) ha a0 hx (by omega)
        have hlt := prt_tag ha a0 hm
        cases hp : prt b (tagT x).toNat with
        | none => have := (eachB_iff.1 h _ hlt _ hm).1 hp; cases this
        | some p =>
          rw [show x = p.2 from key _ _ _ hm hp]
          exact (prt_prt hb b0 hp).mem
      · have ht := (atoms_tag hb b0 hx).1
        have hm := prt_atom (tag := (tagT x).toNat) hb b0 hx (by omega)
        have hlt := prt_tag hb b0 hm
        cases hp : prt a (tagT x).toNat with
        | none => have := (eachB_iff.1 h' _ hlt _ hm).1 hp; cases this
        | some p =>
          rw [show x = p.2 from (key _ _ _ hp hm).symm]
          exact (prt_prt ha a0 hp).mem
end Go.Proofs.YtbanpohholnkaaaDoor
