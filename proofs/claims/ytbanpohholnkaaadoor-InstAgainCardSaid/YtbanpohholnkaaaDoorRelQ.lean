/-
  The laws of layer 6 in plain Lean, part 2. Conditions: none; no program.
-/
import Derived.Test.YtbanpohholnkaaaDoorRelP
namespace Go.Proofs.YtbanpohholnkaaaDoor

theorem blaP_fun {f : Bool → Ty → Ty → Bool} {pos : Bool} {m p : Bool × Ty} {pa pb ma mb : Ty} {pr mr : List Ty} (h1 : p.2.kids = pa :: pb :: pr) (h2 : m.2.kids = ma :: mb :: mr) : blaP f pos 5 m p = (f (!pos) pa ma && f pos mb pb) := by
  unfold blaP
  rw [if_pos rfl, h1, h2]
theorem blaP_rec {f : Bool → Ty → Ty → Bool} {pos : Bool} {tag : Nat} {m p : Bool × Ty} (h5 : tag ≠ 5) : blaP f pos tag m p = true ↔
    ∀ x ∈ (if p.1 = true then m.2.names.map fun s => (s, ty0) else p.2.names.zip p.2.kids), (∀ k, kidT m x.1 = some k → (pos = true → m.1 = false) ∧ f pos k x.2 = true) ∧ (kidT m x.1 = none → pos = false) := by
  unfold blaP
  rw [if_neg h5, allz_iff]
  refine forall_congr' fun x => forall_congr' fun hx => ?_
  cases hk : kidT m x.1 with
  | none => simp
  | some k =>
    simp only [Option.some.injEq, forall_eq', reduceCtorEq, false_imp_iff, and_true, Bool.and_eq_true]
    refine and_congr ?_ Iff.rfl
    cases pos <;> cases m.1 <;> simp
theorem anyP_fun : (anyP 5).kids = [ty0, ty0] := rfl
theorem anyP_names (tag : Nat) : (anyP tag).names = [] := by unfold anyP; split <;> rfl
theorem fld_none {t : Ty} {s : ByteArray} (h : t.names = []) : fld t s = none := by unfold fld; rw [h]; rfl
/-- Each normal type goes into any without blaming its own side, and any into it without the other one. -/
theorem any_both (t : Ty) : NF t → blamesT true t ty0 = true ∧ blamesT false ty0 t = true := by
  induction t using Ty.ind with
  | h t ih =>
    intro h
    by_cases h0 : t.kind = 0
    · rw [h.any h0]
      constructor <;> rw [blamesT_eq, if_pos ⟨rfl, rfl⟩]
    · constructor
      · rw [blamesT_eq, if_neg fun x => h0 x.1]
        refine eachB_iff.2 fun tag _ m hm => ?_
        rw [prt_any tag (t := ty0) rfl]
        refine ⟨fun hn => (by cases hn), fun p hp => ?_⟩
        obtain rfl := Option.some.inj hp
        have hM := prt_prt h h0 hm
        by_cases h5 : tag = 5
        · obtain ⟨_, x, y, h1, nx, ny, sx, sy⟩ := hM.fun_ h5
          subst h5
          rw [blaP_fun (pa := ty0) (pb := ty0) rfl h1, Bool.and_eq_true]
          exact ⟨(ih x sx nx).2, (ih y sy ny).1⟩
        · refine (blaP_rec h5).2 fun x hx => ?_
          by_cases h4 : tag = 4
          · rw [if_pos (by simpa using h4)] at hx
            obtain ⟨s, hs, rfl⟩ := List.mem_map.1 hx
            obtain ⟨i, hi⟩ := List.mem_iff_getElem?.1 hs
            obtain ⟨k, hk⟩ : ∃ k, m.2.kids[i]? = some k := ⟨_, List.getElem?_eq_getElem (by have := (List.getElem?_eq_some_iff.1 hi).1; have := (hM.recd h4).1; omega)⟩
            obtain ⟨_, h1, h2, h3⟩ := hM.zip (x := (s, k)) (List.mem_of_getElem? (List.getElem?_zip_eq_some.2 ⟨hi, hk⟩))
            simp only at h1 h2 h3 ⊢
            refine ⟨fun k' hk' => ?_, fun hn => by rw [h1] at hn; cases hn⟩
            rw [h1] at hk'
            obtain rfl := Option.some.inj hk'
            exact ⟨fun _ => hM.shut, (ih k h3 h2).1⟩
          · rw [if_neg (by simpa using h4)] at hx
            simp only [anyP_names, List.zip_nil_left, List.not_mem_nil] at hx
      · rw [blamesT_eq, if_neg fun x => h0 x.2]
        refine eachB_iff.2 fun tag _ m hm => ?_
        rw [prt_any tag (t := ty0) rfl] at hm
        obtain rfl := Option.some.inj hm
        refine ⟨fun _ => rfl, fun p hp => ?_⟩
        have hP := prt_prt h h0 hp
        by_cases h5 : tag = 5
        · obtain ⟨_, x, y, h1, nx, ny, sx, sy⟩ := hP.fun_ h5
          subst h5
          rw [blaP_fun (ma := ty0) (mb := ty0) h1 rfl, Bool.and_eq_true]
          exact ⟨(ih x sx nx).1, (ih y sy ny).2⟩
        · refine (blaP_rec h5).2 fun x hx => ?_
          rw [if_neg (by rw [hP.shut]; simp)] at hx
          obtain ⟨h4, h1, h2, h3⟩ := hP.zip hx
          have hk : kidT (decide (tag = 4), anyP tag) x.1 = some ty0 := by
            unfold kidT
            simp only [fld_none (anyP_names tag)]
            rw [if_pos (by simpa using h4)]
          refine ⟨fun k' hk' => ?_, fun _ => rfl⟩
          rw [hk] at hk'
          obtain rfl := Option.some.inj hk'
          exact ⟨fun h => (by cases h), (ih _ h3 h2).2⟩
theorem naiP_iff {f : Ty → Ty → Bool} {tag : Nat} {m p : Bool × Ty} : naiP f tag m p = true ↔ m.2.names = p.2.names ∧ m.2.kids.length = p.2.kids.length ∧ ∀ x ∈ m.2.kids.zip p.2.kids, f x.1 x.2 = true := by
  unfold naiP
  rw [Bool.and_eq_true, Bool.and_eq_true, allz_iff, decide_eq_true_eq, decide_eq_true_eq]
theorem zip_right {ns : List ByteArray} {ks ls : List Ty} (hl : ks.length = ls.length) {x : Ft} (h : x ∈ ns.zip ls) : ∃ k, (x.1, k) ∈ ns.zip ks ∧ (k, x.2) ∈ ks.zip ls := by
  obtain ⟨i, hi⟩ := List.mem_iff_getElem?.1 h
  obtain ⟨h1, h2⟩ := List.getElem?_zip_eq_some.1 hi
  obtain ⟨k, hk⟩ : ∃ k, ks[i]? = some k := ⟨_, List.getElem?_eq_getElem (by have := (List.getElem?_eq_some_iff.1 h2).1; omega)⟩
  exact ⟨k, List.mem_of_getElem? (List.getElem?_zip_eq_some.2 ⟨h1, hk⟩), List.mem_of_getElem? (List.getElem?_zip_eq_some.2 ⟨hk, h2⟩)⟩
theorem zip_left {ns : List ByteArray} {ks ls : List Ty} (hl : ks.length = ls.length) {x : Ft} (h : x ∈ ns.zip ks) : ∃ k, (x.1, k) ∈ ns.zip ls ∧ (x.2, k) ∈ ks.zip ls := by
  obtain ⟨i, hi⟩ := List.mem_iff_getElem?.1 h
  obtain ⟨h1, h2⟩ := List.getElem?_zip_eq_some.1 hi
  obtain ⟨k, hk⟩ : ∃ k, ls[i]? = some k := ⟨_, List.getElem?_eq_getElem (by have := (List.getElem?_eq_some_iff.1 h2).1; omega)⟩
  exact ⟨k, List.mem_of_getElem? (List.getElem?_zip_eq_some.2 ⟨h1, hk⟩), List.mem_of_getElem? (List.getElem?_zip_eq_some.2 ⟨h2, hk⟩)⟩
/-- A type and one of which it is Naive. -/
theorem loose_all (a : Ty) : ∀ b, NF a → NF b → naiveT a b = true → belowT true a b = true ∧ belowT true b a = true ∧ blamesT true a b = true ∧ blamesT false b a = true := by
  induction a using Ty.ind with
  | h a ih =>
    intro b ha hb h
    rw [naiveT_eq] at h
    by_cases b0 : b.kind = 0
    · have e := hb.any b0
      subst e
      obtain ⟨h1, h2⟩ := any_both a ha
      refine ⟨?_, ?_, h1, h2⟩
      · rw [belowT_eq, if_pos (.inr rfl)]; rfl
      · rw [belowT_eq, if_pos (.inl rfl)]; rfl
    · by_cases a0 : a.kind = 0
      · rw [if_pos (.inl a0)] at h
        simp [b0] at h
      · rw [if_neg (by omega), Bool.and_eq_true] at h
        obtain ⟨hs, hE⟩ := h
        have hs' : ∀ tag, tag < 6 → (prt a tag).isSome = (prt b tag).isSome := fun tag ht => by
          simpa using List.all_eq_true.1 hs tag (List.mem_range.2 ht)
        have key : ∀ tag m p, tag < 6 → prt a tag = some m → prt b tag = some p → Prt a tag m ∧ Prt b tag p ∧ m.2.names = p.2.names ∧ m.2.kids.length = p.2.kids.length ∧ ∀ x ∈ m.2.kids.zip p.2.kids, belowT true x.1 x.2 = true ∧ belowT true x.2 x.1 = true ∧ blamesT true x.1 x.2 = true ∧ blamesT false x.2 x.1 = true := fun tag m p ht hm hp => by
          have hM := prt_prt ha a0 hm
          have hP := prt_prt hb b0 hp
          obtain ⟨e1, e2, e3⟩ := naiP_iff.1 (eachB_same hE ht hm hp)
          refine ⟨hM, hP, e1, e2, fun x hx => ?_⟩
          have hz := List.of_mem_zip hx
          exact ih x.1 (hM.lt _ hz.1) x.2 (hM.nf.kid _ hz.1) (hP.nf.kid _ hz.2) (e3 x hx)
        have no1 : ∀ tag, tag < 6 → ∀ m, prt a tag = some m → prt b tag = none → False := fun tag ht m hm hn => by
          have := hs' tag ht
          rw [hm, hn] at this
          cases this
        have no2 : ∀ tag, tag < 6 → ∀ m, prt b tag = some m → prt a tag = none → False := fun tag ht m hm hn => by
          have := hs' tag ht
          rw [hm, hn] at this
          cases this
        refine ⟨?_, ?_, ?_, ?_⟩
        · rw [belowT_eq, if_neg (by omega)]
          refine eachB_iff.2 fun tag ht m hm => ⟨fun hn => (no1 tag ht m hm hn).elim, fun p hp => ?_⟩
          obtain ⟨hM, hP, en, el, hk⟩ := key tag m p ht hm hp
          refine belP_iff.2 ⟨fun x hx => ?_, fun h5 => ?_⟩
          · obtain ⟨k, h1, h2⟩ := zip_right (ks := m.2.kids) el hx
            rw [← en] at h1
            exact ⟨k, (hM.zip h1).2.1, (hk _ h2).1⟩
          · obtain ⟨_, x, y, x2, _⟩ := hM.fun_ h5
            obtain ⟨_, u, v, y2, _⟩ := hP.fun_ h5
            rw [x2, y2] at hk
            exact ⟨u, v, [], x, y, [], y2, x2, (hk (x, u) (by simp)).2.1, (hk (y, v) (by simp)).1⟩
        · rw [belowT_eq, if_neg (by omega)]
          refine eachB_iff.2 fun tag ht p hp => ⟨fun hn => (no2 tag ht p hp hn).elim, fun m hm => ?_⟩
          obtain ⟨hM, hP, en, el, hk⟩ := key tag m p ht hm hp
          refine belP_iff.2 ⟨fun x hx => ?_, fun h5 => ?_⟩
          · obtain ⟨k, h1, h2⟩ := zip_left (ls := p.2.kids) el hx
            rw [en] at h1
            exact ⟨k, (hP.zip h1).2.1, (hk _ h2).2.1⟩
          · obtain ⟨_, x, y, x2, _⟩ := hM.fun_ h5
            obtain ⟨_, u, v, y2, _⟩ := hP.fun_ h5
            rw [x2, y2] at hk
            exact ⟨x, y, [], u, v, [], x2, y2, (hk (x, u) (by simp)).1, (hk (y, v) (by simp)).2.1⟩
        · rw [blamesT_eq, if_neg fun x => a0 x.1]
          refine eachB_iff.2 fun tag ht m hm => ⟨fun hn => (no1 tag ht m hm hn).elim, fun p hp => ?_⟩
          obtain ⟨hM, hP, en, el, hk⟩ := key tag m p ht hm hp
          by_cases h5 : tag = 5
          · obtain ⟨_, x, y, x2, _⟩ := hM.fun_ h5
            obtain ⟨_, u, v, y2, _⟩ := hP.fun_ h5
            subst h5
            rw [x2, y2] at hk
            rw [blaP_fun y2 x2, Bool.and_eq_true]
            exact ⟨(hk (x, u) (by simp)).2.2.2, (hk (y, v) (by simp)).2.2.1⟩
          · refine (blaP_rec h5).2 fun x hx => ?_
            rw [if_neg (by rw [hP.shut]; simp)] at hx
            obtain ⟨k, h1, h2⟩ := zip_right (ks := m.2.kids) el hx
            rw [← en] at h1
            have hkk := (hM.zip h1).2.1
            simp only at hkk
            refine ⟨fun k' hk' => ?_, fun hn => by rw [hkk] at hn; cases hn⟩
            rw [hkk] at hk'
            obtain rfl := Option.some.inj hk'
            exact ⟨fun _ => hM.shut, (hk _ h2).2.2.1⟩
        · rw [blamesT_eq, if_neg fun x => a0 x.2]
          refine eachB_iff.2 fun tag ht p hp => ⟨fun hn => (no2 tag ht p hp hn).elim, fun m hm => ?_⟩
          obtain ⟨hM, hP, en, el, hk⟩ := key tag m p ht hm hp
          by_cases h5 : tag = 5
          · obtain ⟨_, x, y, x2, _⟩ := hM.fun_ h5
            obtain ⟨_, u, v, y2, _⟩ := hP.fun_ h5
            subst h5
            rw [x2, y2] at hk
            rw [blaP_fun x2 y2, Bool.and_eq_true]
            exact ⟨(hk (x, u) (by simp)).2.2.1, (hk (y, v) (by simp)).2.2.2⟩
          · refine (blaP_rec h5).2 fun x hx => ?_
            rw [if_neg (by rw [hM.shut]; simp)] at hx
            obtain ⟨k, h1, h2⟩ := zip_left (ls := p.2.kids) el hx
            rw [en] at h1
            have hkk := (hP.zip h1).2.1
            simp only at hkk
            refine ⟨fun k' hk' => ?_, fun _ => rfl⟩
            rw [hkk] at hk'
            obtain rfl := Option.some.inj hk'
            exact ⟨fun _ => hP.shut, (hk _ h2).2.2.2⟩
mutual
/-- No any in a type. -/
def statT : Ty → Bool
  | .mk k _ _ ks => decide (k ≠ 0) && statL ks
def statL : List Ty → Bool
  | [] => true
  | t :: ts => statT t && statL ts
end
theorem statL_iff {l : List Ty} : statL l = true ↔ ∀ t ∈ l, statT t = true := by
  induction l with
  | nil => simp [statL]
  | cons t l ih => simp [statL, ih]
theorem statT_iff {t : Ty} : statT t = true ↔ t.kind ≠ 0 ∧ ∀ k ∈ t.kids, statT k = true := by
  cases t
  simp only [statT, Ty.kind, Ty.kids, Bool.and_eq_true, decide_eq_true_eq, statL_iff]
theorem Prt.stat {t : Ty} {tag : Nat} {m : Bool × Ty} (h : Prt t tag m) (hs : statT t = true) : ∀ k ∈ m.2.kids, statT k = true := fun k hk => by
  rcases atoms_small h.mem with e | e
  · rw [e] at hk
    exact (statT_iff.1 hs).2 k hk
  · exact (statT_iff.1 ((statT_iff.1 hs).2 _ e)).2 k hk
/-- Between types without any. -/
theorem static_all : ∀ (n : Nat) (a b : Ty), a.size + b.size ≤ n → NF a → NF b → statT a = true → statT b = true → belowT true a b = true → belowT false a b = true ∧ blamesT true a b = true ∧ blamesT false a b = true
  | 0, a, _, h, _, _, _, _, _ => by have := a.size_pos; omega
  | n + 1, a, b, hn, ha, hb, sa, sb, h => by
    have a0 := (statT_iff.1 sa).1
    have b0 := (statT_iff.1 sb).1
    rw [belowT_eq, if_neg (by omega)] at h
    have no : ∀ tag, tag < 6 → ∀ m, prt a tag = some m → prt b tag = none → False := fun tag ht m hm hn => by
      have := (eachB_iff.1 h tag ht m hm).1 hn
      cases this
    have key : ∀ tag m p, tag < 6 → prt a tag = some m → prt b tag = some p → Prt a tag m ∧ Prt b tag p ∧ (∀ x ∈ p.2.names.zip p.2.kids, ∃ k, kidT m x.1 = some k ∧ belowT false k x.2 = true ∧ blamesT true k x.2 = true ∧ blamesT false k x.2 = true) ∧
        (tag = 5 → ∃ pa pb pr ma mb mr, p.2.kids = pa :: pb :: pr ∧ m.2.kids = ma :: mb :: mr ∧ (belowT false pa ma = true ∧ blamesT true pa ma = true ∧ blamesT false pa ma = true) ∧ belowT false mb pb = true ∧ blamesT true mb pb = true ∧ blamesT false mb pb = true) := fun tag m p ht hm hp => by
      have hM := prt_prt ha a0 hm
      have hP := prt_prt hb b0 hp
      obtain ⟨e1, e2⟩ := belP_iff.1 (eachB_same h ht hm hp)
      refine ⟨hM, hP, fun x hx => ?_, fun h5 => ?_⟩
      · obtain ⟨k, hk, hf⟩ := e1 x hx
        obtain ⟨hz, hnk, hsk⟩ := hM.found hk
        obtain ⟨_, _, hnx, hsx⟩ := hP.zip hx
        exact ⟨k, hk, static_all n k x.2 (by omega) hnk hnx (hM.stat sa k (List.of_mem_zip hz).2) (hP.stat sb x.2 (List.of_mem_zip hx).2) hf⟩
      · obtain ⟨pa, pb, pr, ma, mb, mr, h1, h2, h3, h4⟩ := e2 h5
        have ip : ∀ k ∈ p.2.kids, NF k ∧ k.size < b.size ∧ statT k = true := fun k hk => ⟨hP.nf.kid k hk, hP.lt k hk, hP.stat sb k hk⟩
        have im : ∀ k ∈ m.2.kids, NF k ∧ k.size < a.size ∧ statT k = true := fun k hk => ⟨hM.nf.kid k hk, hM.lt k hk, hM.stat sa k hk⟩
        rw [h1] at ip
        rw [h2] at im
        obtain ⟨p1, p2, p3⟩ := ip pa (by simp)
        obtain ⟨p4, p5, p6⟩ := ip pb (by simp)
        obtain ⟨m1, m2, m3⟩ := im ma (by simp)
        obtain ⟨m4, m5, m6⟩ := im mb (by simp)
        exact ⟨pa, pb, pr, ma, mb, mr, h1, h2, static_all n pa ma (by omega) p1 m1 p3 m3 h3, static_all n mb pb (by omega) m4 p4 m6 p6 h4⟩
    have bla : ∀ pos, blamesT pos a b = true := fun pos => by
      rw [blamesT_eq, if_neg fun x => a0 x.1]
      refine eachB_iff.2 fun tag ht m hm => ⟨fun hn => (no tag ht m hm hn).elim, fun p hp => ?_⟩
      obtain ⟨hM, hP, hk, hf⟩ := key tag m p ht hm hp
      by_cases h5 : tag = 5
      · obtain ⟨pa, pb, pr, ma, mb, mr, h1, h2, ⟨_, h3, h4⟩, _, h5', h6⟩ := hf h5
        subst h5
        rw [blaP_fun h1 h2, Bool.and_eq_true]
        cases pos
        · exact ⟨h3, h6⟩
        · exact ⟨h4, h5'⟩
      · refine (blaP_rec h5).2 fun x hx => ?_
        rw [if_neg (by rw [hP.shut]; simp)] at hx
        obtain ⟨k, h1, _, h3, h4⟩ := hk x hx
        refine ⟨fun k' hk' => ?_, fun hn => by rw [h1] at hn; cases hn⟩
        rw [h1] at hk'
        obtain rfl := Option.some.inj hk'
        exact ⟨fun _ => hM.shut, by cases pos <;> assumption⟩
    refine ⟨?_, bla true, bla false⟩
    rw [belowT_eq, if_neg (by omega)]
    refine eachB_iff.2 fun tag ht m hm => ⟨fun hn => (no tag ht m hm hn).elim, fun p hp => ?_⟩
    obtain ⟨hM, hP, hk, hf⟩ := key tag m p ht hm hp
    refine belP_iff.2 ⟨fun x hx => ?_, fun h5 => ?_⟩
    · obtain ⟨k, h1, h2, _⟩ := hk x hx
      exact ⟨k, h1, h2⟩
    · obtain ⟨pa, pb, pr, ma, mb, mr, h1, h2, ⟨h3, _⟩, h6, _⟩ := hf h5
      exact ⟨pa, pb, pr, ma, mb, mr, h1, h2, h3, h6⟩
def funOf (a b : Ty) : Ty := .mk 6 ⟨#[]⟩ [] [a, b]
theorem prt_one {i : Ty} (_ : NF i) (h0 : i.kind ≠ 0) (h7 : i.kind ≠ 7) (tag : Nat) : prt i tag = if tagT i = tag then some (false, i) else none := by
  have e : atoms i = [i] := by unfold atoms; rw [if_neg h7]
  unfold prt
  rw [if_neg h0, e]
  by_cases ht : tagT i = tag
  · rw [if_pos ht]; simp [ht]
  · rw [if_neg ht]; simp [ht]
theorem below_funs {l : Bool} {a b c d : Ty} (hx : NF (funOf a b)) (hy : NF (funOf c d)) : belowT l (funOf a b) (funOf c d) = (belowT l c a && belowT l b d) := by
  have px := prt_one hx (by simp [funOf, Ty.kind]) (by simp [funOf, Ty.kind])
  have py := prt_one hy (by simp [funOf, Ty.kind]) (by simp [funOf, Ty.kind])
  rw [belowT_eq, if_neg (by simp [funOf, Ty.kind]), Bool.eq_iff_iff, eachB_iff, Bool.and_eq_true]
  have t5 : ∀ u v, tagT (funOf u v) = 5 := fun u v => by rw [tagT_in] <;> simp [funOf, Ty.kind]
  constructor
  · intro h
    have h1 := (h 5 (by decide) (false, funOf a b) (by rw [px, if_pos (by rw [t5]; rfl)])).2 (false, funOf c d) (by rw [py, if_pos (by rw [t5]; rfl)])
    obtain ⟨_, _, _, _, _, _, e1, e2, h3, h4⟩ := (belP_iff.1 h1).2 rfl
    simp only [funOf, Ty.kids, List.cons.injEq] at e1 e2
    obtain ⟨rfl, rfl, _⟩ := e1
    obtain ⟨rfl, rfl, _⟩ := e2
    exact ⟨h3, h4⟩
  · rintro ⟨h1, h2⟩ tag ht m hm
    rw [px] at hm
    rw [t5] at hm
    split at hm
    · rename_i h5
      obtain rfl := Option.some.inj hm
      rw [py, if_pos (by rw [t5]; exact h5)]
      refine ⟨fun hn => (by cases hn), fun p hp => ?_⟩
      obtain rfl := Option.some.inj hp
      exact belP_iff.2 ⟨fun x hx => by simp [funOf, Ty.names] at hx, fun _ => ⟨c, d, [], a, b, [], rfl, rfl, h1, h2⟩⟩
    · cases hm
theorem below_atom {l : Bool} {i k : Ty} (hi : NF i) (hk : NF k) (i0 : i.kind ≠ 0) (i7 : i.kind ≠ 7) (k0 : k.kind ≠ 0) (k7 : k.kind ≠ 7) {tag : Nat} (ht : tagT i = tag) : belowT l i k = true ↔ tagT k = tag ∧ belP (belowT l) tag (false, i) (false, k) = true := by
  have hp := prt_one hi i0 i7
  have hq := prt_one hk k0 k7
  rw [belowT_eq, if_neg (by omega), eachB_iff]
  have h6 : tag < 6 := prt_tag hi i0 (hp tag ▸ if_pos ht)
  constructor
  · intro h
    obtain ⟨h1, h2⟩ := h tag h6 (false, i) (by rw [hp, if_pos ht])
    rw [hq] at h1 h2
    by_cases hkt : tagT k = tag
    · exact ⟨hkt, h2 _ (if_pos hkt)⟩
    · have := h1 (if_neg hkt)
      cases this
  · rintro ⟨h1, h2⟩ tag' ht' m hm
    rw [hp] at hm
    split at hm
    · rename_i he
      obtain rfl : tag = tag' := by omega
      obtain rfl := Option.some.inj hm
      rw [hq, if_pos h1]
      refine ⟨fun hn => (by cases hn), fun p hp => ?_⟩
      obtain rfl := Option.some.inj hp
      exact h2
    · cases hm
theorem atoms_kind {t x : Ty} (h : NF t) (h0 : t.kind ≠ 0) (hx : x ∈ atoms t) : NF x ∧ x.kind ≠ 0 ∧ x.kind ≠ 7 := by
  have h1 := atoms_tag h h0 hx
  exact ⟨(h.atoms.1 x hx).1, by omega, (h.atoms.1 x hx).2⟩
/-- Below a union: each part is below one of the Kids. -/
theorem below_union {l : Bool} {a b : Ty} (ha : NF a) (hb : NF b) (a0 : a.kind ≠ 0) (b7 : b.kind = 7) : belowT l a b = true ↔ ∀ i ∈ atoms a, ∃ k ∈ b.kids, belowT l i k = true := by
  have b0 : b.kind ≠ 0 := by omega
  have hat : atoms b = b.kids := by unfold atoms; rw [if_pos b7]
  constructor
  · intro h i hi
    rw [belowT_eq, if_neg (by omega)] at h
    have ht := (atoms_tag ha a0 hi).1
    have hm := prt_atom (tag := (tagT i).toNat) ha a0 hi (by omega)
    have h6 := prt_tag ha a0 hm
    cases hp : prt b (tagT i).toNat with
    | none => have := (eachB_iff.1 h _ h6 _ hm).1 hp; cases this
    | some p =>
      have hP := prt_prt hb b0 hp
      have h2 := (eachB_iff.1 h _ h6 _ hm).2 p hp
      obtain ⟨x1, x2, x3⟩ := atoms_kind ha a0 hi
      obtain ⟨y1, y2, y3⟩ := atoms_kind hb b0 hP.mem
      refine ⟨p.2, by rw [← hat]; exact hP.mem, (below_atom x1 y1 x2 x3 y2 y3 (tag := (tagT i).toNat) (by omega)).2 ⟨?_, ?_⟩⟩
      · have := hP.knd
        have := (atoms_tag hb b0 hP.mem).2
        omega
      · rw [show ((false, p.2) : Bool × Ty) = p by rw [← hP.shut]]
        exact h2
  · intro h
    rw [belowT_eq, if_neg (by omega)]
    refine eachB_iff.2 fun tag h6 m hm => ?_
    have hM := prt_prt ha a0 hm
    obtain ⟨k, hk, hbl⟩ := h m.2 hM.mem
    rw [← hat] at hk
    obtain ⟨x1, x2, x3⟩ := atoms_kind ha a0 hM.mem
    obtain ⟨y1, y2, y3⟩ := atoms_kind hb b0 hk
    have hmt : tagT m.2 = tag := by
      have := hM.knd
      have := (atoms_tag ha a0 hM.mem).2
      omega
    obtain ⟨h1, h2⟩ := (below_atom x1 y1 x2 x3 y2 y3 hmt).1 hbl
    rw [prt_atom hb b0 hk h1]
    refine ⟨fun hn => (by cases hn), fun p hp => ?_⟩
    obtain rfl := Option.some.inj hp
    rw [show m = (false, m.2) by rw [← hM.shut]]
    exact h2
noncomputable def normB (t : Ty) : Bool := @decide (NormT t = some t) (Classical.propDecidable _)
theorem normB_iff {t : Ty} : normB t = true ↔ NormT t = some t := by simp [normB]
theorem normB_no {t : Ty} (h : NormT t ≠ some t) : normB t = false := by
  cases h' : normB t with
  | false => rfl
  | true => exact absurd (normB_iff.1 h') h
theorem normB_nf {t : Ty} (h : normB t = true) : NF t := (NormT_nf (normB_iff.1 h)).1
noncomputable def subT (a b : Ty) : Bool := normB a && normB b && belowT false a b
noncomputable def fitsT (a b : Ty) : Bool := normB a && normB b && belowT true a b
noncomputable def naiT (a b : Ty) : Bool := normB a && normB b && naiveT a b
noncomputable def posT (a b : Ty) : Bool := normB a && normB b && blamesT true a b
noncomputable def negT (a b : Ty) : Bool := normB a && normB b && blamesT false a b
theorem subT_refl (t : Ty) : subT t t = normB t := by
  unfold subT
  cases h : normB t with
  | false => rfl
  | true => simp [below_refl false t (normB_nf h)]
/-- What a join has of a tag; none: there is no join. -/
def joinAt (a b : Ty) (tag : Nat) : Option (List Ty) :=
  match prt a tag, prt b tag with
  | none, none => some []
  | some m, none => some [m.2]
  | none, some p => some [p.2]
  | some m, some p => if belowT false m.2 p.2 = true then some [p.2] else if belowT false p.2 m.2 = true then some [m.2] else none
def joinL (a b : Ty) : Nat → Option (List Ty)
  | 0 => some []
  | n + 1 => (joinL a b n).bind fun l => (joinAt a b n).map fun k => l ++ k
noncomputable def joinT (a b : Ty) : Ty :=
  if subT a b = true then b else if subT b a = true then a else if a.kind = 0 ∨ b.kind = 0 ∨ normB a = false ∨ normB b = false then ty0 else
    match joinL a b 6 with
    | none => ty0
    | some l => (NormT (.mk 7 ⟨#[]⟩ [] l)).getD ty0
theorem joinAt_comm {a b : Ty} (ha : NF a) (hb : NF b) (a0 : a.kind ≠ 0) (b0 : b.kind ≠ 0) (tag : Nat) : joinAt a b tag = joinAt b a tag := by
  unfold joinAt
  cases hm : prt a tag with
  | none => cases prt b tag <;> rfl
  | some m =>
    cases hp : prt b tag with
    | none => rfl
    | some p =>
      simp only
      by_cases h1 : belowT false m.2 p.2 = true
      · by_cases h2 : belowT false p.2 m.2 = true
        · rw [if_pos h1, if_pos h2, below_antisymm _ _ (prt_prt ha a0 hm).nf (prt_prt hb b0 hp).nf h1 h2]
        · rw [if_pos h1, if_neg h2, if_pos h1]
      · by_cases h2 : belowT false p.2 m.2 = true
        · rw [if_neg h1, if_pos h2, if_pos h2]
        · rw [if_neg h1, if_neg h2, if_neg h2, if_neg h1]
theorem joinT_comm (a b : Ty) : joinT a b = joinT b a := by
  unfold joinT
  by_cases h1 : subT a b = true
  · by_cases h2 : subT b a = true
    · rw [if_pos h1, if_pos h2]
      unfold subT at h1 h2
      simp only [Bool.and_eq_true] at h1 h2
      exact (below_antisymm a b (normB_nf h1.1.1) (normB_nf h1.1.2) h1.2 h2.2).symm
    · rw [if_pos h1, if_neg h2, if_pos h1]
  · by_cases h2 : subT b a = true
    · rw [if_neg h1, if_pos h2, if_pos h2]
    · rw [if_neg h1, if_neg h2, if_neg h2, if_neg h1]
      by_cases h3 : a.kind = 0 ∨ b.kind = 0 ∨ normB a = false ∨ normB b = false
      · rw [if_pos h3, if_pos]
        rcases h3 with h | h | h | h
        · exact .inr (.inl h)
        · exact .inl h
        · exact .inr (.inr (.inr h))
        · exact .inr (.inr (.inl h))
      · rw [if_neg h3, if_neg]
        · simp only [not_or, Bool.not_eq_false] at h3
          obtain ⟨a0, b0, na, nb⟩ := h3
          have hl : ∀ n, joinL a b n = joinL b a n := fun n => by
            induction n with
            | zero => rfl
            | succ n ih => simp only [joinL, ih, joinAt_comm (normB_nf na) (normB_nf nb) a0 b0 n]
          rw [hl]
        · intro h
          apply h3
          rcases h with h | h | h | h
          · exact .inr (.inl h)
          · exact .inl h
          · exact .inr (.inr (.inr h))
          · exact .inr (.inr (.inl h))
/-- A join is normal, or any. -/
theorem joinT_norm (a b : Ty) : joinT a b = ty0 ∨ normB (joinT a b) = true := by
  unfold joinT
  split
  · rename_i h
    unfold subT at h
    simp only [Bool.and_eq_true] at h
    exact .inr h.1.2
  · split
    · rename_i h
      unfold subT at h
      simp only [Bool.and_eq_true] at h
      exact .inr h.1.2
    · split
      · exact .inl rfl
      · split
        · exact .inl rfl
        · rename_i l _
          cases hn : NormT (.mk 7 ⟨#[]⟩ [] l) with
          | none => exact .inl rfl
          | some n => exact .inr (normB_iff.2 (NormT_again hn))
end Go.Proofs.YtbanpohholnkaaaDoor
