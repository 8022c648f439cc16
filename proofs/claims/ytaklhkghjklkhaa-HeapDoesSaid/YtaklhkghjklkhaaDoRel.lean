/-
  HeapDoes: what holds between the arena and the reference's world from call to call. Conditions: none.
-/
import Derived.Test.YtaklhkghjklkhaaTells
namespace Go.Proofs.Ytaklhkghjklkhaa
open Go.RowKit

structure DoR (w0 : World) (p pw : Nat) (c : Int) (N : Nat) (lv rv : Value) (es : List (Value × Wo)) (xs : Xs) (rs : List Int) (X : Nat → Prop) (objs : List Obj') (w : World) : Prop where
  st : St w0 w X p (max c 0) N objs
  wv : WV w (fun k => X k ∨ rv.ownBlock = some k) pw c lv es
  rel : RelX xs objs
  eq : worlds es = wsX xs
  own : w.ownsRow 0 3 1 rv rs.length (ints rs)
  ra : ∀ g, rv.ownBlock = some g → ¬ X g ∧ ¬ fp pw lv g ∧ w0.heap.size ≤ g
  wa : ∀ g, fp pw lv g → ¬ X g ∧ w0.heap.size ≤ g
section
variable {w0 w w' : World} {p pw N : Nat} {c : Int} {lv rv : Value} {es : List (Value × Wo)} {xs : Xs} {rs : List Int} {X : Nat → Prop} {objs : List Obj'}
theorem DoR.step (h : DoR w0 p pw c N lv rv es xs rs X objs w) (k : Keep (fun _ => False) w w') : DoR w0 p pw c N lv rv es xs rs X objs w' :=
  ⟨h.st.step k, h.wv.step k, h.rel, h.eq, k.own h.own (fun _ _ x => x), h.ra, h.wa⟩
theorem DoR.more {N' : Nat} (h : DoR w0 p pw c N lv rv es xs rs X objs w) (h1 : N ≤ N') (h2 : N' ≤ 500000) : DoR w0 p pw c N' lv rv es xs rs X objs w :=
  ⟨h.st.more' h1 h2, h.wv, h.rel, h.eq, h.own, h.ra, h.wa⟩
theorem DoR.lens (h : DoR w0 p pw c N lv rv es xs (refsX xs) X objs w) : (refsX xs).length = es.length := by
  have := congrArg List.length h.eq
  simpa [worlds, wsX, refsX] using this.symm
theorem DoR.rd {rv : Value} (h : DoR w0 p pw c N lv rv es xs rs X objs w) : Rd w X 1 rv rs.length (ints rs) := Rd.of_own h.own (fun g hg => (h.ra g hg).1)
variable {A : Option Addr} {n cap : Nat}
theorem DoR.tells (h : DoR w0 p pw c N lv (.slice A n cap) es xs (refsX xs) X objs w) (hn : n = (refsX xs).length) :
    Calls Try.prog 18 #[.pointer (some ⟨p, 0, none⟩), .pointer (some ⟨pw, 0, none⟩), .slice A n cap] w fun e w' => e = .returned (.bool true) ∧ Keep (fun _ => False) w w' :=
  tells_any h.st.ar h.wv h.rel h.eq (hn.trans h.lens) (by have := h.rd; rw [← hn] at this; exact this)
theorem DoR.named (h : DoR w0 p pw c N lv (.slice A n cap) es xs (refsX xs) X objs w) (hn : n = (refsX xs).length) (k : Int) :
    Calls Try.prog 14 #[.slice A n cap, .pointer (some ⟨pw, 0, none⟩), .int .i64 k] w fun e w' => e = .returned (.int .i64 (nmv (wsX xs) (refsX xs) k)) ∧ w = w' := by
  have := named_any h.wv (hn.trans h.lens) (by have := h.rd; rw [← hn] at this; exact this) k
  rw [h.eq] at this
  exact this
theorem DoR.slots (h : DoR w0 p pw c N lv (.slice A n cap) es xs (refsX xs) X objs w) (hn : n = (refsX xs).length) {Y : Nat → Prop} {Al : Option Addr} {m cl : Nat} {l : List Sl} (hm : m = l.length) (hm1 : m ≤ 1000) (hl : Rd w Y 2 (.slice Al m cl) m (sflat l)) :
    Calls Try.prog 16 #[.slice A n cap, .pointer (some ⟨pw, 0, none⟩), .slice Al m cl] w fun e w' => ∃ (A1 : Option Addr) (c1 : Nat), e = .returned (.slice A1 m c1) ∧ w'.ownsRow 0 32 2 (.slice A1 m c1) m (sflat (l.map (mpX xs))) ∧ Keep (fun _ => False) w w' ∧ ∀ g, (Value.slice A1 m c1).ownBlock = some g → w.heap.size ≤ g := by
  refine (slots_any h.wv (hn.trans h.lens) (by have := h.rd; rw [← hn] at this; exact this) hm hm1 hl).mono ?_
  rintro e w' ⟨lv', rfl, h1, h2, h3⟩
  obtain ⟨A1, c1, rfl⟩ := own_slice h1
  rw [h.eq] at h1
  exact ⟨A1, c1, rfl, h1, h2, h3⟩
/-- Alloc in the arena, from slots that `slots` made. -/
theorem DoR.alloc (h : DoR w0 p pw c N lv rv es xs rs X objs w) {L : List Sl} {sv : Value} {m : Nat} (hm : m = L.length) (hown : w.ownsRow 0 32 2 sv m (sflat L)) (hX : ∀ g, sv.ownBlock = some g → ¬ X g) (hl : L.length ≤ 40) (hN : N ≤ 2460) :
    Calls Try.prog 11 #[.pointer (some ⟨p, 0, none⟩), sv] w fun e w' =>
      ((¬ ∀ s ∈ L, okSl objs s) ∧ e = .returned (.tuple #[.int .i64 0, .int .i64 1]) ∧ Keep (fun _ => False) w w') ∨
      ((∀ s ∈ L, okSl objs s) ∧ c < usum objs + L.length + 1 ∧ e = .returned (.tuple #[.int .i64 0, .int .i64 22]) ∧ Keep (fun _ => False) w w') ∨
      ((∀ s ∈ L, okSl objs s) ∧ ¬ c < usum objs + L.length + 1 ∧ ∃ (r : Nat) (X' : Nat → Prop), e = .returned (.tuple #[.int .i64 r, .int .i64 0]) ∧ ¬ hasK objs r ∧ St w0 w' X' p (max c 0) (N + 41) ((r, L) :: objs) ∧ Keep X w w' ∧ ∀ i, X' i → X i ∨ w.heap.size ≤ i) := by
  refine (h.st.alloc hm (Rd.of_own hown hX) (by omega) (by omega)).mono ?_
  rintro e w' (⟨h1, rfl, _, h4⟩ | ⟨h1, h2, rfl, _, h4⟩ | ⟨h1, h2, r, X2, rfl, hr, hS, hk, hX3⟩)
  · exact .inl ⟨h1, rfl, h4⟩
  · exact .inr (.inl ⟨h1, by omega, rfl, h4⟩)
  · exact .inr (.inr ⟨h1, by omega, r, X2, rfl, hr, hS.more' (by omega) (by omega), hk, hX3⟩)
/-- World.Alloc refuses as the arena does. -/
theorem DoR.zlt (h : DoR w0 p pw c N lv rv es xs rs X objs w) : ∀ i, (X i ∨ rv.ownBlock = some i) → i < w.heap.size := fun i hi => by
  rcases hi with hi | hi
  · exact h.st.ar.lt i hi
  · exact own_lt h.own hi
section
variable {Y : Nat → Prop} {Al : Option Addr} {m cl : Nat} {l : List Sl}
theorem DoR.walloc1 (h : DoR w0 p pw c N lv rv es xs rs X objs w) (h1000 : es.length < 1000) (hm : m = l.length) (hm1 : m ≤ 1000) (hl : Rd w Y 2 (.slice Al m cl) m (sflat l)) (hb : ¬ ∀ s ∈ l.map (mpX xs), okSl objs s) :
    Calls Try.prog 17 #[.pointer (some ⟨pw, 0, none⟩), .slice Al m cl] w fun e w' => e = .returned (.int .i64 1) ∧ Keep (fun _ => False) w w' := by
  have hg : l.all (goodW (worlds es)) = false := by
    cases hb' : l.all (goodW (worlds es)) with
    | false => rfl
    | true => rw [h.eq] at hb'; exact absurd ((h.rel.ok l).2 hb') hb
  refine (walloc_any h.wv h.zlt h1000 hm hm1 hl).mono ?_
  rintro e w' (⟨_, rfl, rfl⟩ | ⟨h1, _⟩ | ⟨h1, _⟩)
  · exact ⟨rfl, Keep.refl _ _⟩
  · rw [hg] at h1; cases h1
  · rw [hg] at h1; cases h1
theorem DoR.good (h : DoR w0 p pw c N lv rv es xs rs X objs w) (hb : ∀ s ∈ l.map (mpX xs), okSl objs s) : l.all (goodW (worlds es)) = true ∧ l.all (goodW (wsX xs)) = true ∧ usum objs = wosum (worlds es) := by
  have a := (h.rel.ok l).1 hb
  refine ⟨by rw [h.eq]; exact a, a, ?_⟩
  have b := h.rel.eq
  have c := live_usum (mpX xs) xs
  rw [← b] at c
  rw [c, h.eq]
theorem DoR.walloc22 (h : DoR w0 p pw c N lv rv es xs rs X objs w) (h1000 : es.length < 1000) (hm : m = l.length) (hm1 : m ≤ 1000) (hl : Rd w Y 2 (.slice Al m cl) m (sflat l)) (hb : ∀ s ∈ l.map (mpX xs), okSl objs s) (hc : c < usum objs + (l.map (mpX xs)).length + 1) :
    Calls Try.prog 17 #[.pointer (some ⟨pw, 0, none⟩), .slice Al m cl] w fun e w' => e = .returned (.int .i64 22) ∧ Keep (fun _ => False) w w' := by
  obtain ⟨g1, g2, g3⟩ := h.good hb
  rw [g3, List.length_map] at hc
  refine (walloc_any h.wv h.zlt h1000 hm hm1 hl).mono ?_
  rintro e w' (⟨h1, _⟩ | ⟨_, _, rfl, h4⟩ | ⟨_, h2, _⟩)
  · rw [g1] at h1; cases h1
  · exact ⟨rfl, h4⟩
  · omega
/-- Both have made an object. -/
theorem DoR.walloc0 {w1 w2 : World} {X2 : Nat → Prop} {N2 r : Nat} (h : DoR w0 p pw c N lv rv es xs rs X objs w1) (h1000 : es.length < 1000) (hm : m = l.length) (hm1 : m ≤ 1000) (hl : Rd w2 Y 2 (.slice Al m cl) m (sflat l)) (hb : ∀ s ∈ l.map (mpX xs), okSl objs s) (hc : ¬ c < usum objs + (l.map (mpX xs)).length + 1)
    (hr : ¬ hasK objs r) (hS : St w0 w2 X2 p (max c 0) N2 ((r, l.map (mpX xs)) :: objs)) (hk : Keep X w1 w2) (hX2 : ∀ i, X2 i → X i ∨ w1.heap.size ≤ i) :
    Calls Try.prog 17 #[.pointer (some ⟨pw, 0, none⟩), .slice Al m cl] w2 fun e w' => e = .returned (.int .i64 0) ∧ ∃ (lv' sv : Value), DoR w0 p pw c N2 lv' rv (es ++ [(sv, ⟨l, false⟩)]) (xs ++ [(⟨l, false⟩, r)]) rs X2 ((r, l.map (mpX xs)) :: objs) w' ∧ Keep (fun k => w0.heap.size ≤ k) w2 w' := by
  obtain ⟨g1, g2, g3⟩ := h.good hb
  rw [g3, List.length_map] at hc
  have hlt := h.wv.lt
  have hrv : ∀ g, rv.ownBlock = some g → ¬ X2 g := fun g hg hx => by
    rcases hX2 g hx with h' | h'
    · exact (h.ra g hg).1 h'
    · have := own_lt h.own hg; omega
  have hfl : ∀ g, fp pw lv g → ¬ X2 g := fun g hg hx => by
    rcases hX2 g hx with h' | h'
    · exact (h.wa g hg).1 h'
    · have := hlt g hg; omega
  have hwv : WV w2 (fun k => X2 k ∨ rv.ownBlock = some k) pw c lv es := h.wv.keep hk (fun i hi => (h.wa i hi).1) (fun i hi => .inl hi) (fun i hi => by
    rcases hi with hi | hi
    · rcases hX2 i hi with h' | h'
      · exact .inl (.inl h')
      · exact .inr h'
    · exact .inl (.inr hi))
  have hown : w2.ownsRow 0 3 1 rv rs.length (ints rs) := hk.own h.own (fun g hg => (h.ra g hg).1)
  refine (walloc_any hwv (fun i hi => by
    rcases hi with hi | hi
    · exact hS.ar.lt i hi
    · exact own_lt hown hi) h1000 hm hm1 hl).mono ?_
  rintro e w' (⟨h1, _⟩ | ⟨_, h2, _⟩ | ⟨_, _, rfl, lv', sv, hW', hk', hf'⟩)
  · rw [g1] at h1; cases h1
  · omega
  · refine ⟨rfl, lv', sv, ⟨?_, hW', h.rel.push g2 hr, ?_, hk'.own hown (fun g hg hx => (h.ra g hg).2.1 hx), fun g hg => ⟨hrv g hg, fun hx => ?_, (h.ra g hg).2.2⟩, fun g hg => ⟨fun hx => ?_, ?_⟩⟩, hk'.mono (fun i _ hi => (h.wa i hi).2)⟩
    · exact ⟨hS.ar.keep hk' (fun i hi hx => hfl i hx hi), hS.keep.trans hk' (fun i hi hx => by have := (h.wa i hx).2; omega), hS.new⟩
    · have he := h.eq
      unfold worlds wsX at he ⊢
      rw [List.map_append, List.map_append, he]
      rfl
    · rcases hf' g hx with h' | h'
      · exact (h.ra g hg).2.1 h'
      · have := own_lt hown hg; omega
    · rcases hf' g hg with h' | h'
      · exact hfl g h' hx
      · have := hS.ar.lt g hx; omega
    · rcases hf' g hg with h' | h'
      · exact (h.wa g h').2
      · have := hS.keep.size; omega
end
/-- A number has been put at the end of the row. -/
theorem DoR.app {w1 w2 : World} {g cap' : Nat} {t : Int} (h : DoR w0 p pw c N lv rv es xs rs X objs w) (hk1 : Keep (fun _ => False) w w1)
    (ho : w2.ownsRow 0 3 1 (.slice (some ⟨g, 0, none⟩) (rs.length + 1) cap') (rs.length + 1) (ints rs ++ [.int .i64 t])) (hk : Keep (fun k => rv.ownBlock = some k) w1 w2) (hg : rv.ownBlock = some g ∨ w1.heap.size ≤ g) :
    DoR w0 p pw c N lv (.slice (some ⟨g, 0, none⟩) (rs.length + 1) cap') es xs (rs ++ [t]) X objs w2 := by
  have h1 := h.step hk1
  have gg : ∀ j, Value.ownBlock (.slice (some ⟨g, 0, none⟩) (rs.length + 1) cap') = some j → rv.ownBlock = some j ∨ w1.heap.size ≤ j := fun j hj => by
    simp only [Value.ownBlock, Option.some.injEq] at hj
    subst hj
    exact hg
  refine ⟨?_, ?_, h.rel, h.eq, ?_, fun j hj => ⟨fun hx => ?_, fun hx => ?_, ?_⟩, h.wa⟩
  · exact St.step' h1.st hk (fun j hx hy => (h.ra j hy).1 hx) (fun j hj => (h.ra j hj).2.2)
  · refine h1.wv.keep hk (fun j hj hx => (h.ra j hx).2.1 hj) (fun j hj => .inr hj) (fun j hj => ?_)
    rcases hj with hj | hj
    · exact .inl (.inl hj)
    · rcases gg j hj with h' | h'
      · exact .inl (.inr h')
      · exact .inr h'
  · rw [ints_append, List.length_append]
    exact ho
  · rcases gg j hj with h' | h'
    · exact (h.ra j h').1 hx
    · have := h1.st.ar.lt j hx; omega
  · rcases gg j hj with h' | h'
    · exact (h.ra j h').2.1 hx
    · have := h1.wv.lt j hx; omega
  · rcases gg j hj with h' | h'
    · exact (h.ra j h').2.2
    · have := h1.st.keep.size; omega
/-- Collect in the arena. -/
theorem DoR.collect (h : DoR w0 p pw c N lv rv es xs (refsX xs) X objs w) {roots : List Int} {sv : Value} {m : Nat} (hm : m = roots.length) (hown : w.ownsRow 0 3 1 sv m (ints (roots.map (nmv (wsX xs) (refsX xs))))) (hm1 : m ≤ 40) :
    Calls Try.prog 12 #[.pointer (some ⟨p, 0, none⟩), sv] w fun e w' => ∃ M : Nat → Bool, (∀ i, M i = true ↔ ReachO objs (roots.map (nmv (wsX xs) (refsX xs))) i) ∧
      e = .returned (.int .i64 ((usum objs : Int) - usum (objs.filter fun o => M o.1))) ∧ St w0 w' X p (max c 0) N (objs.filter fun o => M o.1) ∧ Keep X w w' :=
  h.st.collect (by simpa using hm) (Rd.of_own hown (fun _ _ x => x)) (by omega)
theorem DoR.wcollect {w2 : World} (h : DoR w0 p pw c N lv rv es xs (refsX xs) X objs w) {roots : List Int} {M : Nat → Bool} {Y : Nat → Prop} {Ar : Option Addr} {m cr : Nat} (hM : ∀ i, M i = true ↔ ReachO objs (roots.map (nmv (wsX xs) (refsX xs))) i)
    (hS : St w0 w2 X p (max c 0) N (objs.filter fun o => M o.1)) (hk : Keep X w w2) (hm : m = roots.length) (hm1 : m ≤ 40) (hr : Rd w2 Y 1 (.slice Ar m cr) m (ints roots)) :
    Calls Try.prog 15 #[.pointer (some ⟨pw, 0, none⟩), .slice Ar m cr] w2 fun e w' => e = .returned (.int .i64 ((usum objs : Int) - usum (objs.filter fun o => M o.1))) ∧
      ∃ (es' : List (Value × Wo)) (xs' : Xs), es'.length = es.length ∧ DoR w0 p pw c N lv rv es' xs' (refsX xs') X (objs.filter fun o => M o.1) w' ∧ refsX xs' = refsX xs ∧ Keep (fun k => w0.heap.size ≤ k) w2 w' := by
  have hwv : WV w2 (fun k => X k ∨ rv.ownBlock = some k) pw c lv es := h.wv.keep hk (fun i hi => (h.wa i hi).1) (fun i hi => .inl hi) (fun i hi => .inl hi)
  have hown : w2.ownsRow 0 3 1 rv (refsX xs).length (ints (refsX xs)) := hk.own h.own (fun g hg => (h.ra g hg).1)
  have hrf : ∀ M' : List Bool, refsX (swX xs M') = refsX xs := fun M' => by
    apply List.ext_getElem?
    intro j
    simp only [refsX, List.getElem?_map, swX_get, Option.map_map]
    rfl
  have hsw := h.rel.sweep hM
  have hws := wsX_pre h.eq (marksW (wsX xs) roots)
  have hu1 : usum objs = wosum (wsX xs) := by
    have b := h.rel.eq
    have c := live_usum (mpX xs) xs
    rw [← b] at c
    exact c
  have hu2 : usum (objs.filter fun o => M o.1) = wosum (wsX (swX xs (marksW (wsX xs) roots))) := by
    have b := hsw.eq
    have c := live_usum (mpX (swX xs (marksW (wsX xs) roots))) (swX xs (marksW (wsX xs) roots))
    rw [← b] at c
    exact c
  have hcw := wcoll_any hwv (by rw [h.eq]; exact h.rel.closed) hm (by omega) hr
  rw [h.eq] at hcw
  refine hcw.mono ?_
  rintro e w' ⟨rfl, h2, h3⟩
  refine ⟨by rw [hws, hu1, hu2], _, swX xs (marksW (wsX xs) roots), pre_length _ _ _, ⟨?_, h2, hsw, hws, ?_, h.ra, h.wa⟩, hrf _, h3.mono (fun i _ hi => (h.wa i hi).2)⟩
  · exact ⟨hS.ar.keep h3 (fun i hi hx => (h.wa i hx).1 hi), hS.keep.trans h3 (fun i hi hx => by have := (h.wa i hx).2; omega), hS.new⟩
  · rw [hrf]
    exact h3.own hown (fun g hg hx => (h.ra g hg).2.1 hx)
end
end Go.Proofs.Ytaklhkghjklkhaa
