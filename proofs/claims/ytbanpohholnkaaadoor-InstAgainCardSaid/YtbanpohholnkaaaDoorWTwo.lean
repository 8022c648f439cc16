/-
  Two calls of rel.parts whose results go into two new arrays, in whatever order: an invariant. Conditions: plain lemmas.
-/
import Derived.Test.YtbanpohholnkaaaDoorWKid
import Derived.Test.YtbanpohholnkaaaDoorRInv
import Derived.Deep.DeepCutAuto
namespace Go.Proofs.YtbanpohholnkaaaDoor
open Go.RowKit

def six (c : Array Value) : Prop := ∃ p0 p1 p2 p3 p4 p5, c = #[.pointer p0, .pointer p1, .pointer p2, .pointer p3, .pointer p4, .pointer p5]
theorem PtV.six {w : World} {X : Nat → Prop} {t : Ty} {l : List Ty} {cs : Array Value} (h : PtV w X t l cs) : six cs := h.ptrs
/-- The two arrays that there are by now. -/
def XX (L : Nat → Prop) (v9 v10 : Value) : Nat → Prop := fun g => (L 4 ∧ v9 = .pointer (some ⟨g, 0, none⟩)) ∨ (L 5 ∧ v10 = .pointer (some ⟨g, 0, none⟩))
structure TwoI (w1 : World) (a b : Ty) (A B : Value) (L : Nat → Prop) (v9 v10 v13 v14 v15 v16 : Value) (w : World) : Prop where
  keep : Keep (fun _ => False) w1 w
  c13 : L 0 → v13 = A
  c15 : L 2 → v15 = B
  c14 : L 1 → ∃ cs, v14 = .agg cs ∧ PtV w (XX L v9 v10) a (partsL a) cs
  c16 : L 3 → ∃ cs, v16 = .agg cs ∧ PtV w (XX L v9 v10) b (partsL b) cs
  c9 : L 4 → ∃ p cs, v9 = .pointer (some ⟨p, 0, none⟩) ∧ At w p 62 cs ∧ w1.heap.size ≤ p ∧ six cs ∧ (L 6 → v14 = .agg cs)
  c10 : L 5 → ∃ p cs, v10 = .pointer (some ⟨p, 0, none⟩) ∧ At w p 62 cs ∧ w1.heap.size ≤ p ∧ six cs ∧ (L 7 → v16 = .agg cs)
  ne : L 4 → L 5 → v9 ≠ v10
  o6 : L 6 → L 1 ∧ L 4
  o7 : L 7 → L 3 ∧ L 5
/-- One more has come up. -/
structure Up (L L' : Nat → Prop) (i : Nat) : Prop where
  old : ∀ j, j ≠ i → L' j → L j
  keep : ∀ j, L j → L' j
  new : ¬ L i
section
variable {w1 w w' : World} {a b : Ty} {A B v9 v10 v13 v14 v15 v16 : Value} {L L' : Nat → Prop}
theorem TwoI.start (w1 : World) (a b : Ty) (A B v9 v10 v13 v14 v15 v16 : Value) (hL : ∀ j, ¬ L j) (h : Keep (fun _ => False) w1 w) : TwoI w1 a b A B L v9 v10 v13 v14 v15 v16 w :=
  ⟨h, fun h => (hL _ h).elim, fun h => (hL _ h).elim, fun h => (hL _ h).elim, fun h => (hL _ h).elim, fun h => (hL _ h).elim, fun h => (hL _ h).elim, fun h => (hL _ h).elim, fun h => (hL _ h).elim, fun h => (hL _ h).elim⟩
theorem up_set {l : Array Bool} {i : Nat} (hs : l.size = 8) (hi : i < 8) (hu : l.getD i true = false) : Up (fun j => l.getD j false = true) (fun j => (l.setIfInBounds i true).getD j false = true) i := by
  have g : ∀ j, (l.setIfInBounds i true).getD j false = if i = j then true else l.getD j false := fun j => getD_set_eq (by omega)
  refine ⟨fun j hj h => ?_, fun j h => ?_, fun h => ?_⟩
  · rw [g, if_neg (Ne.symm hj)] at h
    exact h
  · show (l.setIfInBounds i true).getD j false = true
    rw [g]
    split
    · rfl
    · exact h
  · have hh : i < l.size := by omega
    simp [hh] at hu h
    rw [hu] at h
    cases h
theorem XX_lt (h : TwoI w1 a b A B L v9 v10 v13 v14 v15 v16 w) : ∀ g, XX L v9 v10 g → w1.heap.size ≤ g ∧ g < w.heap.size := fun g hg => by
  rcases hg with ⟨h4, e⟩ | ⟨h5, e⟩
  · obtain ⟨p, cs, e1, h1, h2, _⟩ := h.c9 h4
    rw [e1] at e
    simp only [Value.pointer.injEq, Option.some.injEq, Addr.mk.injEq, and_true] at e
    subst e
    exact ⟨h2, h1.lt⟩
  · obtain ⟨p, cs, e1, h1, h2, _⟩ := h.c10 h5
    rw [e1] at e
    simp only [Value.pointer.injEq, Option.some.injEq, Addr.mk.injEq, and_true] at e
    subst e
    exact ⟨h2, h1.lt⟩
theorem XX_up {i : Nat} (u : Up L L' i) (h4 : (4 : Nat) ≠ i) (h5 : (5 : Nat) ≠ i) : ∀ g, XX L' v9 v10 g → XX L v9 v10 g := fun g hg => hg.imp (fun h => ⟨u.old 4 h4 h.1, h.2⟩) (fun h => ⟨u.old 5 h5 h.1, h.2⟩)
/-- What does not hang on what has come up newly. -/
theorem TwoI.c14k (h : TwoI w1 a b A B L v9 v10 v13 v14 v15 v16 w) {i : Nat} (u : Up L L' i) (h4 : (4 : Nat) ≠ i) (h5 : (5 : Nat) ≠ i) (h1 : (1 : Nat) ≠ i) (k : Keep (fun _ => False) w w') : L' 1 → ∃ cs, v14 = .agg cs ∧ PtV w' (XX L' v9 v10) a (partsL a) cs := fun h1' => by
  obtain ⟨cs, e, hp⟩ := h.c14 (u.old 1 h1 h1')
  exact ⟨cs, e, (hp.step k).weak (XX_up u h4 h5)⟩
theorem TwoI.c16k (h : TwoI w1 a b A B L v9 v10 v13 v14 v15 v16 w) {i : Nat} (u : Up L L' i) (h4 : (4 : Nat) ≠ i) (h5 : (5 : Nat) ≠ i) (h3 : (3 : Nat) ≠ i) (k : Keep (fun _ => False) w w') : L' 3 → ∃ cs, v16 = .agg cs ∧ PtV w' (XX L' v9 v10) b (partsL b) cs := fun h1' => by
  obtain ⟨cs, e, hp⟩ := h.c16 (u.old 3 h3 h1')
  exact ⟨cs, e, (hp.step k).weak (XX_up u h4 h5)⟩
theorem TwoI.c9k (h : TwoI w1 a b A B L v9 v10 v13 v14 v15 v16 w) {i : Nat} (u : Up L L' i) (h4 : (4 : Nat) ≠ i) (h6 : (6 : Nat) ≠ i) (k : Keep (fun _ => False) w w') : L' 4 → ∃ p cs, v9 = .pointer (some ⟨p, 0, none⟩) ∧ At w' p 62 cs ∧ w1.heap.size ≤ p ∧ six cs ∧ (L' 6 → v14 = .agg cs) := fun h' => by
  obtain ⟨p, cs, e, h5, h7, h8, h9⟩ := h.c9 (u.old 4 h4 h')
  exact ⟨p, cs, e, k.at_ h5 (fun x => x), h7, h8, fun x => h9 (u.old 6 h6 x)⟩
theorem TwoI.c10k (h : TwoI w1 a b A B L v9 v10 v13 v14 v15 v16 w) {i : Nat} (u : Up L L' i) (h5 : (5 : Nat) ≠ i) (h7 : (7 : Nat) ≠ i) (k : Keep (fun _ => False) w w') : L' 5 → ∃ p cs, v10 = .pointer (some ⟨p, 0, none⟩) ∧ At w' p 62 cs ∧ w1.heap.size ≤ p ∧ six cs ∧ (L' 7 → v16 = .agg cs) := fun h' => by
  obtain ⟨p, cs, e, h5, h8, h9, h10⟩ := h.c10 (u.old 5 h5 h')
  exact ⟨p, cs, e, k.at_ h5 (fun x => x), h8, h9, fun x => h10 (u.old 7 h7 x)⟩
theorem TwoI.o6k (h : TwoI w1 a b A B L v9 v10 v13 v14 v15 v16 w) {i : Nat} (u : Up L L' i) (h6 : (6 : Nat) ≠ i) : L' 6 → L' 1 ∧ L' 4 := fun x => ⟨u.keep 1 (h.o6 (u.old 6 h6 x)).1, u.keep 4 (h.o6 (u.old 6 h6 x)).2⟩
theorem TwoI.o7k (h : TwoI w1 a b A B L v9 v10 v13 v14 v15 v16 w) {i : Nat} (u : Up L L' i) (h7 : (7 : Nat) ≠ i) : L' 7 → L' 3 ∧ L' 5 := fun x => ⟨u.keep 3 (h.o7 (u.old 7 h7 x)).1, u.keep 5 (h.o7 (u.old 7 h7 x)).2⟩
theorem TwoI.load0 (h : TwoI w1 a b A B L v9 v10 v13 v14 v15 v16 w) (u : Up L L' 0) : TwoI w1 a b A B L' v9 v10 A v14 v15 v16 w :=
  ⟨h.keep, fun _ => rfl, fun x => h.c15 (u.old 2 (by decide) x), h.c14k u (by decide) (by decide) (by decide) (Keep.refl _ w), h.c16k u (by decide) (by decide) (by decide) (Keep.refl _ w), h.c9k u (by decide) (by decide) (Keep.refl _ w), h.c10k u (by decide) (by decide) (Keep.refl _ w), fun x y => h.ne (u.old 4 (by decide) x) (u.old 5 (by decide) y), h.o6k u (by decide), h.o7k u (by decide)⟩
theorem TwoI.load2 (h : TwoI w1 a b A B L v9 v10 v13 v14 v15 v16 w) (u : Up L L' 2) : TwoI w1 a b A B L' v9 v10 v13 v14 B v16 w :=
  ⟨h.keep, fun x => h.c13 (u.old 0 (by decide) x), fun _ => rfl, h.c14k u (by decide) (by decide) (by decide) (Keep.refl _ w), h.c16k u (by decide) (by decide) (by decide) (Keep.refl _ w), h.c9k u (by decide) (by decide) (Keep.refl _ w), h.c10k u (by decide) (by decide) (Keep.refl _ w), fun x y => h.ne (u.old 4 (by decide) x) (u.old 5 (by decide) y), h.o6k u (by decide), h.o7k u (by decide)⟩
theorem TwoI.call1 (h : TwoI w1 a b A B L v9 v10 v13 v14 v15 v16 w) (u : Up L L' 1) (k : Keep (fun _ => False) w w') {cs : Array Value} (hp : PtV w' (XX L v9 v10) a (partsL a) cs) : TwoI w1 a b A B L' v9 v10 v13 (.agg cs) v15 v16 w' :=
  ⟨h.keep.trans k (fun _ _ x => x), fun x => h.c13 (u.old 0 (by decide) x), fun x => h.c15 (u.old 2 (by decide) x), fun _ => ⟨cs, rfl, hp.weak (XX_up u (by decide) (by decide))⟩, h.c16k u (by decide) (by decide) (by decide) k, fun h' => by
    obtain ⟨p, ds, e, h5, h7, h8, _⟩ := h.c9 (u.old 4 (by decide) h')
    exact ⟨p, ds, e, k.at_ h5 (fun x => x), h7, h8, fun x => (u.new (h.o6 (u.old 6 (by decide) x)).1).elim⟩, h.c10k u (by decide) (by decide) k, fun x y => h.ne (u.old 4 (by decide) x) (u.old 5 (by decide) y), h.o6k u (by decide), h.o7k u (by decide)⟩
theorem TwoI.call3 (h : TwoI w1 a b A B L v9 v10 v13 v14 v15 v16 w) (u : Up L L' 3) (k : Keep (fun _ => False) w w') {cs : Array Value} (hp : PtV w' (XX L v9 v10) b (partsL b) cs) : TwoI w1 a b A B L' v9 v10 v13 v14 v15 (.agg cs) w' :=
  ⟨h.keep.trans k (fun _ _ x => x), fun x => h.c13 (u.old 0 (by decide) x), fun x => h.c15 (u.old 2 (by decide) x), h.c14k u (by decide) (by decide) (by decide) k, fun _ => ⟨cs, rfl, hp.weak (XX_up u (by decide) (by decide))⟩, h.c9k u (by decide) (by decide) k, fun h' => by
    obtain ⟨p, ds, e, h5, h7, h8, _⟩ := h.c10 (u.old 5 (by decide) h')
    exact ⟨p, ds, e, k.at_ h5 (fun x => x), h7, h8, fun x => (u.new (h.o7 (u.old 7 (by decide) x)).1).elim⟩, fun x y => h.ne (u.old 4 (by decide) x) (u.old 5 (by decide) y), h.o6k u (by decide), h.o7k u (by decide)⟩
def O6 : Obj := .cells #[.pointer none, .pointer none, .pointer none, .pointer none, .pointer none, .pointer none] 62
theorem PtV.grow {X Z : Nat → Prop} {t : Ty} {ls : List Ty} {cs : Array Value} (hp : PtV w X t ls cs) (o : Obj) (hZ : ∀ i, i < w.heap.size → Z i → X i) : PtV (w.alloc o) Z t ls cs :=
  ⟨hp.size, hp.emp, fun tag x ht hf => by
    obtain ⟨bb, h1, q, h2, h3⟩ := hp.has tag x ht hf
    exact ⟨bb, h1, q, h2.alloc o, h3.keep ((Keep.refl (fun _ => False) w).alloc o) (fun _ _ x => x.elim) hZ⟩⟩
theorem TwoI.alloc4 (h : TwoI w1 a b A B L v9 v10 v13 v14 v15 v16 w) (u : Up L L' 4) : TwoI w1 a b A B L' (.pointer (some ⟨w.heap.size, 0, none⟩)) v10 v13 v14 v15 v16 (w.alloc O6) := by
  have k : Keep (fun _ => False) w (w.alloc O6) := (Keep.refl _ w).alloc _
  have hZ : ∀ i, i < w.heap.size → XX L' (.pointer (some ⟨w.heap.size, 0, none⟩)) v10 i → XX L v9 v10 i := fun i hi hx => by
    rcases hx with ⟨_, e⟩ | ⟨h5, e⟩
    · simp only [Value.pointer.injEq, Option.some.injEq, Addr.mk.injEq, and_true] at e
      omega
    · exact .inr ⟨u.old 5 (by decide) h5, e⟩
  refine ⟨h.keep.trans k (fun _ _ x => x), fun x => h.c13 (u.old 0 (by decide) x), fun x => h.c15 (u.old 2 (by decide) x), fun x => ?_, fun x => ?_, fun _ => ⟨w.heap.size, _, rfl, At.new _ _ _, h.keep.size, ⟨_, _, _, _, _, _, rfl⟩, fun x => (u.new (h.o6 (u.old 6 (by decide) x)).2).elim⟩, h.c10k u (by decide) (by decide) k, fun _ y e => ?_, fun x => (u.new (h.o6 (u.old 6 (by decide) x)).2).elim, h.o7k u (by decide)⟩
  · obtain ⟨cs, e, hp⟩ := h.c14 (u.old 1 (by decide) x)
    exact ⟨cs, e, hp.grow _ hZ⟩
  · obtain ⟨cs, e, hp⟩ := h.c16 (u.old 3 (by decide) x)
    exact ⟨cs, e, hp.grow _ hZ⟩
  · obtain ⟨p, ds, e1, h6, _⟩ := h.c10 (u.old 5 (by decide) y)
    rw [e1] at e
    simp only [Value.pointer.injEq, Option.some.injEq, Addr.mk.injEq, and_true] at e
    have := h6.lt
    omega
theorem TwoI.alloc5 (h : TwoI w1 a b A B L v9 v10 v13 v14 v15 v16 w) (u : Up L L' 5) : TwoI w1 a b A B L' v9 (.pointer (some ⟨w.heap.size, 0, none⟩)) v13 v14 v15 v16 (w.alloc O6) := by
  have k : Keep (fun _ => False) w (w.alloc O6) := (Keep.refl _ w).alloc _
  have hZ : ∀ i, i < w.heap.size → XX L' v9 (.pointer (some ⟨w.heap.size, 0, none⟩)) i → XX L v9 v10 i := fun i hi hx => by
    rcases hx with ⟨h5, e⟩ | ⟨_, e⟩
    · exact .inl ⟨u.old 4 (by decide) h5, e⟩
    · simp only [Value.pointer.injEq, Option.some.injEq, Addr.mk.injEq, and_true] at e
      omega
  refine ⟨h.keep.trans k (fun _ _ x => x), fun x => h.c13 (u.old 0 (by decide) x), fun x => h.c15 (u.old 2 (by decide) x), fun x => ?_, fun x => ?_, h.c9k u (by decide) (by decide) k, fun _ => ⟨w.heap.size, _, rfl, At.new _ _ _, h.keep.size, ⟨_, _, _, _, _, _, rfl⟩, fun x => (u.new (h.o7 (u.old 7 (by decide) x)).2).elim⟩, fun y _ e => ?_, h.o6k u (by decide), fun x => (u.new (h.o7 (u.old 7 (by decide) x)).2).elim⟩
  · obtain ⟨cs, e, hp⟩ := h.c14 (u.old 1 (by decide) x)
    exact ⟨cs, e, hp.grow _ hZ⟩
  · obtain ⟨cs, e, hp⟩ := h.c16 (u.old 3 (by decide) x)
    exact ⟨cs, e, hp.grow _ hZ⟩
  · obtain ⟨p, ds, e1, h6, _⟩ := h.c9 (u.old 4 (by decide) y)
    rw [e1] at e
    simp only [Value.pointer.injEq, Option.some.injEq, Addr.mk.injEq, and_true] at e
    have := h6.lt
    omega
theorem Keep.sets6 {X : Nat → Prop} {p : Nat} (hp : X p) (u0 u1 u2 u3 u4 u5 : Value) : Keep X w ((((((w.setCell ⟨p, 0, none⟩ u0).setCell ⟨p, 1, none⟩ u1).setCell ⟨p, 2, none⟩ u2).setCell ⟨p, 3, none⟩ u3).setCell ⟨p, 4, none⟩ u4).setCell ⟨p, 5, none⟩ u5) :=
  Keep.setCell (X := X) (Keep.setCell (X := X) (Keep.setCell (X := X) (Keep.setCell (X := X) (Keep.setCell (X := X) (Keep.setCell (X := X) (Keep.refl _ w) (.inl hp) _) (.inl hp) _) (.inl hp) _) (.inl hp) _) (.inl hp) _) (.inl hp) _
theorem At.sets6 {p : Nat} {e : TypeId} {cs : Array Value} (h : At w p e cs) (hc : six cs) (u0 u1 u2 u3 u4 u5 : Value) : At ((((((w.setCell ⟨p, 0, none⟩ u0).setCell ⟨p, 1, none⟩ u1).setCell ⟨p, 2, none⟩ u2).setCell ⟨p, 3, none⟩ u3).setCell ⟨p, 4, none⟩ u4).setCell ⟨p, 5, none⟩ u5) p e #[u0, u1, u2, u3, u4, u5] := by
  obtain ⟨p0, p1, p2, p3, p4, p5, rfl⟩ := hc
  exact (((((h.set 0 u0).set 1 u1).set 2 u2).set 3 u3).set 4 u4).set 5 u5
theorem TwoI.store6 (h : TwoI w1 a b A B L v9 v10 v13 v14 v15 v16 w) (u : Up L L' 6) {p : Nat} {cs : Array Value} (e9 : v9 = .pointer (some ⟨p, 0, none⟩)) (ha : At w p 62 cs) (hc : six cs) (h1 : L 1) (h4 : L 4) {u0 u1 u2 u3 u4 u5 : Value} (hs : six #[u0, u1, u2, u3, u4, u5]) (e14 : v14 = .agg #[u0, u1, u2, u3, u4, u5]) :
    TwoI w1 a b A B L' v9 v10 v13 v14 v15 v16 ((((((w.setCell ⟨p, 0, none⟩ u0).setCell ⟨p, 1, none⟩ u1).setCell ⟨p, 2, none⟩ u2).setCell ⟨p, 3, none⟩ u3).setCell ⟨p, 4, none⟩ u4).setCell ⟨p, 5, none⟩ u5) := by
  have hX : XX L v9 v10 p := .inl ⟨h4, e9⟩
  have kp := Keep.sets6 (w := w) (X := fun g => g = p) rfl u0 u1 u2 u3 u4 u5
  have hPt : ∀ {t : Ty} {ls : List Ty} {cs : Array Value}, PtV w (XX L v9 v10) t ls cs → PtV _ (XX L' v9 v10) t ls cs := fun hp => (hp.keep kp (fun i hi => by rw [hi]; exact hX) (fun i c hi hx => by rw [hi] at hx; exact hx.ne ha (by decide) rfl)).weak (XX_up u (by decide) (by decide))
  refine ⟨h.keep.weak kp (fun i hi => by rw [hi]; exact (XX_lt h p hX).1), fun x => h.c13 (u.old 0 (by decide) x), fun x => h.c15 (u.old 2 (by decide) x), fun x => ?_, fun x => ?_, fun _ => ⟨p, _, e9, ha.sets6 hc u0 u1 u2 u3 u4 u5, (XX_lt h p hX).1, hs, fun _ => e14⟩, fun x => ?_, fun x y => h.ne (u.old 4 (by decide) x) (u.old 5 (by decide) y), fun _ => ⟨u.keep 1 h1, u.keep 4 h4⟩, h.o7k u (by decide)⟩
  · obtain ⟨cs, e, hp⟩ := h.c14 (u.old 1 (by decide) x)
    exact ⟨cs, e, hPt hp⟩
  · obtain ⟨cs, e, hp⟩ := h.c16 (u.old 3 (by decide) x)
    exact ⟨cs, e, hPt hp⟩
  · obtain ⟨q, ds, e, h6, h7, h8, h9⟩ := h.c10 (u.old 5 (by decide) x)
    exact ⟨q, ds, e, kp.at_ h6 (fun hq => h.ne h4 (u.old 5 (by decide) x) (by rw [e9, e, hq])), h7, h8, fun y => h9 (u.old 7 (by decide) y)⟩
theorem TwoI.store7 (h : TwoI w1 a b A B L v9 v10 v13 v14 v15 v16 w) (u : Up L L' 7) {p : Nat} {cs : Array Value} (e10 : v10 = .pointer (some ⟨p, 0, none⟩)) (ha : At w p 62 cs) (hc : six cs) (h3 : L 3) (h5 : L 5) {u0 u1 u2 u3 u4 u5 : Value} (hs : six #[u0, u1, u2, u3, u4, u5]) (e16 : v16 = .agg #[u0, u1, u2, u3, u4, u5]) :
    TwoI w1 a b A B L' v9 v10 v13 v14 v15 v16 ((((((w.setCell ⟨p, 0, none⟩ u0).setCell ⟨p, 1, none⟩ u1).setCell ⟨p, 2, none⟩ u2).setCell ⟨p, 3, none⟩ u3).setCell ⟨p, 4, none⟩ u4).setCell ⟨p, 5, none⟩ u5) := by
  have hX : XX L v9 v10 p := .inr ⟨h5, e10⟩
  have kp := Keep.sets6 (w := w) (X := fun g => g = p) rfl u0 u1 u2 u3 u4 u5
  have hPt : ∀ {t : Ty} {ls : List Ty} {cs : Array Value}, PtV w (XX L v9 v10) t ls cs → PtV _ (XX L' v9 v10) t ls cs := fun hp => (hp.keep kp (fun i hi => by rw [hi]; exact hX) (fun i c hi hx => by rw [hi] at hx; exact hx.ne ha (by decide) rfl)).weak (XX_up u (by decide) (by decide))
  refine ⟨h.keep.weak kp (fun i hi => by rw [hi]; exact (XX_lt h p hX).1), fun x => h.c13 (u.old 0 (by decide) x), fun x => h.c15 (u.old 2 (by decide) x), fun x => ?_, fun x => ?_, fun x => ?_, fun _ => ⟨p, _, e10, ha.sets6 hc u0 u1 u2 u3 u4 u5, (XX_lt h p hX).1, hs, fun _ => e16⟩, fun x y => h.ne (u.old 4 (by decide) x) (u.old 5 (by decide) y), h.o6k u (by decide), fun _ => ⟨u.keep 3 h3, u.keep 5 h5⟩⟩
  · obtain ⟨cs, e, hp⟩ := h.c14 (u.old 1 (by decide) x)
    exact ⟨cs, e, hPt hp⟩
  · obtain ⟨cs, e, hp⟩ := h.c16 (u.old 3 (by decide) x)
    exact ⟨cs, e, hPt hp⟩
  · obtain ⟨q, ds, e, h6, h7, h8, h9⟩ := h.c9 (u.old 4 (by decide) x)
    exact ⟨q, ds, e, kp.at_ h6 (fun hq => h.ne (u.old 4 (by decide) x) h5 (by rw [e10, e, hq])), h7, h8, fun y => h9 (u.old 6 (by decide) y)⟩
/-- Both types' parts lie in two arrays. -/
def Two (w : World) (a b : Ty) (s t : Value) (wx : World) : Prop :=
  ∃ (p q : Nat) (cs ds : Array Value), s = .pointer (some ⟨p, 0, none⟩) ∧ t = .pointer (some ⟨q, 0, none⟩) ∧ At wx p 62 cs ∧ At wx q 62 ds ∧ PtV wx nX a (partsL a) cs ∧ PtV wx nX b (partsL b) ds ∧ Keep (fun _ => False) w wx
theorem TwoI.fin (h : TwoI w1 a b A B L v9 v10 v13 v14 v15 v16 w) (ha : ∀ j, j < 8 → L j) : Two w1 a b v9 v10 w := by
  obtain ⟨p, cs, e1, h1, _, _, h2⟩ := h.c9 (ha 4 (by decide))
  obtain ⟨q, ds, f1, g1, _, _, g2⟩ := h.c10 (ha 5 (by decide))
  obtain ⟨cs', e3, h3⟩ := h.c14 (ha 1 (by decide))
  obtain ⟨ds', f3, g3⟩ := h.c16 (ha 3 (by decide))
  have ec : cs' = cs := by
    have := h2 (ha 6 (by decide))
    rw [e3] at this
    exact Value.agg.inj this
  have ed : ds' = ds := by
    have := g2 (ha 7 (by decide))
    rw [f3] at this
    exact Value.agg.inj this
  subst ec ed
  exact ⟨p, q, cs', ds', e1, f1, h1, g1, h3.plain, g3.plain, h.keep⟩
end
end Go.Proofs.YtbanpohholnkaaaDoor
