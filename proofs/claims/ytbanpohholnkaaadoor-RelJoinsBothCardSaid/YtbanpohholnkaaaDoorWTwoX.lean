/-
  Two calls of rel.parts, and a set of blocks that nothing that they answer lies in. Conditions: plain lemmas.
-/
import Derived.Test.YtbanpohholnkaaaDoorWTwo
namespace Go.Proofs.YtbanpohholnkaaaDoor
open Go.RowKit

/-- The two arrays that there are by now. -/
def XZ (X0 : Nat → Prop) (L : Nat → Prop) (v9 v10 : Value) : Nat → Prop := fun g => X0 g ∨ (L 4 ∧ v9 = .pointer (some ⟨g, 0, none⟩)) ∨ (L 5 ∧ v10 = .pointer (some ⟨g, 0, none⟩))
structure TwoX (X0 : Nat → Prop) (w1 : World) (a b : Ty) (A B : Value) (L : Nat → Prop) (v9 v10 v13 v14 v15 v16 : Value) (w : World) : Prop where
  keep : Keep (fun _ => False) w1 w
  c13 : L 0 → v13 = A
  c15 : L 2 → v15 = B
  c14 : L 1 → ∃ cs, v14 = .agg cs ∧ PtV w (XZ X0 L v9 v10) a (partsL a) cs
  c16 : L 3 → ∃ cs, v16 = .agg cs ∧ PtV w (XZ X0 L v9 v10) b (partsL b) cs
  c9 : L 4 → ∃ p cs, v9 = .pointer (some ⟨p, 0, none⟩) ∧ At w p 62 cs ∧ w1.heap.size ≤ p ∧ six cs ∧ (L 6 → v14 = .agg cs)
  c10 : L 5 → ∃ p cs, v10 = .pointer (some ⟨p, 0, none⟩) ∧ At w p 62 cs ∧ w1.heap.size ≤ p ∧ six cs ∧ (L 7 → v16 = .agg cs)
  ne : L 4 → L 5 → v9 ≠ v10
  o6 : L 6 → L 1 ∧ L 4
  o7 : L 7 → L 3 ∧ L 5
section
variable {X0 : Nat → Prop} {w1 w w' : World} {a b : Ty} {A B v9 v10 v13 v14 v15 v16 : Value} {L L' : Nat → Prop}
theorem TwoX.start (X0 : Nat → Prop) (w1 : World) (a b : Ty) (A B v9 v10 v13 v14 v15 v16 : Value) (hL : ∀ j, ¬ L j) (h : Keep (fun _ => False) w1 w) : TwoX X0 w1 a b A B L v9 v10 v13 v14 v15 v16 w :=
  ⟨h, fun h => (hL _ h).elim, fun h => (hL _ h).elim, fun h => (hL _ h).elim, fun h => (hL _ h).elim, fun h => (hL _ h).elim, fun h => (hL _ h).elim, fun h => (hL _ h).elim, fun h => (hL _ h).elim, fun h => (hL _ h).elim⟩
theorem XZ_lt (h : TwoX X0 w1 a b A B L v9 v10 v13 v14 v15 v16 w) : ∀ g, XZ X0 L v9 v10 g → X0 g ∨ (w1.heap.size ≤ g ∧ g < w.heap.size) := fun g hg => by
  rcases hg with hg | ⟨h4, e⟩ | ⟨h5, e⟩
  · exact .inl hg
  · obtain ⟨p, cs, e1, h1, h2, _⟩ := h.c9 h4
    rw [e1] at e
    simp only [Value.pointer.injEq, Option.some.injEq, Addr.mk.injEq, and_true] at e
    subst e
    exact .inr ⟨h2, h1.lt⟩
  · obtain ⟨p, cs, e1, h1, h2, _⟩ := h.c10 h5
    rw [e1] at e
    simp only [Value.pointer.injEq, Option.some.injEq, Addr.mk.injEq, and_true] at e
    subst e
    exact .inr ⟨h2, h1.lt⟩
theorem TwoX.ge9 (h : TwoX X0 w1 a b A B L v9 v10 v13 v14 v15 v16 w) (h4 : L 4) {p : Nat} (e : v9 = .pointer (some ⟨p, 0, none⟩)) : w1.heap.size ≤ p := by
  obtain ⟨q, cs, e1, h1, h2, _⟩ := h.c9 h4
  rw [e1] at e
  simp only [Value.pointer.injEq, Option.some.injEq, Addr.mk.injEq, and_true] at e
  subst e
  exact h2
theorem TwoX.ge10 (h : TwoX X0 w1 a b A B L v9 v10 v13 v14 v15 v16 w) (h5 : L 5) {p : Nat} (e : v10 = .pointer (some ⟨p, 0, none⟩)) : w1.heap.size ≤ p := by
  obtain ⟨q, cs, e1, h1, h2, _⟩ := h.c10 h5
  rw [e1] at e
  simp only [Value.pointer.injEq, Option.some.injEq, Addr.mk.injEq, and_true] at e
  subst e
  exact h2
theorem XZ_up {i : Nat} (u : Up L L' i) (h4 : (4 : Nat) ≠ i) (h5 : (5 : Nat) ≠ i) : ∀ g, XZ X0 L' v9 v10 g → XZ X0 L v9 v10 g := fun g hg => hg.imp id fun hg => hg.imp (fun h => ⟨u.old 4 h4 h.1, h.2⟩) (fun h => ⟨u.old 5 h5 h.1, h.2⟩)
/-- What does not hang on what has come up newly. -/
theorem TwoX.c14k (h : TwoX X0 w1 a b A B L v9 v10 v13 v14 v15 v16 w) {i : Nat} (u : Up L L' i) (h4 : (4 : Nat) ≠ i) (h5 : (5 : Nat) ≠ i) (h1 : (1 : Nat) ≠ i) (k : Keep (fun _ => False) w w') : L' 1 → ∃ cs, v14 = .agg cs ∧ PtV w' (XZ X0 L' v9 v10) a (partsL a) cs := fun h1' => by
  obtain ⟨cs, e, hp⟩ := h.c14 (u.old 1 h1 h1')
  exact ⟨cs, e, (hp.step k).weak (XZ_up u h4 h5)⟩
theorem TwoX.c16k (h : TwoX X0 w1 a b A B L v9 v10 v13 v14 v15 v16 w) {i : Nat} (u : Up L L' i) (h4 : (4 : Nat) ≠ i) (h5 : (5 : Nat) ≠ i) (h3 : (3 : Nat) ≠ i) (k : Keep (fun _ => False) w w') : L' 3 → ∃ cs, v16 = .agg cs ∧ PtV w' (XZ X0 L' v9 v10) b (partsL b) cs := fun h1' => by
  obtain ⟨cs, e, hp⟩ := h.c16 (u.old 3 h3 h1')
  exact ⟨cs, e, (hp.step k).weak (XZ_up u h4 h5)⟩
theorem TwoX.c9k (h : TwoX X0 w1 a b A B L v9 v10 v13 v14 v15 v16 w) {i : Nat} (u : Up L L' i) (h4 : (4 : Nat) ≠ i) (h6 : (6 : Nat) ≠ i) (k : Keep (fun _ => False) w w') : L' 4 → ∃ p cs, v9 = .pointer (some ⟨p, 0, none⟩) ∧ At w' p 62 cs ∧ w1.heap.size ≤ p ∧ six cs ∧ (L' 6 → v14 = .agg cs) := fun h' => by
  obtain ⟨p, cs, e, h5, h7, h8, h9⟩ := h.c9 (u.old 4 h4 h')
  exact ⟨p, cs, e, k.at_ h5 (fun x => x), h7, h8, fun x => h9 (u.old 6 h6 x)⟩
theorem TwoX.c10k (h : TwoX X0 w1 a b A B L v9 v10 v13 v14 v15 v16 w) {i : Nat} (u : Up L L' i) (h5 : (5 : Nat) ≠ i) (h7 : (7 : Nat) ≠ i) (k : Keep (fun _ => False) w w') : L' 5 → ∃ p cs, v10 = .pointer (some ⟨p, 0, none⟩) ∧ At w' p 62 cs ∧ w1.heap.size ≤ p ∧ six cs ∧ (L' 7 → v16 = .agg cs) := fun h' => by
  obtain ⟨p, cs, e, h5, h8, h9, h10⟩ := h.c10 (u.old 5 h5 h')
  exact ⟨p, cs, e, k.at_ h5 (fun x => x), h8, h9, fun x => h10 (u.old 7 h7 x)⟩
theorem TwoX.o6k (h : TwoX X0 w1 a b A B L v9 v10 v13 v14 v15 v16 w) {i : Nat} (u : Up L L' i) (h6 : (6 : Nat) ≠ i) : L' 6 → L' 1 ∧ L' 4 := fun x => ⟨u.keep 1 (h.o6 (u.old 6 h6 x)).1, u.keep 4 (h.o6 (u.old 6 h6 x)).2⟩
theorem TwoX.o7k (h : TwoX X0 w1 a b A B L v9 v10 v13 v14 v15 v16 w) {i : Nat} (u : Up L L' i) (h7 : (7 : Nat) ≠ i) : L' 7 → L' 3 ∧ L' 5 := fun x => ⟨u.keep 3 (h.o7 (u.old 7 h7 x)).1, u.keep 5 (h.o7 (u.old 7 h7 x)).2⟩
theorem TwoX.load0 (h : TwoX X0 w1 a b A B L v9 v10 v13 v14 v15 v16 w) (u : Up L L' 0) : TwoX X0 w1 a b A B L' v9 v10 A v14 v15 v16 w :=
  ⟨h.keep, fun _ => rfl, fun x => h.c15 (u.old 2 (by decide) x), h.c14k u (by decide) (by decide) (by decide) (Keep.refl _ w), h.c16k u (by decide) (by decide) (by decide) (Keep.refl _ w), h.c9k u (by decide) (by decide) (Keep.refl _ w), h.c10k u (by decide) (by decide) (Keep.refl _ w), fun x y => h.ne (u.old 4 (by decide) x) (u.old 5 (by decide) y), h.o6k u (by decide), h.o7k u (by decide)⟩
theorem TwoX.load2 (h : TwoX X0 w1 a b A B L v9 v10 v13 v14 v15 v16 w) (u : Up L L' 2) : TwoX X0 w1 a b A B L' v9 v10 v13 v14 B v16 w :=
  ⟨h.keep, fun x => h.c13 (u.old 0 (by decide) x), fun _ => rfl, h.c14k u (by decide) (by decide) (by decide) (Keep.refl _ w), h.c16k u (by decide) (by decide) (by decide) (Keep.refl _ w), h.c9k u (by decide) (by decide) (Keep.refl _ w), h.c10k u (by decide) (by decide) (Keep.refl _ w), fun x y => h.ne (u.old 4 (by decide) x) (u.old 5 (by decide) y), h.o6k u (by decide), h.o7k u (by decide)⟩
theorem TwoX.call1 (h : TwoX X0 w1 a b A B L v9 v10 v13 v14 v15 v16 w) (u : Up L L' 1) (k : Keep (fun _ => False) w w') {cs : Array Value} (hp : PtV w' (XZ X0 L v9 v10) a (partsL a) cs) : TwoX X0 w1 a b A B L' v9 v10 v13 (.agg cs) v15 v16 w' :=
  ⟨h.keep.trans k (fun _ _ x => x), fun x => h.c13 (u.old 0 (by decide) x), fun x => h.c15 (u.old 2 (by decide) x), fun _ => ⟨cs, rfl, hp.weak (XZ_up u (by decide) (by decide))⟩, h.c16k u (by decide) (by decide) (by decide) k, fun h' => by
    obtain ⟨p, ds, e, h5, h7, h8, _⟩ := h.c9 (u.old 4 (by decide) h')
    exact ⟨p, ds, e, k.at_ h5 (fun x => x), h7, h8, fun x => (u.new (h.o6 (u.old 6 (by decide) x)).1).elim⟩, h.c10k u (by decide) (by decide) k, fun x y => h.ne (u.old 4 (by decide) x) (u.old 5 (by decide) y), h.o6k u (by decide), h.o7k u (by decide)⟩
theorem TwoX.call3 (h : TwoX X0 w1 a b A B L v9 v10 v13 v14 v15 v16 w) (u : Up L L' 3) (k : Keep (fun _ => False) w w') {cs : Array Value} (hp : PtV w' (XZ X0 L v9 v10) b (partsL b) cs) : TwoX X0 w1 a b A B L' v9 v10 v13 v14 v15 (.agg cs) w' :=
  ⟨h.keep.trans k (fun _ _ x => x), fun x => h.c13 (u.old 0 (by decide) x), fun x => h.c15 (u.old 2 (by decide) x), h.c14k u (by decide) (by decide) (by decide) k, fun _ => ⟨cs, rfl, hp.weak (XZ_up u (by decide) (by decide))⟩, h.c9k u (by decide) (by decide) k, fun h' => by
    obtain ⟨p, ds, e, h5, h7, h8, _⟩ := h.c10 (u.old 5 (by decide) h')
    exact ⟨p, ds, e, k.at_ h5 (fun x => x), h7, h8, fun x => (u.new (h.o7 (u.old 7 (by decide) x)).1).elim⟩, fun x y => h.ne (u.old 4 (by decide) x) (u.old 5 (by decide) y), h.o6k u (by decide), h.o7k u (by decide)⟩
theorem TwoX.alloc4 (h : TwoX X0 w1 a b A B L v9 v10 v13 v14 v15 v16 w) (u : Up L L' 4) : TwoX X0 w1 a b A B L' (.pointer (some ⟨w.heap.size, 0, none⟩)) v10 v13 v14 v15 v16 (w.alloc O6) := by
  have k : Keep (fun _ => False) w (w.alloc O6) := (Keep.refl _ w).alloc _
  have hZ : ∀ i, i < w.heap.size → XZ X0 L' (.pointer (some ⟨w.heap.size, 0, none⟩)) v10 i → XZ X0 L v9 v10 i := fun i hi hx => by
    rcases hx with hx | ⟨_, e⟩ | ⟨h5, e⟩
    · exact .inl hx
    · simp only [Value.pointer.injEq, Option.some.injEq, Addr.mk.injEq, and_true] at e
      omega
    · exact .inr (.inr ⟨u.old 5 (by decide) h5, e⟩)
  refine ⟨h.keep.trans k (fun _ _ x => x), fun x => h.c13 (u.old 0 (by decide) x), fun x => h.c15 (u.old 2 (by decide) x), fun x => ?_, fun x => ?_, fun _ => ⟨w.heap.size, _, rfl, At.new _ _ _, h.keep.size, ⟨_, _, _, _, _, _, rfl⟩, fun x => (u.new (h.o6 (u.old 6 (by decide) x)).2).elim⟩, h.c10k u (by decide) (by decide) k, fun _ y e => ?_, fun x => (u.new (h.o6 (u.old 6 (by decide) x)).2).elim, h.o7k u (by decide)⟩
  · obtain ⟨cs, e, hp⟩ := h.c14 (u.old 1 (by decide) x)
    exact ⟨cs, e, hp.grow _ hZ⟩
  · obtain ⟨cs, e, hp⟩ := h.c16 (u.old 3 (by decide) x)
    exact ⟨cs, e, hp.grow _ hZ⟩
  · obtain ⟨p, ds, e1, h6, _⟩ := h.c10 (u.old 5 (by decide) y)
    rw [e1] at e
    simp only [Value.pointer.injEq, Option.some.injEq, Addr.mk.injEq, and_true] at e
    have := h6.lt
    omega
theorem TwoX.alloc5 (h : TwoX X0 w1 a b A B L v9 v10 v13 v14 v15 v16 w) (u : Up L L' 5) : TwoX X0 w1 a b A B L' v9 (.pointer (some ⟨w.heap.size, 0, none⟩)) v13 v14 v15 v16 (w.alloc O6) := by
  have k : Keep (fun _ => False) w (w.alloc O6) := (Keep.refl _ w).alloc _
  have hZ : ∀ i, i < w.heap.size → XZ X0 L' v9 (.pointer (some ⟨w.heap.size, 0, none⟩)) i → XZ X0 L v9 v10 i := fun i hi hx => by
    rcases hx with hx | ⟨h5, e⟩ | ⟨_, e⟩
    · exact .inl hx
    · exact .inr (.inl ⟨u.old 4 (by decide) h5, e⟩)
    · simp only [Value.pointer.injEq, Option.some.injEq, Addr.mk.injEq, and_true] at e
      omega
  refine ⟨h.keep.trans k (fun _ _ x => x), fun x => h.c13 (u.old 0 (by decide) x), fun x => h.c15 (u.old 2 (by decide) x), fun x => ?_, fun x => ?_, h.c9k u (by decide) (by decide) k, fun _ => ⟨w.heap.size, _, rfl, At.new _ _ _, h.keep.size, ⟨_, _, _, _, _, _, rfl⟩, fun x => (u.new (h.o7 (u.old 7 (by decide) x)).2).elim⟩, fun y _ e => ?_, h.o6k u (by decide), fun x => (u.new (h.o7 (u.old 7 (by decide) x)).2).elim⟩
  · obtain ⟨cs, e, hp⟩ := h.c14 (u.old 1 (by decide) x)
    exact ⟨cs, e, hp.grow _ hZ⟩
  · obtain ⟨cs, e, hp⟩ := h.c16 (u.old 3 (by decide) x)
    exact ⟨cs, e, hp.grow _ hZ⟩
  · obtain ⟨p, ds, e1, h6, _⟩ := h.c9 (u.old 4 (by decide) y)
    rw [e1] at e
    simp only [Value.pointer.injEq, Option.some.injEq, Addr.mk.injEq, and_true] at e
    have := h6.lt
    omega
theorem TwoX.store6 (h : TwoX X0 w1 a b A B L v9 v10 v13 v14 v15 v16 w) (u : Up L L' 6) {p : Nat} {cs : Array Value} (e9 : v9 = .pointer (some ⟨p, 0, none⟩)) (ha : At w p 62 cs) (hc : six cs) (h1 : L 1) (h4 : L 4) {u0 u1 u2 u3 u4 u5 : Value} (hs : six #[u0, u1, u2, u3, u4, u5]) (e14 : v14 = .agg #[u0, u1, u2, u3, u4, u5]) :
    TwoX X0 w1 a b A B L' v9 v10 v13 v14 v15 v16 ((((((w.setCell ⟨p, 0, none⟩ u0).setCell ⟨p, 1, none⟩ u1).setCell ⟨p, 2, none⟩ u2).setCell ⟨p, 3, none⟩ u3).setCell ⟨p, 4, none⟩ u4).setCell ⟨p, 5, none⟩ u5) := by
  have hX : XZ X0 L v9 v10 p := .inr (.inl ⟨h4, e9⟩)
  have kp := Keep.sets6 (w := w) (X := fun g => g = p) rfl u0 u1 u2 u3 u4 u5
  have hPt : ∀ {t : Ty} {ls : List Ty} {cs : Array Value}, PtV w (XZ X0 L v9 v10) t ls cs → PtV _ (XZ X0 L' v9 v10) t ls cs := fun hp => (hp.keep kp (fun i hi => by rw [hi]; exact hX) (fun i c hi hx => by rw [hi] at hx; exact hx.ne ha (by decide) rfl)).weak (XZ_up u (by decide) (by decide))
  refine ⟨h.keep.weak kp (fun i hi => by rw [hi]; exact h.ge9 h4 e9), fun x => h.c13 (u.old 0 (by decide) x), fun x => h.c15 (u.old 2 (by decide) x), fun x => ?_, fun x => ?_, fun _ => ⟨p, _, e9, ha.sets6 hc u0 u1 u2 u3 u4 u5, h.ge9 h4 e9, hs, fun _ => e14⟩, fun x => ?_, fun x y => h.ne (u.old 4 (by decide) x) (u.old 5 (by decide) y), fun _ => ⟨u.keep 1 h1, u.keep 4 h4⟩, h.o7k u (by decide)⟩
  · obtain ⟨cs, e, hp⟩ := h.c14 (u.old 1 (by decide) x)
    exact ⟨cs, e, hPt hp⟩
  · obtain ⟨cs, e, hp⟩ := h.c16 (u.old 3 (by decide) x)
    exact ⟨cs, e, hPt hp⟩
  · obtain ⟨q, ds, e, h6, h7, h8, h9⟩ := h.c10 (u.old 5 (by decide) x)
    exact ⟨q, ds, e, kp.at_ h6 (fun hq => h.ne h4 (u.old 5 (by decide) x) (by rw [e9, e, hq])), h7, h8, fun y => h9 (u.old 7 (by decide) y)⟩
theorem TwoX.store7 (h : TwoX X0 w1 a b A B L v9 v10 v13 v14 v15 v16 w) (u : Up L L' 7) {p : Nat} {cs : Array Value} (e10 : v10 = .pointer (some ⟨p, 0, none⟩)) (ha : At w p 62 cs) (hc : six cs) (h3 : L 3) (h5 : L 5) {u0 u1 u2 u3 u4 u5 : Value} (hs : six #[u0, u1, u2, u3, u4, u5]) (e16 : v16 = .agg #[u0, u1, u2, u3, u4, u5]) :
    TwoX X0 w1 a b A B L' v9 v10 v13 v14 v15 v16 ((((((w.setCell ⟨p, 0, none⟩ u0).setCell ⟨p, 1, none⟩ u1).setCell ⟨p, 2, none⟩ u2).setCell ⟨p, 3, none⟩ u3).setCell ⟨p, 4, none⟩ u4).setCell ⟨p, 5, none⟩ u5) := by
  have hX : XZ X0 L v9 v10 p := .inr (.inr ⟨h5, e10⟩)
  have kp := Keep.sets6 (w := w) (X := fun g => g = p) rfl u0 u1 u2 u3 u4 u5
  have hPt : ∀ {t : Ty} {ls : List Ty} {cs : Array Value}, PtV w (XZ X0 L v9 v10) t ls cs → PtV _ (XZ X0 L' v9 v10) t ls cs := fun hp => (hp.keep kp (fun i hi => by rw [hi]; exact hX) (fun i c hi hx => by rw [hi] at hx; exact hx.ne ha (by decide) rfl)).weak (XZ_up u (by decide) (by decide))
  refine ⟨h.keep.weak kp (fun i hi => by rw [hi]; exact h.ge10 h5 e10), fun x => h.c13 (u.old 0 (by decide) x), fun x => h.c15 (u.old 2 (by decide) x), fun x => ?_, fun x => ?_, fun x => ?_, fun _ => ⟨p, _, e10, ha.sets6 hc u0 u1 u2 u3 u4 u5, h.ge10 h5 e10, hs, fun _ => e16⟩, fun x y => h.ne (u.old 4 (by decide) x) (u.old 5 (by decide) y), h.o6k u (by decide), fun _ => ⟨u.keep 3 h3, u.keep 5 h5⟩⟩
  · obtain ⟨cs, e, hp⟩ := h.c14 (u.old 1 (by decide) x)
    exact ⟨cs, e, hPt hp⟩
  · obtain ⟨cs, e, hp⟩ := h.c16 (u.old 3 (by decide) x)
    exact ⟨cs, e, hPt hp⟩
  · obtain ⟨q, ds, e, h6, h7, h8, h9⟩ := h.c9 (u.old 4 (by decide) x)
    exact ⟨q, ds, e, kp.at_ h6 (fun hq => h.ne (u.old 4 (by decide) x) h5 (by rw [e10, e, hq])), h7, h8, fun y => h9 (u.old 6 (by decide) y)⟩
/-- Both types' parts lie in two arrays. -/
def TwoJ (X0 : Nat → Prop) (w : World) (a b : Ty) (s t : Value) (wx : World) : Prop :=
  ∃ (p q : Nat) (cs ds : Array Value), s = .pointer (some ⟨p, 0, none⟩) ∧ t = .pointer (some ⟨q, 0, none⟩) ∧ At wx p 62 cs ∧ At wx q 62 ds ∧ PtV wx X0 a (partsL a) cs ∧ PtV wx X0 b (partsL b) ds ∧ Keep (fun _ => False) w wx
theorem TwoX.fin (h : TwoX X0 w1 a b A B L v9 v10 v13 v14 v15 v16 w) (ha : ∀ j, j < 8 → L j) : TwoJ X0 w1 a b v9 v10 w := by
  obtain ⟨p, cs, e1, h1, _, _, h2⟩ := h.c9 (ha 4 (by decide))
  obtain ⟨q, ds, f1, g1, _, _, g2⟩ := h.c10 (ha 5 (by decide))
  obtain ⟨cs', e3, h3⟩ := h.c14 (ha 1 (by decide))
  obtain ⟨ds', f3, g3⟩ := h.c16 (ha 3 (by decide))
  have ec : cs' = cs := by
    have := h2 (ha 6 (by decide))
    rw [e3] at this
    exact Value.agg.inj this
  have ed : ds' = ds := by
    have := g2 (ha 7 (by decide))
    rw [f3] at this
    exact Value.agg.inj this
  subst ec ed
  exact ⟨p, q, cs', ds', e1, f1, h1, g1, h3.weak (fun _ x => .inl x), g3.weak (fun _ x => .inl x), h.keep⟩
end
end Go.Proofs.YtbanpohholnkaaaDoor
