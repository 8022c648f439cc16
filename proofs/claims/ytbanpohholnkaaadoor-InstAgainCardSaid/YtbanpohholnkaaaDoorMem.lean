/-
  Memory words for the walks of this seat: a block known whole, what a step leaves as it was, a slice that reads as a list of cells, append in short. Conditions: none; plain lemmas.
-/
import Derived.Test.YtbanpohholnkaaaDoorRows
import Derived.WalkKit
import Derived.WalkSpells
import Derived.WalkLawsBesides
import Derived.RegionTactic
import Derived.BigRegion
import Derived.Deep.RegionLaw
import Derived.Deep.AppendLies
import Derived.Deep.QuietTactic
import Derived.BigQuiet
import Derived.Lib.Hide
import Derived.Maps.AppendAt
import Derived.Deep.LoopGhost
import Derived.StillTailTactics
import Derived.Deep.RegionWith
namespace Go.Proofs.YtbanpohholnkaaaDoor
open Go.RowKit

/-- Block b holds just these cells. -/
def At (w : World) (b : Nat) (e : TypeId) (c : Array Value) : Prop := w.heap[b]? = some (.cells c e (0, 0))

section
variable {w w' : World} {b : Nat} {e : TypeId} {c : Array Value}
theorem At.lt (h : At w b e c) : b < w.heap.size := by
  unfold At at h
  exact (Array.getElem?_eq_some_iff.1 h).1
theorem At.cell (h : At w b e c) (i : Nat) : w.cell? ⟨b, i, none⟩ = c[i]? := by
  unfold At at h; simp [World.cell?, h]
theorem At.frozen (h : At w b e c) (i : Nat) : w.frozen? ⟨b, i, none⟩ = false := by
  unfold At at h; simp [World.frozen?, h]
theorem At.new (w : World) (e : TypeId) (c : Array Value) : At (w.alloc (.cells c e)) w.heap.size e c := by
  exact heap_alloc_new w _
theorem At.new_at {w : World} {e : TypeId} {c : Array Value} {n : Nat} (h : n = w.heap.size) : At (w.alloc (.cells c e)) n e c := by
  subst h; exact At.new w e c
theorem At.drew (h : At w b e c) : At w.drew b e c := h
theorem At.alloc (h : At w b e c) (o : Obj) : At (w.alloc o) b e c := (Below.heap_alloc w o b h.lt).trans h
theorem At.set (h : At w b e c) (i : Nat) (u : Value) : At (w.setCell ⟨b, i, none⟩ u) b e (c.setIfInBounds i u) := by
  unfold At at h ⊢
  simp [World.setCell, Array.getElem?_modify, h]
theorem At.far (h : At w b e c) {p : Addr} (hp : b ≠ p.block) (u : Value) : At (w.setCell p u) b e c := (Below.heap_setCell w p u b hp).trans h
theorem At.of_eq (h : At w b e c) (hk : w'.heap[b]? = w.heap[b]?) : At w' b e c := hk.trans h
end

/-- Of the blocks that were there, those outside X are as they were. -/
structure Keep (X : Nat → Prop) (w w' : World) : Prop where
  os : w'.os = w.os
  tape : w'.tape = w.tape
  output : w'.output = w.output
  size : w.heap.size ≤ w'.heap.size
  block : ∀ k, k < w.heap.size → ¬ X k → w'.heap[k]? = w.heap[k]?

section
variable {X Y : Nat → Prop} {a b c w w' : World}
theorem Keep.refl (X : Nat → Prop) (w : World) : Keep X w w := ⟨rfl, rfl, rfl, Nat.le_refl _, fun _ _ _ => rfl⟩
theorem Keep.trans (h : Keep X a b) (k : Keep Y b c) (hY : ∀ i, i < a.heap.size → Y i → X i) : Keep X a c :=
  ⟨k.os.trans h.os, k.tape.trans h.tape, k.output.trans h.output, Nat.le_trans h.size k.size,
    fun i hi hn => (k.block i (Nat.lt_of_lt_of_le hi h.size) (fun hy => hn (hY i hi hy))).trans (h.block i hi hn)⟩
theorem Keep.mono (h : Keep X a b) (hY : ∀ i, i < a.heap.size → X i → Y i) : Keep Y a b :=
  ⟨h.os, h.tape, h.output, h.size, fun i hi hn => h.block i hi (fun hx => hn (hY i hi hx))⟩
theorem Keep.drew (h : Keep X a w) : Keep X a w.drew := ⟨h.os, h.tape, h.output, h.size, h.block⟩
theorem Keep.alloc (h : Keep X a w) (o : Obj) : Keep X a (w.alloc o) :=
  ⟨h.os, h.tape, h.output, Nat.le_trans h.size (by simp), fun i hi hn => (Below.heap_alloc w o i (Nat.lt_of_lt_of_le hi h.size)).trans (h.block i hi hn)⟩
theorem Keep.setCell (h : Keep X a w) {p : Addr} (hp : X p.block ∨ a.heap.size ≤ p.block) (u : Value) : Keep X a (w.setCell p u) :=
  ⟨h.os, h.tape, h.output, by simpa [World.setCell] using h.size, fun i hi hn => (Below.heap_setCell w p u i (by
    rintro rfl
    rcases hp with hp | hp
    · exact hn hp
    · omega)).trans (h.block i hi hn)⟩
theorem Keep.of_grown {row : Option Nat} (hg : a.grownBy b row) : Keep (fun k => row = some k) a b :=
  ⟨hg.os, hg.tape, hg.output, hg.size, fun i hi hn => hg.block i hi (fun e => hn e.symm)⟩
theorem Keep.below (h : Keep X a b) {B : Nat} (hB : B ≤ a.heap.size) (hX : ∀ i, X i → B ≤ i) : Below B a b :=
  ⟨h.os, h.tape, h.output, h.size, fun i hi => h.block i (by omega) (fun hx => by have := hX i hx; omega)⟩
theorem Keep.of_below {B : Nat} (h : Below B a b) (hB : a.heap.size ≤ B) (X : Nat → Prop) : Keep X a b :=
  ⟨h.os, h.tape, h.output, h.size, fun i hi _ => h.block i (by omega)⟩
theorem Keep.at_ {k : Nat} {e : TypeId} {cs : Array Value} (h : Keep X a b) (ht : At a k e cs) (hk : ¬ X k) : At b k e cs := ht.of_eq (h.block k ht.lt hk)
theorem Keep.cell (h : Keep X a b) {p : Addr} {v : Value} (hv : a.cell? p = some v) (hk : ¬ X p.block) : b.cell? p = some v :=
  (World.cell?_of_block (h.block p.block (World.block_lt_of_cell? a p hv) hk)).trans hv
theorem Keep.own {k : Nat} {e : TypeId} {size n : Nat} {v : Value} {xs : List Value} (h : Keep X a b) (ho : a.ownsRow k e size v n xs) (hk : ∀ g, v.ownBlock = some g → ¬ X g) : b.ownsRow k e size v n xs := by
  refine ⟨ho.1, ?_⟩
  rcases ho.2 with hn | ⟨g, cap, cur, rfl, hb, hg, r⟩
  · exact .inl hn
  · refine .inr ⟨g, cap, cur, rfl, hb, ?_, r⟩
    rw [h.block g (Array.getElem?_eq_some_iff.1 hg).1 (hk g rfl)]
    exact hg
end

theorem own_lt {w : World} {k : Nat} {e : TypeId} {size n g : Nat} {v : Value} {xs : List Value} (ho : w.ownsRow k e size v n xs) (hg : v.ownBlock = some g) : g < w.heap.size := (ho.lt g hg).2
theorem ownsRow_setCell_ne {w : World} {k : Nat} {e : TypeId} {size n : Nat} {v : Value} {xs : List Value} (h : w.ownsRow k e size v n xs) {a : Addr} (ha : v.ownBlock ≠ some a.block) (u : Value) : (w.setCell a u).ownsRow k e size v n xs := by
  refine ⟨h.1, ?_⟩
  rcases h.2 with h2 | ⟨g, cap, cur, hv, hg, hh, r⟩
  · exact .inl h2
  · refine .inr ⟨g, cap, cur, hv, hg, ?_, r⟩
    rw [Below.heap_setCell _ _ _ _ (by rintro rfl; exact ha (by rw [hv]; rfl))]
    exact hh
/-- What the form of an owned row's value is. -/
theorem own_cases {w : World} {k : Nat} {e : TypeId} {size n : Nat} {v : Value} {xs : List Value} (ho : w.ownsRow k e size v n xs) :
    (v = .slice none 0 0 ∧ n = 0 ∧ xs = []) ∨ ∃ g cap, v = .slice (some ⟨g, 0, none⟩) n cap ∧ n ≤ cap ∧ g < w.heap.size := by
  rcases ho.2 with ⟨h1, h2⟩ | ⟨g, cap, cur, rfl, hb, hg, hn, _⟩
  · exact .inl ⟨h1, h2, List.eq_nil_of_length_eq_zero (by rw [ho.1, h2]; omega)⟩
  · exact .inr ⟨g, cap, rfl, hn, (Array.getElem?_eq_some_iff.1 hg).1⟩
theorem own_at {w : World} {k : Nat} {e e' : TypeId} {size n g : Nat} {v : Value} {xs : List Value} {c : Array Value} (ho : w.ownsRow k e size v n xs) (ha : At w g e' c) (hne : e ≠ e') : v.ownBlock ≠ some g := by
  rcases ho.2 with ⟨rfl, _⟩ | ⟨g', cap, cur, rfl, hb, hg, _⟩
  · simp [Value.ownBlock]
  · intro hx
    have hgg : g' = g := by simpa [Value.ownBlock] using hx
    subst hgg
    unfold At at ha
    rw [hg] at ha
    injection ha with ha
    injection ha with _ h2
    exact hne h2

theorem own_ne_at {w : World} {k : Nat} {e e' : TypeId} {size n m g p cap : Nat} {xs : List Value} {c : Array Value} (ho : w.ownsRow k e size (.slice (some ⟨g, 0, none⟩) m cap) n xs) (ha : At w p e' c) (hne : e ≠ e') : g ≠ p := by
  have := own_at ho ha hne
  simpa [Value.ownBlock] using this

theorem own_slice {w : World} {k : Nat} {e : TypeId} {size n : Nat} {v : Value} {xs : List Value} (ho : w.ownsRow k e size v n xs) : ∃ A cap, v = .slice A n cap := by
  rcases own_cases ho with ⟨rfl, rfl, _⟩ | ⟨g, cap, rfl, _⟩
  · exact ⟨none, 0, rfl⟩
  · exact ⟨_, cap, rfl⟩
theorem own_own {w : World} {k k' : Nat} {e e' : TypeId} {size size' n n' m g cap : Nat} {v : Value} {xs ys : List Value} (ho : w.ownsRow k e size v n xs) (ha : w.ownsRow k' e' size' (.slice (some ⟨g, 0, none⟩) m cap) n' ys) (hne : e ≠ e') : v.ownBlock ≠ some g := by
  rcases ha.2 with ⟨h, _⟩ | ⟨g', cap', cur, hv, hb, hg, _⟩
  · cases h
  · simp only [Value.slice.injEq, Option.some.injEq, Addr.mk.injEq, and_true] at hv
    obtain ⟨rfl, _⟩ := hv
    exact own_at (c := cur) ho hg hne
/-- A slice value that reads as n elements of so many cells, in blocks outside X. -/
def Rd (w : World) (X : Nat → Prop) (size : Nat) (v : Value) (n : Nat) (xs : List Value) : Prop :=
  xs.length = n * size ∧ ∃ A cap, v = .slice A n cap ∧ n ≤ cap ∧ (0 < n → ∃ b o, A = some ⟨b, o, none⟩ ∧ b < w.heap.size ∧ ¬ X b ∧ ∀ j, j < n * size → w.cell? ⟨b, o + j, none⟩ = xs[j]?)

section
variable {w w' : World} {X Y : Nat → Prop} {size n : Nat} {v : Value} {xs : List Value}
theorem Rd.nil (w : World) (X : Nat → Prop) (size : Nat) : Rd w X size (.slice none 0 0) 0 [] := ⟨by simp, none, 0, rfl, Nat.le_refl _, fun h => absurd h (by omega)⟩
theorem Rd.keep (h : Rd w X size v n xs) (k : Keep Y w w') (hY : ∀ i, Y i → X i) : Rd w' X size v n xs := by
  obtain ⟨hl, A, cap, hv, hc, hr⟩ := h
  refine ⟨hl, A, cap, hv, hc, fun hn => ?_⟩
  obtain ⟨b, o, hA, hb, hX, hcell⟩ := hr hn
  exact ⟨b, o, hA, Nat.lt_of_lt_of_le hb k.size, hX, fun j hj => (World.cell?_of_block (w := w) (a := ⟨b, o + j, none⟩) (k.block b hb (fun hy => hX (hY b hy)))).trans (hcell j hj)⟩
theorem Rd.mono (h : Rd w X size v n xs) (hY : ∀ i, i < w.heap.size → Y i → X i) : Rd w Y size v n xs := by
  obtain ⟨hl, A, cap, hv, hc, hr⟩ := h
  refine ⟨hl, A, cap, hv, hc, fun hn => ?_⟩
  obtain ⟨b, o, hA, hb, hX, hcell⟩ := hr hn
  exact ⟨b, o, hA, hb, fun hy => hX (hY b hb hy), hcell⟩
theorem Rd.of_own {k : Nat} {e : TypeId} (h : w.ownsRow k e size v n xs) (hX : ∀ g, v.ownBlock = some g → ¬ X g) : Rd w X size v n xs := by
  rcases own_cases h with ⟨rfl, rfl, rfl⟩ | ⟨g, cap, rfl, hc, hg⟩
  · exact Rd.nil w X size
  · exact ⟨h.1, _, cap, rfl, hc, fun _ => ⟨g, 0, rfl, hg, hX g rfl, fun j hj => by rw [Nat.zero_add]; exact h.cellAt j hj⟩⟩
end

/-- What append asks of an element's type: one closed fact a type. -/
structure Elem (P : Program) (t e : TypeId) (size bytes : Nat) : Prop where
  und : P.underlying t = some (.slice e)
  info : ∃ i z, P.info? e = some i ∧ i.zero = some z ∧ i.size = size ∧ i.bytes = bytes ∧ z.cells.size = size
  pos : 0 < size
theorem Elem.mk' {P : Program} {t e : TypeId} {z : Value} {size bytes : Nat} (h1 : P.underlying t = some (.slice e)) (h2 : (P.info? e).map (fun i => (i.zero, i.size, i.bytes)) = some (some z, size, bytes)) (h3 : z.cells.size = size) (h4 : 0 < size) : Elem P t e size bytes := by
  obtain ⟨i, hi, a, b, c⟩ := info_parts h2
  exact ⟨h1, ⟨i, z, hi, a, b, c, h3⟩, h4⟩

/-- append of elements that lie in a block of their own. -/
theorem wpList_app {P : Program} {w : World} {ops : Array Oper} {rest : List Oper} {o : Oper} {a : Act} {Q : Exit → Act → World → Prop} (hgd : o.guard = none) (s x : Operand) (t : TypeId)
    (ho : o.op = .call { callee := .builtin .append, args := #[s, x], argTypes := #[t, t] }) {e : TypeId} {size bytes : Nat} (E : Elem P t e size bytes)
    (v : Value) (n : Nat) (xs : List Value) (hs : a.eval s = v) (hown : w.ownsRow 0 e size v n xs)
    (b m c : Nat) (cs : Array Value) (hx : a.eval x = .slice (some ⟨b, 0, none⟩) m c) (hb : At w b e cs) (hl : cs.size = m * size) (h1 : ∀ u ∈ cs.toList, u.oneCell' = true)
    (hm : 0 < m) (hlen : n + m ≤ 1099511627776) (hby : bytes ≤ 128)
    (h : ∀ g cap w', w'.ownsRow 0 e size (.slice (some ⟨g, 0, none⟩) (n + m) cap) (n + m) (xs ++ cs.toList) → Keep (fun k => v.ownBlock = some k) w w' → (v.ownBlock = some g ∨ w.heap.size ≤ g) → g < w'.heap.size → wpList P ops Q rest (a.put o.dst (.slice (some ⟨g, 0, none⟩) (n + m) cap)) w') : wpList P ops Q (o :: rest) a w := by
  obtain ⟨hu, ⟨i, z, hi, hz, hsz, hb2, hzs⟩, hpos⟩ := E
  have hbytes : (n + m) * bytes ≤ 140737488355328 := Nat.le_trans (Nat.mul_le_mul hlen hby) (by omega)
  refine wpList_append_lies w hgd s x t ho 0 e i z size bytes hu hi hz hsz hb2 hzs hpos v n xs hs hown ⟨b, 0, none⟩ m c cs.toList hx (by simpa using hl) (World.news_of_block hb) h1 hm (by unfold maxLen; omega) hbytes (Nat.zero_le _) w.heap.size rfl ?_
  intro g cap w' h2 h3 h4 h5
  exact h g cap w' h2 (Keep.of_grown h3) (h4.imp id (fun e => by omega)) h5
theorem step_app {P : Program} {w : World} {ops : Array Oper} {o : Oper} {a : Act} {K : Act → World → Prop} {Q : Exit → Act → World → Prop} {Z : Prop} (hgd : o.guard = none) (s x : Operand) (t : TypeId)
    (ho : o.op = .call { callee := .builtin .append, args := #[s, x], argTypes := #[t, t] }) {e : TypeId} {size bytes : Nat} (E : Elem P t e size bytes)
    (v : Value) (n : Nat) (xs : List Value) (hs : a.eval s = v) (hown : w.ownsRow 0 e size v n xs)
    (b m c : Nat) (cs : Array Value) (hx : a.eval x = .slice (some ⟨b, 0, none⟩) m c) (hb : At w b e cs) (hl : cs.size = m * size) (h1 : ∀ u ∈ cs.toList, u.oneCell' = true)
    (hm : 0 < m) (hlen : n + m ≤ 1099511627776) (hby : bytes ≤ 128)
    (h : ∀ g cap w', w'.ownsRow 0 e size (.slice (some ⟨g, 0, none⟩) (n + m) cap) (n + m) (xs ++ cs.toList) → Keep (fun k => v.ownBlock = some k) w w' → (v.ownBlock = some g ∨ w.heap.size ≤ g) → g < w'.heap.size → K (a.put o.dst (.slice (some ⟨g, 0, none⟩) (n + m) cap)) w') :
    if Region.wanted o (yielded ops a.tmps) = true then Oper.wp P o a w K Q else Z := by
  obtain ⟨hu, ⟨i, z, hi, hz, hsz, hb2, hzs⟩, hpos⟩ := E
  have hbytes : (n + m) * bytes ≤ 140737488355328 := Nat.le_trans (Nat.mul_le_mul hlen hby) (by omega)
  refine step_append_lies w hgd s x t ho 0 e i z size bytes hu hi hz hsz hb2 hzs hpos v n xs hs hown ⟨b, 0, none⟩ m c cs.toList hx (by simpa using hl) (World.news_of_block hb) h1 hm (by unfold maxLen; omega) hbytes (Nat.zero_le _) w.heap.size rfl ?_
  intro g cap w' h2 h3 h4 h5
  exact h g cap w' h2 (Keep.of_grown h3) (h4.imp id (fun e => by omega)) h5

theorem Addr_lit (b o j : Nat) : (⟨b, o, none⟩ : Addr).add j = ⟨b, o + j, none⟩ := by unfold Addr.add; split <;> simp_all
/-- append of whatever slice, nil or not, onto a row of the call's own. -/
theorem run_app_rd {P : Program} {w : World} (t ty : TypeId) {e : TypeId} {size bytes : Nat} (E : Elem P t e size bytes) (v : Value) (n : Nat) (xs : List Value) (hown : w.ownsRow 0 e size v n xs)
    {X : Nat → Prop} (x : Value) (m : Nat) (ys : List Value) (hx : Rd w X size x m ys) (h1 : ∀ u ∈ ys, u.oneCell' = true) (hlen : n + m ≤ 1099511627776) (hby : bytes ≤ 128) :
    ∃ v' w', (Builtin.append_ #[t, t] ty #[v, x]).run P w = .ok v' w' ∧ w'.ownsRow 0 e size v' (n + m) (xs ++ ys) ∧ Keep (fun k => v.ownBlock = some k) w w' ∧ ∀ g, v'.ownBlock = some g → v.ownBlock = some g ∨ w.heap.size ≤ g := by
  obtain ⟨hu, ⟨i, z, hi, hz, hsz, hb2, hzs⟩, hpos⟩ := E
  obtain ⟨hl, A, cap, rfl, hc, hr⟩ := hx
  have hbytes : (n + m) * bytes ≤ 140737488355328 := Nat.le_trans (Nat.mul_le_mul hlen hby) (by omega)
  rcases A with _ | ad
  · have hm : m = 0 := by
      rcases Nat.eq_zero_or_pos m with h0 | h0
      · exact h0
      · obtain ⟨b, o, hA, _⟩ := hr h0
        cases hA
    subst hm
    have hy : ys = [] := List.eq_nil_of_length_eq_zero (by simpa using hl)
    subst hy
    refine ⟨v, w, ?_, by simpa using hown, Keep.refl _ _, fun g hg => .inl hg⟩
    rcases hown.2 with ⟨rfl, rfl⟩ | ⟨g, cap', cur, rfl, _, _, hnc, _⟩
    · simp [Builtin.append_, run_underlying hu, sizeOf, typeInfo, hi, Builtin.lenOf, Builtin.firstCells]
    · simp [Builtin.append_, run_underlying hu, sizeOf, typeInfo, hi, Builtin.lenOf, Builtin.firstCells, hnc, storeCells]
  · have hcells : ∀ j u, ys[j]? = some u → w.cell? (ad.add j) = some u := by
      intro j u hu'
      have hj : j < ys.length := (List.getElem?_eq_some_iff.1 hu').1
      have hm : 0 < m := by
        rcases Nat.eq_zero_or_pos m with h0 | h0
        · subst h0; omega
        · exact h0
      obtain ⟨b, o, hA, _, _, hcell⟩ := hr hm
      simp only [Option.some.injEq] at hA
      subst hA
      rw [Addr_lit, hcell j (by omega)]
      exact hu'
    obtain ⟨v', w', hrun, h2, h3, _, h5⟩ := run_append_own_at (P := P) w 0 t ty e i z size bytes hu hi hz hsz hb2 hzs hpos v n xs hown ad m cap ys hl hcells h1 (by unfold maxLen; omega) hbytes (Nat.zero_le _)
    refine ⟨v', w', hrun, h2, Keep.of_grown h3, fun g hg => ?_⟩
    rcases h5 with h5 | h5
    · exact .inl (by rw [← h5]; exact hg)
    · rw [h5] at hg
      simp only [Option.some.injEq] at hg
      exact .inr (by omega)
theorem wpList_app_rd {P : Program} {w : World} {ops : Array Oper} {rest : List Oper} {o : Oper} {a : Act} {Q : Exit → Act → World → Prop} (hgd : o.guard = none) (s x : Operand) (t : TypeId)
    (ho : o.op = .call { callee := .builtin .append, args := #[s, x], argTypes := #[t, t] }) {e : TypeId} {size bytes : Nat} (E : Elem P t e size bytes)
    (v : Value) (n : Nat) (xs : List Value) (hs : a.eval s = v) (hown : w.ownsRow 0 e size v n xs)
    {X : Nat → Prop} (xv : Value) (m : Nat) (ys : List Value) (hx : a.eval x = xv) (hr : Rd w X size xv m ys) (h1 : ∀ u ∈ ys, u.oneCell' = true) (hlen : n + m ≤ 1099511627776) (hby : bytes ≤ 128)
    (h : ∀ v' w', w'.ownsRow 0 e size v' (n + m) (xs ++ ys) → Keep (fun k => v.ownBlock = some k) w w' → (∀ g, v'.ownBlock = some g → v.ownBlock = some g ∨ w.heap.size ≤ g) → wpList P ops Q rest (a.put o.dst v') w') : wpList P ops Q (o :: rest) a w := by
  refine wpList_plain hgd fun K hK => ?_
  obtain ⟨v', w', hrun, h2, h3, h4⟩ := run_app_rd (P := P) t o.type E v n xs hown xv m ys hr h1 hlen hby
  unfold Oper.wp execOp
  simp only [ho, resolve, invoke, builtin, Sem.run_bind, Sem.run_pure, Result.andThen_ok, List.map_toArray, List.map_cons, List.map_nil, hs, hx, hrun]
  exact hK _ _ (h v' w' h2 h3 h4)
theorem step_app_rd {P : Program} {w : World} {ops : Array Oper} {o : Oper} {a : Act} {K : Act → World → Prop} {Q : Exit → Act → World → Prop} {Z : Prop} (hgd : o.guard = none) (s x : Operand) (t : TypeId)
    (ho : o.op = .call { callee := .builtin .append, args := #[s, x], argTypes := #[t, t] }) {e : TypeId} {size bytes : Nat} (E : Elem P t e size bytes)
    (v : Value) (n : Nat) (xs : List Value) (hs : a.eval s = v) (hown : w.ownsRow 0 e size v n xs)
    {X : Nat → Prop} (xv : Value) (m : Nat) (ys : List Value) (hx : a.eval x = xv) (hr : Rd w X size xv m ys) (h1 : ∀ u ∈ ys, u.oneCell' = true) (hlen : n + m ≤ 1099511627776) (hby : bytes ≤ 128)
    (h : ∀ v' w', w'.ownsRow 0 e size v' (n + m) (xs ++ ys) → Keep (fun k => v.ownBlock = some k) w w' → (∀ g, v'.ownBlock = some g → v.ownBlock = some g ∨ w.heap.size ≤ g) → K (a.put o.dst v') w') :
    if Region.wanted o (yielded ops a.tmps) = true then Oper.wp P o a w K Q else Z := by
  have hw : Region.wanted o (yielded ops a.tmps) = true := by simp [Region.wanted, hgd]
  rw [if_pos hw]
  obtain ⟨v', w', hrun, h2, h3, h4⟩ := run_app_rd (P := P) t o.type E v n xs hown xv m ys hr h1 hlen hby
  unfold Oper.wp execOp
  simp only [ho, resolve, invoke, builtin, Sem.run_bind, Sem.run_pure, Result.andThen_ok, List.map_toArray, List.map_cons, List.map_nil, hs, hx, hrun]
  exact h v' w' h2 h3 h4

theorem ret_int {k : IntKind} {a b : Int} (h : a = b) : Ending.returned (.int k a) = .returned (.int k b) := by rw [h]
theorem ret_bool {a b : Bool} (h : a = b) : Ending.returned (.bool a) = .returned (.bool b) := by rw [h]
end Go.Proofs.YtbanpohholnkaaaDoor
