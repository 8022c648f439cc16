/-
  The arena as a value: its cells, what it counts; how it lies in memory. Conditions: none; definitions and plain lemmas.
-/
import Derived.Test.YtaklhkghjklkhaaMem
namespace Go.Proofs.Ytaklhkghjklkhaa
open Go.RowKit

structure Sl where
  ref : Bool
  n : Int
deriving DecidableEq
structure Ce where
  ref : Bool
  n : Int
  next : Int
  first : Bool
  mark : Bool
def Ce.sl (c : Ce) : Sl := ⟨c.ref, c.n⟩
def Ce.vals (c : Ce) : List Value := [.bool c.ref, .int .i64 c.n, .int .i64 c.next, .bool c.first, .bool c.mark]
def Sl.vals (s : Sl) : List Value := [.bool s.ref, .int .i64 s.n]
def flat (cs : List Ce) : List Value := cs.flatMap Ce.vals
def sflat (l : List Sl) : List Value := l.flatMap Sl.vals
structure Ar where
  cs : List Ce
  most : Int
  free : Int
  used : Int
  objects : Int

theorem flat_cons (c : Ce) (l : List Ce) : flat (c :: l) = c.vals ++ flat l := by simp [flat]
theorem flat_length (l : List Ce) : (flat l).length = l.length * 5 := by
  induction l with
  | nil => rfl
  | cons c l ih => rw [flat_cons, List.length_append, ih]; simp [Ce.vals]; omega
theorem flat_append (l m : List Ce) : flat (l ++ m) = flat l ++ flat m := by simp [flat]
theorem flat_get (l : List Ce) (i : Nat) (c : Ce) (h : l[i]? = some c) :
    (flat l)[i * 5]? = some (.bool c.ref) ∧ (flat l)[i * 5 + 1]? = some (.int .i64 c.n) ∧ (flat l)[i * 5 + 2]? = some (.int .i64 c.next) ∧ (flat l)[i * 5 + 3]? = some (.bool c.first) ∧ (flat l)[i * 5 + 4]? = some (.bool c.mark) := by
  induction l generalizing i with
  | nil => simp at h
  | cons d l ih =>
    rw [flat_cons]
    cases i with
    | zero =>
      simp only [List.getElem?_cons_zero, Option.some.injEq] at h
      subst h
      simp [Ce.vals]
    | succ i =>
      simp only [List.getElem?_cons_succ] at h
      have hl : d.vals.length = 5 := rfl
      obtain ⟨h0, h1, h2, h3, h4⟩ := ih i h
      have go : ∀ j, (d.vals ++ flat l)[(i + 1) * 5 + j]? = (flat l)[i * 5 + j]? := by
        intro j
        rw [List.getElem?_append_right (by rw [hl]; omega), hl]
        congr 1
        omega
      exact ⟨by rw [← Nat.add_zero ((i + 1) * 5), go]; exact h0, by rw [go]; exact h1, by rw [go]; exact h2, by rw [go]; exact h3, by rw [go]; exact h4⟩
theorem flat_set (l : List Ce) (i : Nat) (c d : Ce) (h : l[i]? = some d) :
    flat (l.set i c) = (((((flat l).set (i * 5) (.bool c.ref)).set (i * 5 + 1) (.int .i64 c.n)).set (i * 5 + 2) (.int .i64 c.next)).set (i * 5 + 3) (.bool c.first)).set (i * 5 + 4) (.bool c.mark) := by
  induction l generalizing i with
  | nil => simp at h
  | cons x l ih =>
    cases i with
    | zero => simp [flat_cons, Ce.vals]
    | succ i =>
      simp only [List.getElem?_cons_succ] at h
      have e : (i + 1) * 5 = i * 5 + 1 + 1 + 1 + 1 + 1 := by omega
      simp only [List.set_cons_succ, flat_cons, ih i h, e, Ce.vals, List.cons_append, List.nil_append]
theorem flat_set_next (l : List Ce) (i : Nat) (d : Ce) (h : l[i]? = some d) (x : Int) : flat (l.set i { d with next := x }) = (flat l).set (i * 5 + 2) (.int .i64 x) := by
  obtain ⟨h0, h1, h2, h3, h4⟩ := flat_get l i d h
  rw [flat_set l i _ d h]
  apply List.ext_getElem?
  intro j
  simp only [List.getElem?_set, List.length_set]
  have hlen := flat_length l
  have hi : i < l.length := (List.getElem?_eq_some_iff.1 h).1
  repeat' split
  all_goals first | rfl | omega | (subst_vars; simp_all)
theorem flat_set_mark (l : List Ce) (i : Nat) (d : Ce) (h : l[i]? = some d) (x : Bool) : flat (l.set i { d with mark := x }) = (flat l).set (i * 5 + 4) (.bool x) := by
  obtain ⟨h0, h1, h2, h3, h4⟩ := flat_get l i d h
  rw [flat_set l i _ d h]
  apply List.ext_getElem?
  intro j
  simp only [List.getElem?_set, List.length_set]
  have hlen := flat_length l
  have hi : i < l.length := (List.getElem?_eq_some_iff.1 h).1
  repeat' split
  all_goals first | rfl | omega | (subst_vars; simp_all)
theorem sflat_cons (c : Sl) (l : List Sl) : sflat (c :: l) = c.vals ++ sflat l := by simp [sflat]
theorem sflat_append (l m : List Sl) : sflat (l ++ m) = sflat l ++ sflat m := by simp [sflat]
theorem sflat_length (l : List Sl) : (sflat l).length = l.length * 2 := by
  induction l with
  | nil => rfl
  | cons c l ih => rw [sflat_cons, List.length_append, ih]; simp [Sl.vals]; omega
theorem sflat_get (l : List Sl) (i : Nat) (c : Sl) (h : l[i]? = some c) :
    (sflat l)[i * 2]? = some (.bool c.ref) ∧ (sflat l)[i * 2 + 1]? = some (.int .i64 c.n) := by
  induction l generalizing i with
  | nil => simp at h
  | cons d l ih =>
    rw [sflat_cons]
    cases i with
    | zero =>
      simp only [List.getElem?_cons_zero, Option.some.injEq] at h
      subst h
      simp [Sl.vals]
    | succ i =>
      simp only [List.getElem?_cons_succ] at h
      have hl : d.vals.length = 2 := rfl
      obtain ⟨h0, h1⟩ := ih i h
      have go : ∀ j, (d.vals ++ sflat l)[(i + 1) * 2 + j]? = (sflat l)[i * 2 + j]? := by
        intro j
        rw [List.getElem?_append_right (by rw [hl]; omega), hl]
        congr 1
        omega
      exact ⟨by rw [← Nat.add_zero ((i + 1) * 2), go]; exact h0, by rw [go]; exact h1⟩

/-- The arena's five cells. -/
def arcells (v : Value) (S : Ar) : Array Value := #[v, .int .i64 S.most, .int .i64 S.free, .int .i64 S.used, .int .i64 S.objects]
/-- The arena at block p, its row in v. -/
structure ArV (w : World) (p : Nat) (v : Value) (S : Ar) : Prop where
  head : At w p 55 (arcells v S)
  own : w.ownsRow 0 59 5 v S.cs.length (flat S.cs)
/-- What the arena is made of. -/
def fp (p : Nat) (v : Value) : Nat → Prop := fun k => k = p ∨ v.ownBlock = some k
theorem ArV.ne {w : World} {p : Nat} {v : Value} {S : Ar} (h : ArV w p v S) : v.ownBlock ≠ some p := own_at h.own h.head (by decide)
theorem ArV.keep {w w' : World} {p : Nat} {v : Value} {S : Ar} {X : Nat → Prop} (h : ArV w p v S) (k : Keep X w w') (hX : ∀ i, fp p v i → ¬ X i) : ArV w' p v S :=
  ⟨k.at_ h.head (hX p (.inl rfl)), k.own h.own (fun g hg => hX g (.inr hg))⟩
theorem ArV.lt {w : World} {p : Nat} {v : Value} {S : Ar} (h : ArV w p v S) : ∀ i, fp p v i → i < w.heap.size := by
  intro i hi
  rcases hi with rfl | hi
  · exact h.head.lt
  · exact own_lt h.own hi
/-- Its row's form, where there is a cell. -/
theorem ArV.form {w : World} {p : Nat} {v : Value} {S : Ar} (h : ArV w p v S) {i : Nat} (hi : i < S.cs.length) :
    ∃ g cap, v = .slice (some ⟨g, 0, none⟩) S.cs.length cap ∧ S.cs.length ≤ cap ∧ g < w.heap.size ∧ p ≠ g ∧ (∀ j, w.frozen? ⟨g, j, none⟩ = false) ∧
      ∀ k c, S.cs[k]? = some c → w.cell? ⟨g, k * 5, none⟩ = some (.bool c.ref) ∧ w.cell? ⟨g, k * 5 + 1, none⟩ = some (.int .i64 c.n) ∧ w.cell? ⟨g, k * 5 + 2, none⟩ = some (.int .i64 c.next) ∧ w.cell? ⟨g, k * 5 + 3, none⟩ = some (.bool c.first) ∧ w.cell? ⟨g, k * 5 + 4, none⟩ = some (.bool c.mark) := by
  rcases own_cases h.own with ⟨_, h0, _⟩ | ⟨g, cap, rfl, hc, hg⟩
  · omega
  · refine ⟨g, cap, rfl, hc, hg, ?_, fun j => h.own.frozenAt j, ?_⟩
    · intro e
      exact h.ne (by simp [Value.ownBlock, e])
    · intro k c hk
      have hkl : k < S.cs.length := (List.getElem?_eq_some_iff.1 hk).1
      obtain ⟨h0, h1, h2, h3, h4⟩ := flat_get _ _ _ hk
      exact ⟨by rw [h.own.cellAt _ (by omega)]; exact h0, by rw [h.own.cellAt _ (by omega)]; exact h1, by rw [h.own.cellAt _ (by omega)]; exact h2, by rw [h.own.cellAt _ (by omega)]; exact h3, by rw [h.own.cellAt _ (by omega)]; exact h4⟩
/-- The value of the row, whatever its length. -/
theorem ArV.val {w : World} {p : Nat} {v : Value} {S : Ar} (h : ArV w p v S) : ∃ A cap, v = .slice A S.cs.length cap := by
  rcases own_cases h.own with ⟨rfl, h0, _⟩ | ⟨g, cap, rfl, _, _⟩
  · exact ⟨none, 0, by rw [h0]⟩
  · exact ⟨_, cap, rfl⟩
theorem ArV.lens {w : World} {p : Nat} {v : Value} {S : Ar} (h : ArV w p v S) : w.cell? ⟨p, 0, none⟩ = some v ∧ w.cell? ⟨p, 1, none⟩ = some (.int .i64 S.most) ∧ w.cell? ⟨p, 2, none⟩ = some (.int .i64 S.free) ∧ w.cell? ⟨p, 3, none⟩ = some (.int .i64 S.used) ∧ w.cell? ⟨p, 4, none⟩ = some (.int .i64 S.objects) :=
  ⟨h.head.cell 0, h.head.cell 1, h.head.cell 2, h.head.cell 3, h.head.cell 4⟩

/-! ### what the methods make of it -/
def isB (S : Ar) (r : Int) : Bool := decide (0 ≤ r) && ((S.cs[r.toNat]?).map (·.first)).getD false
theorem isB_neg {S : Ar} {r : Int} (h : r < 0) : isB S r = false := by simp [isB]; intro; omega
theorem isB_out {S : Ar} {r : Nat} (h : S.cs.length ≤ r) : isB S r = false := by simp [isB, List.getElem?_eq_none h]
theorem isB_at {S : Ar} {r : Nat} {c : Ce} (h : S.cs[r]? = some c) : isB S r = c.first := by simp [isB, h]
theorem isB_true {S : Ar} {r : Int} (h : isB S r = true) : ∃ (k : Nat) (c : Ce), r = k ∧ S.cs[k]? = some c ∧ c.first = true := by
  simp only [isB, Bool.and_eq_true, decide_eq_true_eq] at h
  obtain ⟨h0, h1⟩ := h
  cases hc : S.cs[r.toNat]? with
  | none => simp [hc] at h1
  | some c => exact ⟨r.toNat, c, by omega, hc, by simpa [hc] using h1⟩

/-- take: where the free list is empty. -/
def takeNew (S : Ar) (c : Ce) : Ar := { S with cs := S.cs ++ [c], used := S.used + 1 }
/-- take: the free list's first cell f, whose next one is nf. -/
def takeOld (S : Ar) (f : Nat) (nf : Int) (c : Ce) : Ar := { S with cs := S.cs.set f c, free := nf, used := S.used + 1 }

/-- The cells l, each told by the one ahead, i the number of the first. -/
def chain (cs : List Ce) : Int → List Nat → Prop
  | i, [] => i = -1
  | i, k :: l => i = (k : Int) ∧ ∃ c, cs[k]? = some c ∧ chain cs c.next l
theorem chain_set {cs : List Ce} {k : Nat} {d : Ce} : ∀ {i : Int} {l : List Nat}, chain cs i l → k ∉ l → chain (cs.set k d) i l
  | _, [], h, _ => h
  | _, j :: l, ⟨h1, c, h2, h3⟩, hk => by
    simp only [List.mem_cons, not_or] at hk
    exact ⟨h1, c, by rw [List.getElem?_set_ne hk.1]; exact h2, chain_set h3 hk.2⟩
theorem chain_lt {cs : List Ce} : ∀ {i : Int} {l : List Nat}, chain cs i l → ∀ k ∈ l, k < cs.length
  | _, [], _, k, hk => by cases hk
  | _, j :: l, ⟨h1, c, h2, h3⟩, k, hk => by
    rcases List.mem_cons.1 hk with rfl | hk
    · exact (List.getElem?_eq_some_iff.1 h2).1
    · exact chain_lt h3 k hk
theorem chain_append {cs : List Ce} {c : Ce} : ∀ {i : Int} {l : List Nat}, chain cs i l → chain (cs ++ [c]) i l
  | _, [], h => h
  | _, j :: l, ⟨h1, d, h2, h3⟩ => ⟨h1, d, by rw [List.getElem?_append_left (List.getElem?_eq_some_iff.1 h2).1]; exact h2, chain_append h3⟩
theorem chain_congr {cs ds : List Ce} : ∀ {i : Int} {l : List Nat}, chain cs i l → (∀ k ∈ l, (ds[k]?).map (·.next) = (cs[k]?).map (·.next)) → chain ds i l
  | _, [], h, _ => h
  | _, j :: l, ⟨h1, d, h2, h3⟩, hk => by
    have hj := hk j (by simp)
    rw [h2] at hj
    cases hd : ds[j]? with
    | none => rw [hd] at hj; simp at hj
    | some d' =>
      rw [hd] at hj
      simp only [Option.map_some, Option.some.injEq] at hj
      exact ⟨h1, d', hd, by rw [hj]; exact chain_congr h3 (fun k hk' => hk k (by simp [hk']))⟩

/-- drop: one cell. -/
def drop1 (S : Ar) (k : Nat) : Ar := { S with cs := S.cs.set k ⟨false, 0, S.free, false, false⟩, free := k, used := S.used - 1 }
def dropL (S : Ar) : List Nat → Ar
  | [] => S
  | k :: l => dropL (drop1 S k) l
theorem dropL_length (S : Ar) (l : List Nat) : (dropL S l).cs.length = S.cs.length := by
  induction l generalizing S with
  | nil => rfl
  | cons k l ih => rw [dropL, ih]; simp [drop1]
end Go.Proofs.Ytaklhkghjklkhaa
