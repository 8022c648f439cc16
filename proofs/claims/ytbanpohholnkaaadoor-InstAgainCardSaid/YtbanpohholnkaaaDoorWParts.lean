/-
  Walks: rel.dynamic, rel.parts. Conditions: a normal type.
-/
import Derived.Test.YtbanpohholnkaaaDoorWNormF
import Derived.Test.YtbanpohholnkaaaDoorRelQ
import Derived.Test.YtbanpohholnkaaaDoorWords
namespace Go.Proofs.YtbanpohholnkaaaDoor
open Go.RowKit

set_option maxHeartbeats 400000 in
theorem dynamic_any {w : World} {X : Nat → Prop} {r : Tv} {t : Ty} (h : TyV w X r t) :
    Calls Tryd.prog 47 #[r.val] w fun e w' => e = .returned (.bool (decide (t.kind = 0))) ∧ Keep (fun _ => False) w w' := by
  have hk := h.out.1.1
  obtain ⟨k, nm, An, nn, cn, Ak, nk, ck⟩ := r
  simp only at hk
  unfold Tv.val
  rw [← hk]
  clear h hk
  simp only
  by_cases h0 : k = 0
  · have d : (k == 0) = true := by simpa using h0
    have e : decide (k = 0) = true := by simpa using h0
    rw [e]
    clear h0 e
    go_enter Tryd.func47, Tryd.ntmps47
    go_wp2_with fail
    go_ret
    exact ⟨rfl, (Keep.refl _ w).alloc _⟩
  · have d : (k == 0) = false := by simpa using h0
    have e : decide (k = 0) = false := by simpa using h0
    rw [e]
    clear h0 e
    go_enter Tryd.func47, Tryd.ntmps47
    go_wp2_with fail
    go_ret
    exact ⟨rfl, (Keep.refl _ w).alloc _⟩
/-- The part of a tag lies in block b. -/
def PartAt (w : World) (X : Nat → Prop) (b : Nat) (tag : Nat) (m : Bool × Ty) : Prop :=
  ∃ q : Tv, At w b 65 #[.int .i64 tag, .bool m.1, .int .i64 q.k, .string q.nm, .slice q.An q.nn q.cn, .slice q.Ak q.nk q.ck] ∧ TyV w X q m.2
theorem PartAt.step {w w' : World} {X : Nat → Prop} {b tag : Nat} {m : Bool × Ty} (h : PartAt w X b tag m) (k : Keep (fun _ => False) w w') : PartAt w' X b tag m := by
  obtain ⟨q, h1, h2⟩ := h
  exact ⟨q, k.at_ h1 (fun x => x), h2.step k⟩
theorem PartAt.keep {w w' : World} {X Y : Nat → Prop} {b tag : Nat} {m : Bool × Ty} (h : PartAt w X b tag m) (k : Keep Y w w') (hX : ∀ i, Y i → X i) (hY : ∀ i c, Y i → ¬ At w i 65 c) : PartAt w' X b tag m := by
  obtain ⟨q, h1, h2⟩ := h
  exact ⟨q, k.at_ h1 (fun x => hY _ _ x h1), h2.keep k (fun _ _ x => hX _ x) (fun _ _ x => x)⟩
theorem PartAt.plain {w : World} {X : Nat → Prop} {b tag : Nat} {m : Bool × Ty} (h : PartAt w X b tag m) : PartAt w nX b tag m := by
  obtain ⟨q, h1, h2⟩ := h
  exact ⟨q, h1, h2.mono (fun _ _ x => x.elim)⟩
/-- All of a type's parts. -/
def partsL (t : Ty) : List Ty := if t.kind = 0 then (List.range 6).map anyP else atoms t
def opn (t : Ty) (tag : Nat) : Bool := decide (t.kind = 0) && decide (tag = 4)
theorem tag_anyP (tag : Nat) (h : tag < 6) : tagT (anyP tag) = tag := by
  match tag, h with
  | 0, _ => rfl
  | 1, _ => rfl
  | 2, _ => rfl
  | 3, _ => rfl
  | 4, _ => rfl
  | 5, _ => rfl
theorem partsL_rise {t : Ty} (h : NF t) : Rise (partsL t) := by
  unfold partsL
  by_cases h0 : t.kind = 0
  · rw [if_pos h0]
    have e : (List.range 6).map anyP = [anyP 0, anyP 1, anyP 2, anyP 3, anyP 4, anyP 5] := rfl
    rw [e]
    simp [Rise, tag_anyP]
  · rw [if_neg h0]
    exact atoms_rise h h0
theorem prt_find {t : Ty} {tag : Nat} (ht : tag < 6) : prt t tag = ((partsL t).find? fun k => decide (tagT k = (tag : Int))).map fun k => (opn t tag, k) := by
  unfold prt partsL opn
  by_cases h0 : t.kind = 0
  · rw [if_pos h0, if_pos h0]
    have e : (List.range 6).map anyP = [anyP 0, anyP 1, anyP 2, anyP 3, anyP 4, anyP 5] := rfl
    rw [e]
    simp only [h0, decide_true, Bool.true_and]
    match tag, ht with
    | 0, _ => rfl
    | 1, _ => rfl
    | 2, _ => rfl
    | 3, _ => rfl
    | 4, _ => rfl
    | 5, _ => rfl
  · rw [if_neg h0, if_neg h0]
    simp [h0]
/-- Of the first parts, those that there are lie at their tags. -/
structure PtV (w : World) (X : Nat → Prop) (t : Ty) (l : List Ty) (cs : Array Value) : Prop where
  size : cs.size = 6
  emp : ∀ tag : Nat, tag < 6 → (l.find? fun k => decide (tagT k = (tag : Int))) = none → cs[tag]? = some (.pointer none)
  has : ∀ (tag : Nat) (k : Ty), tag < 6 → (l.find? fun k => decide (tagT k = (tag : Int))) = some k → ∃ b, cs[tag]? = some (.pointer (some ⟨b, 0, none⟩)) ∧ PartAt w X b tag (opn t tag, k)
theorem PtV.keep {w w' : World} {X Y : Nat → Prop} {t : Ty} {l : List Ty} {cs : Array Value} (h : PtV w X t l cs) (k : Keep Y w w') (hX : ∀ i, Y i → X i) (hY : ∀ i c, Y i → ¬ At w i 65 c) : PtV w' X t l cs :=
  ⟨h.size, h.emp, fun tag x ht hf => by obtain ⟨b, h1, h2⟩ := h.has tag x ht hf; exact ⟨b, h1, h2.keep k hX hY⟩⟩
theorem PartAt.weak {w : World} {X Z : Nat → Prop} {b tag : Nat} {m : Bool × Ty} (h : PartAt w X b tag m) (hZ : ∀ i, Z i → X i) : PartAt w Z b tag m := by
  obtain ⟨q, h1, h2⟩ := h
  exact ⟨q, h1, h2.mono (fun i _ x => hZ i x)⟩
theorem PtV.weak {w : World} {X Z : Nat → Prop} {t : Ty} {l : List Ty} {cs : Array Value} (h : PtV w X t l cs) (hZ : ∀ i, Z i → X i) : PtV w Z t l cs :=
  ⟨h.size, h.emp, fun tag x ht hf => by obtain ⟨b, h1, h2⟩ := h.has tag x ht hf; exact ⟨b, h1, h2.weak hZ⟩⟩
theorem PtV.plain {w : World} {X : Nat → Prop} {t : Ty} {l : List Ty} {cs : Array Value} (h : PtV w X t l cs) : PtV w nX t l cs :=
  ⟨h.size, h.emp, fun tag x ht hf => by obtain ⟨b, h1, h2⟩ := h.has tag x ht hf; exact ⟨b, h1, h2.plain⟩⟩
theorem PtV.step {w w' : World} {X : Nat → Prop} {t : Ty} {l : List Ty} {cs : Array Value} (h : PtV w X t l cs) (k : Keep (fun _ => False) w w') : PtV w' X t l cs :=
  ⟨h.size, h.emp, fun tag x ht hf => by obtain ⟨b, h1, h2⟩ := h.has tag x ht hf; exact ⟨b, h1, h2.step k⟩⟩
theorem PtV.snoc {w : World} {X : Nat → Prop} {t k : Ty} {l : List Ty} {cs : Array Value} {n b : Nat} (h : PtV w X t l cs) (hk : tagT k = n) (hn : n < 6) (hno : ∀ x ∈ l, tagT x ≠ tagT k) (hb : PartAt w X b n (opn t n, k)) : PtV w X t (l ++ [k]) (cs.setIfInBounds n (.pointer (some ⟨b, 0, none⟩))) := by
  have hl : (l.find? fun k => decide (tagT k = (n : Int))) = none := List.find?_eq_none.2 fun x hx => by
    have := hno x hx
    simpa [hk] using this
  have hf : ∀ tag : Nat, ((l ++ [k]).find? fun x => decide (tagT x = (tag : Int))) = if tag = n then some k else l.find? fun x => decide (tagT x = (tag : Int)) := fun tag => by
    rw [List.find?_append]
    by_cases ht : tag = n
    · rw [if_pos ht, ht, hl]
      simp [hk]
    · rw [if_neg ht]
      have : ¬ n = tag := fun e => ht e.symm
      have : ((n : Int) = (tag : Int)) = False := by simp; omega
      simp [hk, this]
  refine ⟨by simp [h.size], fun tag ht he => ?_, fun tag x ht he => ?_⟩
  · rw [hf] at he
    split at he
    · cases he
    · rename_i hne
      rw [Array.getElem?_setIfInBounds, if_neg (fun e => hne e.symm)]
      exact h.emp tag ht he
  · rw [hf] at he
    split at he
    · rename_i hne
      subst hne
      obtain rfl := Option.some.inj he
      exact ⟨b, by rw [Array.getElem?_setIfInBounds, if_pos rfl, if_pos (by rw [h.size]; exact hn)], hb⟩
    · rename_i hne
      obtain ⟨b', h1, h2⟩ := h.has tag x ht he
      exact ⟨b', by rw [Array.getElem?_setIfInBounds, if_neg (fun e => hne e.symm)]; exact h1, h2⟩
theorem PtV.empty (w : World) (X : Nat → Prop) (t : Ty) : PtV w X t [] #[.pointer none, .pointer none, .pointer none, .pointer none, .pointer none, .pointer none] := by
  refine ⟨rfl, fun tag ht _ => ?_, fun tag k _ h => by simp at h⟩
  match tag, ht with
  | 0, _ => rfl
  | 1, _ => rfl
  | 2, _ => rfl
  | 3, _ => rfl
  | 4, _ => rfl
  | 5, _ => rfl
def PtsR (X : Nat → Prop) (w1 : World) (t : Ty) (ls : List Ty) (ab rb n : Nat) (k : Nat) (b : Value) (wr : World) : Prop :=
  ∃ (i : Nat) (cs : Array Value), b = .int .i64 i ∧ i ≤ n ∧ k = n - i ∧ At wr ab 62 cs ∧ PtV wr (fun g => X g ∨ g = ab ∨ g = rb) t (ls.take i) cs ∧ Keep (fun g => g = ab) w1 wr
theorem ret_cell6 {fn : Func} {a : Tmp} (h : fn.results = #[.cell a 62]) {tmps : Array Value} {w : World} {b : Nat} {v0 v1 v2 v3 v4 v5 : Value} (ha : tmps.getD a undef = .pointer (some ⟨b, 0, none⟩)) (hb : At w b 62 #[v0, v1, v2, v3, v4, v5]) :
    (results fn tmps).run Tryd.prog w = .ok (.agg #[v0, v1, v2, v3, v4, v5]) w := by
  obtain ⟨hl, c0, c1, c2, c3, c4, c5⟩ := hb.cells6
  have ia := Tryd.isAgg62 w
  simp only [Array.getD_eq_getD_getElem?] at ha
  simp [results, h, ha, go_sem, ia, c0, c1, c2, c3, c4, c5]
theorem PtV.ptrs {w : World} {X : Nat → Prop} {t : Ty} {l : List Ty} {cs : Array Value} (h : PtV w X t l cs) : ∃ p0 p1 p2 p3 p4 p5, cs = #[.pointer p0, .pointer p1, .pointer p2, .pointer p3, .pointer p4, .pointer p5] := by
  have key : ∀ tag, tag < 6 → ∃ p, cs[tag]? = some (.pointer p) := fun tag ht => by
    cases hf : l.find? fun k => decide (tagT k = (tag : Int)) with
    | none => exact ⟨_, h.emp tag ht hf⟩
    | some k => obtain ⟨b, h1, _⟩ := h.has tag k ht hf; exact ⟨_, h1⟩
  obtain ⟨v0, v1, v2, v3, v4, v5, rfl⟩ := arr6 h.size
  obtain ⟨p0, h0⟩ := key 0 (by decide)
  obtain ⟨p1, h1⟩ := key 1 (by decide)
  obtain ⟨p2, h2⟩ := key 2 (by decide)
  obtain ⟨p3, h3⟩ := key 3 (by decide)
  obtain ⟨p4, h4⟩ := key 4 (by decide)
  obtain ⟨p5, h5⟩ := key 5 (by decide)
  simp only [List.getElem?_toArray, List.getElem?_cons_succ, List.getElem?_cons_zero, Option.some.injEq] at h0 h1 h2 h3 h4 h5
  exact ⟨p0, p1, p2, p3, p4, p5, by rw [h0, h1, h2, h3, h4, h5]⟩
theorem Rd.lits {w : World} {X : Nat → Prop} {b : Nat} {e : TypeId} (rs : List Tv) (h : At w b e (tflat rs).toArray) (hX : ¬ X b) : Rd w X 4 (.slice (some ⟨b, 0, none⟩) rs.length rs.length) rs.length (tflat rs) := by
  have := Rd.lit (X := X) (n := rs.length) (size := 4) h hX (by simp [tflat_length])
  simpa using this
set_option maxRecDepth 100000 in
set_option maxHeartbeats 2000000 in
theorem parts_any0 {w : World} {X : Nat → Prop} {r : Tv} {t : Ty} (hX : ∀ i, X i → i < w.heap.size) (hn : NF t) (h : TyV w X r t) (h0 : t.kind = 0) :
    Calls Tryd.prog 48 #[r.val] w fun e w' => ∃ cs : Array Value, e = .returned (.agg cs) ∧ PtV w' X t (partsL t) cs ∧ Keep (fun _ => False) w w' := by
  obtain ⟨k, nm, An, nn, cn, Ak, nk, ck⟩ := r
  have hkk := h.knd
  simp only at hkk
  have hri := partsL_rise hn
  have HX := Lib.hid hX
  unfold Tv.val
  simp only
  skip
  have hpl : partsL t = [anyP 0, anyP 1, anyP 2, anyP 3, anyP 4, anyP 5] := by unfold partsL; rw [if_pos (by omega)]; rfl
  have HD := Lib.hid (show decide (t.kind = 0) = true by simpa using h0)
  have HPL := Lib.hid hpl
  obtain rfl : k = 0 := by omega
  clear hkk hpl h0
  go_enter Tryd.func48, Tryd.ntmps48
  go_wp2_with fail
  refine gen_world ?_
  intro w1 hw1
  have kw1 : Keep (fun _ => False) w w1 := by rw [hw1]; repeat (first | exact Keep.refl _ w | refine Keep.alloc ?_ _)
  have a0 : At w1 w.heap.size 25 #[.int .i64 0, .string nm, .slice An nn cn, .slice Ak nk ck] := by rw [hw1]; exact (((((At.new _ _ _).alloc _).alloc _).alloc _).alloc _).alloc _
  have a1 : At w1 (w.heap.size + 1) 62 #[.pointer none, .pointer none, .pointer none, .pointer none, .pointer none, .pointer none] := by rw [hw1]; exact ((((At.new_at (by simp)).alloc _).alloc _).alloc _).alloc _
  have a2 : At w1 (w.heap.size + 1 + 1) 62 #[.pointer none, .pointer none, .pointer none, .pointer none, .pointer none, .pointer none] := by rw [hw1]; exact (((At.new_at (by simp)).alloc _).alloc _).alloc _
  have a3 : At w1 (w.heap.size + 1 + 1 + 1 + 1) 25 #[.int .i64 0, .string ⟨#[]⟩, .slice none 0 0, .slice none 0 0, .int .i64 0, .string ⟨#[]⟩, .slice none 0 0, .slice none 0 0] := by rw [hw1]; exact (At.new_at (by simp)).alloc _
  have a4 : At w1 (w.heap.size + 1 + 1 + 1 + 1 + 1) 25 #[.int .i64 1, .string ⟨#[]⟩, .slice none 0 0, .slice none 0 0, .int .i64 2, .string ⟨#[]⟩, .slice none 0 0, .slice none 0 0, .int .i64 3, .string ⟨#[]⟩, .slice none 0 0, .slice none 0 0, .int .i64 4, .string ⟨#[]⟩, .slice none 0 0, .slice none 0 0, .int .i64 5, .string ⟨#[]⟩, .slice none 0 0, .slice none 0 0, .int .i64 6, .string ⟨#[]⟩, .slice none 0 0, .slice (some ⟨w.heap.size + 1 + 1 + 1 + 1, 0, none⟩) 2 2] := by rw [hw1]; exact At.new_at (by simp)
  obtain ⟨ab, hab⟩ : ∃ ab, ab = w.heap.size + 1 + 1 := ⟨_, rfl⟩
  rw [← hab] at a2 ⊢
  rw [← hab] at a3 a4
  have ht1 : TyV w1 (fun g => X g ∨ g = ab ∨ g = w.heap.size + 1) ⟨0, nm, An, nn, cn, Ak, nk, ck⟩ t := h.keep kw1 (fun _ _ x => x.elim) (fun i hi hx => by rcases hx with hx | hx | hx; exact hx; all_goals omega)
  obtain ⟨rb, hrb⟩ : ∃ rb, rb = w.heap.size + 1 := ⟨_, rfl⟩
  rw [← hrb] at a1 ht1 ⊢
  have HXN : ∀ g, w.heap.size ≤ g → g ≠ ab → g ≠ rb → ¬ (X g ∨ g = ab ∨ g = rb) := fun g h1 h2 h3 hx => by
    rcases hx with hx | hx | hx
    · have := hX g hx; omega
    · exact h2 hx
    · exact h3 hx
  have hnk : 6 = (partsL t).length := by rw [HPL.out]; rfl
  have a5 : At w1 (ab + 1 + 1 + 1) 25 (tflat [⟨1, ⟨#[]⟩, none, 0, 0, none, 0, 0⟩, ⟨2, ⟨#[]⟩, none, 0, 0, none, 0, 0⟩, ⟨3, ⟨#[]⟩, none, 0, 0, none, 0, 0⟩, ⟨4, ⟨#[]⟩, none, 0, 0, none, 0, 0⟩, ⟨5, ⟨#[]⟩, none, 0, 0, none, 0, 0⟩, ⟨6, ⟨#[]⟩, none, 0, 0, some ⟨ab + 1 + 1, 0, none⟩, 2, 2⟩]).toArray := by simpa [tflat, Tv.vals] using a4
  have hrd := Rd.lits (X := fun g => X g ∨ g = ab ∨ g = rb) [⟨1, ⟨#[]⟩, none, 0, 0, none, 0, 0⟩, ⟨2, ⟨#[]⟩, none, 0, 0, none, 0, 0⟩, ⟨3, ⟨#[]⟩, none, 0, 0, none, 0, 0⟩, ⟨4, ⟨#[]⟩, none, 0, 0, none, 0, 0⟩, ⟨5, ⟨#[]⟩, none, 0, 0, none, 0, 0⟩, ⟨6, ⟨#[]⟩, none, 0, 0, some ⟨ab + 1 + 1, 0, none⟩, 2, 2⟩] a5 (HXN _ (by omega) (by omega) (by omega))
  have hv : TysV w1 (fun g => X g ∨ g = ab ∨ g = rb) [⟨1, ⟨#[]⟩, none, 0, 0, none, 0, 0⟩, ⟨2, ⟨#[]⟩, none, 0, 0, none, 0, 0⟩, ⟨3, ⟨#[]⟩, none, 0, 0, none, 0, 0⟩, ⟨4, ⟨#[]⟩, none, 0, 0, none, 0, 0⟩, ⟨5, ⟨#[]⟩, none, 0, 0, none, 0, 0⟩, ⟨6, ⟨#[]⟩, none, 0, 0, some ⟨ab + 1 + 1, 0, none⟩, 2, 2⟩] (partsL t) := by rw [HPL.out]; exact ⟨tv_base 1, tv_base 2, tv_base 3, tv_base 4, tv_base 5, tv_two 6 (q1 := tv0) (q2 := tv0) a3 (HXN _ (by omega) (by omega) (by omega)) (tv_base 0) (tv_base 0), trivial⟩
  have hrd : Rd w1 (fun g => X g ∨ g = ab ∨ g = rb) 4 (.slice (some ⟨ab + 1 + 1 + 1, 0, none⟩) 6 6) 6 (tflat [⟨1, ⟨#[]⟩, none, 0, 0, none, 0, 0⟩, ⟨2, ⟨#[]⟩, none, 0, 0, none, 0, 0⟩, ⟨3, ⟨#[]⟩, none, 0, 0, none, 0, 0⟩, ⟨4, ⟨#[]⟩, none, 0, 0, none, 0, 0⟩, ⟨5, ⟨#[]⟩, none, 0, 0, none, 0, 0⟩, ⟨6, ⟨#[]⟩, none, 0, 0, some ⟨ab + 1 + 1, 0, none⟩, 2, 2⟩]) := hrd
  obtain ⟨Al, hAl⟩ : ∃ Al : Option Addr, Al = some ⟨ab + 1 + 1 + 1, 0, none⟩ := ⟨_, rfl⟩
  rw [← hAl] at hrd ⊢
  clear hAl a3 a4 a5
  have HS := Lib.hid (And.intro hnk (And.intro hri (And.intro hrd hv)))
  have HT := Lib.hid ht1
  have HA := Lib.hid (And.intro a0 a1)
  have h0 : Hid (PtsR X w1 t (partsL t) ab rb 6 6 (.int .i64 0) w1) := ⟨0, _, rfl, Nat.zero_le _, rfl, a2, PtV.empty _ _ _, Keep.refl _ _⟩
  have HE := Lib.hid (And.intro kw1 (And.intro hrb hab))
  obtain ⟨bx, hbx⟩ : ∃ bx, bx = w.heap.size := ⟨_, rfl⟩
  rw [← hbx] at HE HA ⊢
  have HZ := Lib.hid hbx
  clear hn h hnk hrd hv hri hX HXN a0 a1 a2 hw1 kw1 ht1 hab hrb HPL hbx

  go_loopg [30] 6 (PtsR X w1 t (partsL t) ab rb 6)
  case atStart => exact h0.out
  case round =>
    clear h0
    obtain ⟨i, cs, rfl, hi, rfl, hat, hpv, hk⟩ := hrel
    by_cases hlt : i < 6
    · obtain ⟨kd, hkd⟩ : ∃ kd, (partsL t)[i]? = some kd := ⟨_, List.getElem?_eq_getElem (by have := HS.out.1; omega)⟩
      obtain ⟨⟨qk, qnm, qAn, qnn, qcn, qAk, qnk, qck⟩, hq, hqv⟩ := (HS.out.2.2.2.keep hk (fun _ _ x => .inr (.inl x)) (fun _ _ x => x)).at_ hkd
      obtain ⟨b, o, rfl, hbz, hXb, c0, c1, c2, c3⟩ := (HS.out.2.2.1.keep hk (fun _ x => .inr (.inl x))).tcells hlt hq
      simp only at c0 c1 c2 c3
      have hrs := HS.out.2.1.1 kd (List.mem_of_getElem? hkd)
      obtain ⟨n, hn⟩ : ∃ n : Nat, tagT kd = n := ⟨(tagT kd).toNat, by omega⟩
      have hn6 : n < 6 := by have := tagT_le kd; omega
      have hno : ∀ x ∈ (partsL t).take i, tagT x ≠ tagT kd := fun x hx e => by
        obtain ⟨j, hj⟩ := List.mem_iff_getElem?.1 hx
        rw [List.getElem?_take] at hj
        split at hj
        · rename_i hji
          have h1 := List.pairwise_iff_getElem.1 HS.out.2.1.2 j i (List.getElem?_eq_some_iff.1 hj).1 (List.getElem?_eq_some_iff.1 hkd).1 hji
          rw [(List.getElem?_eq_some_iff.1 hj).2, (List.getElem?_eq_some_iff.1 hkd).2] at h1
          omega
        · cases hj
      have kbx : Keep (fun _ => False) wr (wr.alloc (.cells #[.int .i64 qk, .string qnm, .slice qAn qnn qcn, .slice qAk qnk qck] 25)) := (Keep.refl _ wr).alloc _
      have abq : At (wr.alloc (.cells #[.int .i64 qk, .string qnm, .slice qAn qnn qcn, .slice qAk qnk qck] 25)) wr.heap.size 25 #[.int .i64 qk, .string qnm, .slice qAn qnn qcn, .slice qAk qnk qck] := At.new _ _ _
      have hc := tag_any (hqv.step kbx)
      rw [hn] at hc
      unfold Tv.val at hc
      simp only at hc
      have hax := hk.at_ HA.out.1 (by have := HE.out; omega)
      have hdy : ∀ w2, Keep (fun _ => False) (wr.alloc (.cells #[.int .i64 qk, .string qnm, .slice qAn qnn qcn, .slice qAk qnk qck] 25)) w2 → Calls Tryd.prog 47 #[.agg #[.int .i64 0, .string nm, .slice An nn cn, .slice Ak nk ck]] w2.drew fun e w' => e = .returned (.bool true) ∧ Keep (fun _ => False) w2.drew w' := fun w2 hk2 => by
        have h1 := dynamic_any (r := ⟨0, nm, An, nn, cn, Ak, nk, ck⟩) ((((HT.out.keep hk (fun _ _ x => .inr (.inl x)) (fun _ _ x => x)).step kbx).step hk2).step (Keep.refl _ w2).drew)
        rw [HD.out] at h1
        exact h1
      have hfin : ∀ w3, Keep (fun _ => False) wr w3 → At w3 ab 62 cs ∧ w3.cell? ⟨ab, n, none⟩ = some (.pointer none) ∧ w3.frozen? ⟨ab, n, none⟩ = false ∧ ab < w3.heap.size ∧ ∀ pv, pv = opn t n → ∃ cs', At ((w3.setCell ⟨ab, n, none⟩ (.pointer (some ⟨w3.heap.size, 0, none⟩))).alloc (.cells #[.int .i64 n, .bool pv, .int .i64 qk, .string qnm, .slice qAn qnn qcn, .slice qAk qnk qck] 65)) ab 62 cs' ∧ PtV ((w3.setCell ⟨ab, n, none⟩ (.pointer (some ⟨w3.heap.size, 0, none⟩))).alloc (.cells #[.int .i64 n, .bool pv, .int .i64 qk, .string qnm, .slice qAn qnn qcn, .slice qAk qnk qck] 65)) (fun g => X g ∨ g = ab ∨ g = rb) t ((partsL t).take (i + 1)) cs' ∧ Keep (fun g => g = ab) w1 ((w3.setCell ⟨ab, n, none⟩ (.pointer (some ⟨w3.heap.size, 0, none⟩))).alloc (.cells #[.int .i64 n, .bool pv, .int .i64 qk, .string qnm, .slice qAn qnn qcn, .slice qAk qnk qck] 65)) := fun w3 hk3 => by
        have ha3 := hk3.at_ hat (fun x => x)
        refine ⟨ha3, (ha3.cell n).trans (hpv.emp n hn6 (List.find?_eq_none.2 fun x hx => by simpa [hn] using hno x hx)), ha3.frozen n, ha3.lt, fun pv hpe => ?_⟩
        subst hpe
        have kst : Keep (fun g => g = ab) w3 ((w3.setCell ⟨ab, n, none⟩ (.pointer (some ⟨w3.heap.size, 0, none⟩))).alloc (.cells #[.int .i64 n, .bool (opn t n), .int .i64 qk, .string qnm, .slice qAn qnn qcn, .slice qAk qnk qck] 65)) := (Keep.setCell (X := fun g => g = ab) (p := ⟨ab, n, none⟩) (Keep.refl _ w3) (.inl rfl) _).alloc _
        have htk : (partsL t).take (i + 1) = (partsL t).take i ++ [kd] := by rw [List.take_add_one, hkd]; rfl
        rw [htk]
        refine ⟨_, (ha3.set n _).alloc _, ((hpv.step hk3).keep kst (fun _ x => .inr (.inl x)) (fun j c hj hc => by rw [hj] at hc; exact hc.ne ha3 (by decide) rfl)).snoc hn hn6 hno ⟨⟨qk, qnm, qAn, qnn, qcn, qAk, qnk, qck⟩, At.new_at (by simp [World.setCell]), (hqv.step hk3).keep kst (fun _ _ x => .inr (.inl x)) (fun _ _ x => x)⟩, (hk.trans hk3 (fun _ _ x => x.elim)).trans kst (fun _ _ x => x)⟩
      have HF := Lib.hid hfin
      have HDY := Lib.hid hdy
      have HK := Lib.hid (And.intro kbx (And.intro abq (And.intro hax hat)))
      have n0 : (0 : Int) ≤ (n : Int) := by omega
      have n1 : (n : Int) < 6 := by omega
      have hop : opn t n = (decide (n = 4)) := by unfold opn; rw [HD.out]; simp
      have HO := Lib.hid hop
      clear hfin hdy kbx abq hax hkd hq hqv hrs hn hno hat hpv hk hop
      by_cases h4 : n = 4
      · have d4 : ((n : Int) == 4) = true := by simp [h4]
        have HO := Lib.hid (show opn t n = true by rw [HO.out]; simpa using h4)
        clear h4
        go_wp2_with (go_at_call 69; refine hc.mono ?_; rintro e w2 ⟨rfl, hk2⟩; have hd := HDY.out w2 hk2; have ax := hk2.at_ (HK.out.1.at_ HK.out.2.2.1 (fun x => x)) (fun x => x); obtain ⟨xl, x0, x1, x2, x3⟩ := ax.tcells; have ay := hk2.at_ HK.out.2.1 (fun x => x); obtain ⟨yl, y0, y1, y2, y3⟩ := ay.tcells; have H2 := Lib.hid hk2; have HSX : Hid (∀ w', Keep (fun _ => False) w2 w' → (bx < w'.heap.size ∧ ab < w'.heap.size ∧ wr.heap.size < w'.heap.size) ∧ (w'.cell? ⟨bx, 0, none⟩ = some (.int .i64 0) ∧ w'.cell? ⟨bx, 1, none⟩ = some (.string nm) ∧ w'.cell? ⟨bx, 2, none⟩ = some (.slice An nn cn) ∧ w'.cell? ⟨bx, 3, none⟩ = some (.slice Ak nk ck)) ∧ w'.cell? ⟨wr.heap.size, 0, none⟩ = some (.int .i64 qk) ∧ w'.cell? ⟨wr.heap.size, 1, none⟩ = some (.string qnm) ∧ w'.cell? ⟨wr.heap.size, 2, none⟩ = some (.slice qAn qnn qcn) ∧ w'.cell? ⟨wr.heap.size, 3, none⟩ = some (.slice qAk qnk qck)) := fun w' hk => ⟨⟨(hk.at_ ax (fun x => x)).lt, Nat.lt_of_lt_of_le (hk2.at_ (HK.out.1.at_ HK.out.2.2.2 (fun x => x)) (fun x => x)).lt hk.size, (hk.at_ ay (fun x => x)).lt⟩, (hk.at_ ax (fun x => x)).tcells.2, (hk.at_ ay (fun x => x)).tcells.2⟩; clear xl x0 x1 x2 x3 yl y0 y1 y2 y3 hk2 ax ay hc)
        have n3 : decide ((n : Int) < 6) = true := by simpa using n1
        obtain ⟨⟨xl, _, yl⟩, ⟨x0, x1, x2, x3⟩, y0, y1, y2, y3⟩ := HSX.out _ (Keep.refl _ _)
        first
          | go_region_law (go_simp; go_at_call 47; refine hd.mono ?_; rintro e w3 ⟨rfl, hk3⟩; have k3 := (HK.out.1.trans H2.out (fun _ _ x => x)).drew.trans hk3 (fun _ _ x => x); obtain ⟨g1, g2, g3, g4, g5⟩ := HF.out w3 k3; have G5 := Lib.hid g5; clear xl x0 x1 x2 x3 yl y0 y1 y2 y3; obtain ⟨⟨xl, _, yl⟩, ⟨x0, x1, x2, x3⟩, y0, y1, y2, y3⟩ := HSX.out _ ((Keep.refl (fun _ => False) w2).drew.trans hk3 (fun _ _ x => x)); clear g1 g5 hk3 k3 hd)
          | fail
        all_goals (
          go_wp2_with fail
          go_roundg (6 - (i + 1))
          case measure => omega
          case rel =>
            obtain ⟨cs', h1, h2, h3⟩ := G5.out _ HO.out.symm
            exact ⟨i + 1, cs', by go_num, by omega, rfl, h1, h2, h3⟩)
      · have d4 : ((n : Int) == 4) = false := by rw [beq_eq_false_iff_ne]; omega
        have HO := Lib.hid (show opn t n = false by rw [HO.out]; simpa using h4)
        clear h4
        go_wp2_with (go_at_call 69; refine hc.mono ?_; rintro e w2 ⟨rfl, hk2⟩; have hd := HDY.out w2 hk2; have ax := hk2.at_ (HK.out.1.at_ HK.out.2.2.1 (fun x => x)) (fun x => x); obtain ⟨xl, x0, x1, x2, x3⟩ := ax.tcells; have ay := hk2.at_ HK.out.2.1 (fun x => x); obtain ⟨yl, y0, y1, y2, y3⟩ := ay.tcells; have H2 := Lib.hid hk2; have HSX : Hid (∀ w', Keep (fun _ => False) w2 w' → (bx < w'.heap.size ∧ ab < w'.heap.size ∧ wr.heap.size < w'.heap.size) ∧ (w'.cell? ⟨bx, 0, none⟩ = some (.int .i64 0) ∧ w'.cell? ⟨bx, 1, none⟩ = some (.string nm) ∧ w'.cell? ⟨bx, 2, none⟩ = some (.slice An nn cn) ∧ w'.cell? ⟨bx, 3, none⟩ = some (.slice Ak nk ck)) ∧ w'.cell? ⟨wr.heap.size, 0, none⟩ = some (.int .i64 qk) ∧ w'.cell? ⟨wr.heap.size, 1, none⟩ = some (.string qnm) ∧ w'.cell? ⟨wr.heap.size, 2, none⟩ = some (.slice qAn qnn qcn) ∧ w'.cell? ⟨wr.heap.size, 3, none⟩ = some (.slice qAk qnk qck)) := fun w' hk => ⟨⟨(hk.at_ ax (fun x => x)).lt, Nat.lt_of_lt_of_le (hk2.at_ (HK.out.1.at_ HK.out.2.2.2 (fun x => x)) (fun x => x)).lt hk.size, (hk.at_ ay (fun x => x)).lt⟩, (hk.at_ ax (fun x => x)).tcells.2, (hk.at_ ay (fun x => x)).tcells.2⟩; clear xl x0 x1 x2 x3 yl y0 y1 y2 y3 hk2 ax ay hc)
        have n3 : decide ((n : Int) < 6) = true := by simpa using n1
        obtain ⟨⟨xl, _, yl⟩, ⟨x0, x1, x2, x3⟩, y0, y1, y2, y3⟩ := HSX.out _ (Keep.refl _ _)
        first
          | go_region_law (go_simp; go_at_call 47; refine hd.mono ?_; rintro e w3 ⟨rfl, hk3⟩; have k3 := (HK.out.1.trans H2.out (fun _ _ x => x)).drew.trans hk3 (fun _ _ x => x); obtain ⟨g1, g2, g3, g4, g5⟩ := HF.out w3 k3; have G5 := Lib.hid g5; clear xl x0 x1 x2 x3 yl y0 y1 y2 y3; obtain ⟨⟨xl, _, yl⟩, ⟨x0, x1, x2, x3⟩, y0, y1, y2, y3⟩ := HSX.out _ ((Keep.refl (fun _ => False) w2).drew.trans hk3 (fun _ _ x => x)); clear g1 g5 hk3 k3 hd)
          | fail
        all_goals (
          go_wp2_with fail
          go_roundg (6 - (i + 1))
          case measure => omega
          case rel =>
            obtain ⟨cs', h1, h2, h3⟩ := G5.out _ HO.out.symm
            exact ⟨i + 1, cs', by go_num, by omega, rfl, h1, h2, h3⟩)
    · have hie : i = 6 := by omega
      subst hie
      rw [List.take_of_length_le (by have := HS.out.1; omega)] at hpv
      obtain ⟨p0, p1, p2, p3, p4, p5, rfl⟩ := hpv.ptrs
      have hrb := hk.at_ HA.out.2 (by have := HE.out; omega)
      obtain ⟨ra, a0, a1, a2, a3, a4, a5⟩ := hat.cells6
      obtain ⟨rl, r0, r1, r2, r3, r4, r5⟩ := hrb.cells6
      have f0 := hrb.frozen 0
      have f1 := hrb.frozen 1
      have f2 := hrb.frozen 2
      have f3 := hrb.frozen 3
      have f4 := hrb.frozen 4
      have f5 := hrb.frozen 5
      have HP := Lib.hid (And.intro hpv (And.intro hat (And.intro hk hrb)))
      clear hpv hat hk hrb
      go_wp2_with fail
      (try simp only [Exit.inBlock, Exit.then])
      have hq := ((((((HP.out.2.2.2.set 0 (.pointer p0)).set 1 (.pointer p1)).set 2 (.pointer p2)).set 3 (.pointer p3)).set 4 (.pointer p4)).set 5 (.pointer p5))
      refine bodyPost_ret (ret_cell6 rfl rfl hq) rfl ?_
      have k6 : Keep (fun g => g = rb) wr ((((((wr.setCell ⟨rb, 0, none⟩ (.pointer p0)).setCell ⟨rb, 1, none⟩ (.pointer p1)).setCell ⟨rb, 2, none⟩ (.pointer p2)).setCell ⟨rb, 3, none⟩ (.pointer p3)).setCell ⟨rb, 4, none⟩ (.pointer p4)).setCell ⟨rb, 5, none⟩ (.pointer p5)) := Keep.setCell (X := fun g => g = rb) (Keep.setCell (X := fun g => g = rb) (Keep.setCell (X := fun g => g = rb) (Keep.setCell (X := fun g => g = rb) (Keep.setCell (X := fun g => g = rb) (Keep.setCell (X := fun g => g = rb) (Keep.refl _ wr) (.inl rfl) _) (.inl rfl) _) (.inl rfl) _) (.inl rfl) _) (.inl rfl) _) (.inl rfl) _
      obtain ⟨e1, e2, e3⟩ := HE.out
      exact ⟨_, rfl, (HP.out.1.keep k6 (fun _ x => .inr (.inr x)) (fun j c hj hc => by rw [hj] at hc; exact hc.ne HP.out.2.2.2 (by decide) rfl)).weak (fun _ x => .inl x), (e1.weak HP.out.2.2.1 (fun g hg => by have := HZ.out; omega)).weak k6 (fun g hg => by have := HZ.out; omega)⟩
set_option maxRecDepth 100000 in
set_option maxHeartbeats 2000000 in
theorem parts_any7 {w : World} {X : Nat → Prop} {r : Tv} {t : Ty} (hX : ∀ i, X i → i < w.heap.size) (hn : NF t) (h : TyV w X r t) (h7 : t.kind = 7) :
    Calls Tryd.prog 48 #[r.val] w fun e w' => ∃ cs : Array Value, e = .returned (.agg cs) ∧ PtV w' X t (partsL t) cs ∧ Keep (fun _ => False) w w' := by
  obtain ⟨k, nm, An, nn, cn, Ak, nk, ck⟩ := r
  have hkk := h.knd
  simp only at hkk
  have hri := partsL_rise hn
  have HX := Lib.hid hX
  unfold Tv.val
  simp only
  skip
  have d0 : (k == 0) = false := by rw [beq_eq_false_iff_ne]; omega
  have d7 : (k == 7) = true := by rw [beq_iff_eq]; omega
  have hpl : partsL t = t.kids := by unfold partsL atoms; rw [if_neg (by omega), if_pos (by omega)]
  have HD := Lib.hid (show decide (t.kind = 0) = false by simpa using (by omega : ¬ t.kind = 0))
  have HPL := Lib.hid hpl
  clear hkk h7 hpl
  go_enter Tryd.func48, Tryd.ntmps48
  go_wp2_with fail
  refine gen_world ?_
  intro w1 hw1
  have kw1 : Keep (fun _ => False) w w1 := by rw [hw1]; repeat (first | exact Keep.refl _ w | refine Keep.alloc ?_ _)
  have a0 : At w1 w.heap.size 25 #[.int .i64 k, .string nm, .slice An nn cn, .slice Ak nk ck] := by rw [hw1]; exact (((At.new _ _ _).alloc _).alloc _).alloc _
  have a1 : At w1 (w.heap.size + 1) 62 #[.pointer none, .pointer none, .pointer none, .pointer none, .pointer none, .pointer none] := by rw [hw1]; exact ((At.new_at (by simp)).alloc _).alloc _
  have a2 : At w1 (w.heap.size + 1 + 1) 62 #[.pointer none, .pointer none, .pointer none, .pointer none, .pointer none, .pointer none] := by rw [hw1]; exact (At.new_at (by simp)).alloc _
  obtain ⟨ab, hab⟩ : ∃ ab, ab = w.heap.size + 1 + 1 := ⟨_, rfl⟩
  rw [← hab] at a2 ⊢
  have ht1 : TyV w1 (fun g => X g ∨ g = ab ∨ g = w.heap.size + 1) ⟨k, nm, An, nn, cn, Ak, nk, ck⟩ t := h.keep kw1 (fun _ _ x => x.elim) (fun i hi hx => by rcases hx with hx | hx | hx; exact hx; all_goals omega)
  obtain ⟨rb, hrb⟩ : ∃ rb, rb = w.heap.size + 1 := ⟨_, rfl⟩
  rw [← hrb] at a1 ht1 ⊢
  have HXN : ∀ g, w.heap.size ≤ g → g ≠ ab → g ≠ rb → ¬ (X g ∨ g = ab ∨ g = rb) := fun g h1 h2 h3 hx => by
    rcases hx with hx | hx | hx
    · have := hX g hx; omega
    · exact h2 hx
    · exact h3 hx
  obtain ⟨rs, hnk, hnkb, hrd, hv⟩ := ht1.kds
  simp only at hnk hnkb hrd
  rw [← HPL.out] at hnk hv
  have HS := Lib.hid (And.intro hnk (And.intro hri (And.intro hrd hv)))
  have HT := Lib.hid ht1
  have HA := Lib.hid (And.intro a0 a1)
  have h0 : Hid (PtsR X w1 t (partsL t) ab rb nk nk (.int .i64 0) w1) := ⟨0, _, rfl, Nat.zero_le _, rfl, a2, PtV.empty _ _ _, Keep.refl _ _⟩
  have HE := Lib.hid (And.intro kw1 (And.intro hrb hab))
  obtain ⟨bx, hbx⟩ : ∃ bx, bx = w.heap.size := ⟨_, rfl⟩
  rw [← hbx] at HE HA ⊢
  have HZ := Lib.hid hbx
  clear hn h hnk hrd hv hri hX HXN a0 a1 a2 hw1 kw1 ht1 hab hrb HPL hbx

  go_loopg [30] nk (PtsR X w1 t (partsL t) ab rb nk)
  case atStart => exact h0.out
  case round =>
    clear h0
    obtain ⟨i, cs, rfl, hi, rfl, hat, hpv, hk⟩ := hrel
    by_cases hlt : i < nk
    · obtain ⟨kd, hkd⟩ : ∃ kd, (partsL t)[i]? = some kd := ⟨_, List.getElem?_eq_getElem (by have := HS.out.1; omega)⟩
      obtain ⟨⟨qk, qnm, qAn, qnn, qcn, qAk, qnk, qck⟩, hq, hqv⟩ := (HS.out.2.2.2.keep hk (fun _ _ x => .inr (.inl x)) (fun _ _ x => x)).at_ hkd
      obtain ⟨b, o, rfl, hbz, hXb, c0, c1, c2, c3⟩ := (HS.out.2.2.1.keep hk (fun _ x => .inr (.inl x))).tcells hlt hq
      simp only at c0 c1 c2 c3
      have hrs := HS.out.2.1.1 kd (List.mem_of_getElem? hkd)
      obtain ⟨n, hn⟩ : ∃ n : Nat, tagT kd = n := ⟨(tagT kd).toNat, by omega⟩
      have hn6 : n < 6 := by have := tagT_le kd; omega
      have hno : ∀ x ∈ (partsL t).take i, tagT x ≠ tagT kd := fun x hx e => by
        obtain ⟨j, hj⟩ := List.mem_iff_getElem?.1 hx
        rw [List.getElem?_take] at hj
        split at hj
        · rename_i hji
          have h1 := List.pairwise_iff_getElem.1 HS.out.2.1.2 j i (List.getElem?_eq_some_iff.1 hj).1 (List.getElem?_eq_some_iff.1 hkd).1 hji
          rw [(List.getElem?_eq_some_iff.1 hj).2, (List.getElem?_eq_some_iff.1 hkd).2] at h1
          omega
        · cases hj
      have kbx : Keep (fun _ => False) wr (wr.alloc (.cells #[.int .i64 qk, .string qnm, .slice qAn qnn qcn, .slice qAk qnk qck] 25)) := (Keep.refl _ wr).alloc _
      have abq : At (wr.alloc (.cells #[.int .i64 qk, .string qnm, .slice qAn qnn qcn, .slice qAk qnk qck] 25)) wr.heap.size 25 #[.int .i64 qk, .string qnm, .slice qAn qnn qcn, .slice qAk qnk qck] := At.new _ _ _
      have hc := tag_any (hqv.step kbx)
      rw [hn] at hc
      unfold Tv.val at hc
      simp only at hc
      have hax := hk.at_ HA.out.1 (by have := HE.out; omega)
      have hdy : ∀ w2, Keep (fun _ => False) (wr.alloc (.cells #[.int .i64 qk, .string qnm, .slice qAn qnn qcn, .slice qAk qnk qck] 25)) w2 → Calls Tryd.prog 47 #[.agg #[.int .i64 k, .string nm, .slice An nn cn, .slice (some ⟨b, o, none⟩) nk ck]] w2.drew fun e w' => e = .returned (.bool false) ∧ Keep (fun _ => False) w2.drew w' := fun w2 hk2 => by
        have h1 := dynamic_any (r := ⟨k, nm, An, nn, cn, (some ⟨b, o, none⟩), nk, ck⟩) ((((HT.out.keep hk (fun _ _ x => .inr (.inl x)) (fun _ _ x => x)).step kbx).step hk2).step (Keep.refl _ w2).drew)
        rw [HD.out] at h1
        exact h1
      have hfin : ∀ w3, Keep (fun _ => False) wr w3 → At w3 ab 62 cs ∧ w3.cell? ⟨ab, n, none⟩ = some (.pointer none) ∧ w3.frozen? ⟨ab, n, none⟩ = false ∧ ab < w3.heap.size ∧ ∀ pv, pv = opn t n → ∃ cs', At ((w3.setCell ⟨ab, n, none⟩ (.pointer (some ⟨w3.heap.size, 0, none⟩))).alloc (.cells #[.int .i64 n, .bool pv, .int .i64 qk, .string qnm, .slice qAn qnn qcn, .slice qAk qnk qck] 65)) ab 62 cs' ∧ PtV ((w3.setCell ⟨ab, n, none⟩ (.pointer (some ⟨w3.heap.size, 0, none⟩))).alloc (.cells #[.int .i64 n, .bool pv, .int .i64 qk, .string qnm, .slice qAn qnn qcn, .slice qAk qnk qck] 65)) (fun g => X g ∨ g = ab ∨ g = rb) t ((partsL t).take (i + 1)) cs' ∧ Keep (fun g => g = ab) w1 ((w3.setCell ⟨ab, n, none⟩ (.pointer (some ⟨w3.heap.size, 0, none⟩))).alloc (.cells #[.int .i64 n, .bool pv, .int .i64 qk, .string qnm, .slice qAn qnn qcn, .slice qAk qnk qck] 65)) := fun w3 hk3 => by
        have ha3 := hk3.at_ hat (fun x => x)
        refine ⟨ha3, (ha3.cell n).trans (hpv.emp n hn6 (List.find?_eq_none.2 fun x hx => by simpa [hn] using hno x hx)), ha3.frozen n, ha3.lt, fun pv hpe => ?_⟩
        subst hpe
        have kst : Keep (fun g => g = ab) w3 ((w3.setCell ⟨ab, n, none⟩ (.pointer (some ⟨w3.heap.size, 0, none⟩))).alloc (.cells #[.int .i64 n, .bool (opn t n), .int .i64 qk, .string qnm, .slice qAn qnn qcn, .slice qAk qnk qck] 65)) := (Keep.setCell (X := fun g => g = ab) (p := ⟨ab, n, none⟩) (Keep.refl _ w3) (.inl rfl) _).alloc _
        have htk : (partsL t).take (i + 1) = (partsL t).take i ++ [kd] := by rw [List.take_add_one, hkd]; rfl
        rw [htk]
        refine ⟨_, (ha3.set n _).alloc _, ((hpv.step hk3).keep kst (fun _ x => .inr (.inl x)) (fun j c hj hc => by rw [hj] at hc; exact hc.ne ha3 (by decide) rfl)).snoc hn hn6 hno ⟨⟨qk, qnm, qAn, qnn, qcn, qAk, qnk, qck⟩, At.new_at (by simp [World.setCell]), (hqv.step hk3).keep kst (fun _ _ x => .inr (.inl x)) (fun _ _ x => x)⟩, (hk.trans hk3 (fun _ _ x => x.elim)).trans kst (fun _ _ x => x)⟩
      have HF := Lib.hid hfin
      have HDY := Lib.hid hdy
      have HK := Lib.hid (And.intro kbx (And.intro abq (And.intro hax hat)))
      have n0 : (0 : Int) ≤ (n : Int) := by omega
      have n1 : (n : Int) < 6 := by omega
      have hop : opn t n = (false) := by unfold opn; rw [HD.out]; simp
      have HO := Lib.hid hop
      clear hfin hdy kbx abq hax hkd hq hqv hrs hn hno hat hpv hk hop
      go_wp2_with (go_at_call 69; refine hc.mono ?_; rintro e w2 ⟨rfl, hk2⟩; have hd := HDY.out w2 hk2; have ax := hk2.at_ (HK.out.1.at_ HK.out.2.2.1 (fun x => x)) (fun x => x); obtain ⟨xl, x0, x1, x2, x3⟩ := ax.tcells; have ay := hk2.at_ HK.out.2.1 (fun x => x); obtain ⟨yl, y0, y1, y2, y3⟩ := ay.tcells; have H2 := Lib.hid hk2; have HSX : Hid (∀ w', Keep (fun _ => False) w2 w' → (bx < w'.heap.size ∧ ab < w'.heap.size ∧ wr.heap.size < w'.heap.size) ∧ (w'.cell? ⟨bx, 0, none⟩ = some (.int .i64 k) ∧ w'.cell? ⟨bx, 1, none⟩ = some (.string nm) ∧ w'.cell? ⟨bx, 2, none⟩ = some (.slice An nn cn) ∧ w'.cell? ⟨bx, 3, none⟩ = some (.slice (some ⟨b, o, none⟩) nk ck)) ∧ w'.cell? ⟨wr.heap.size, 0, none⟩ = some (.int .i64 qk) ∧ w'.cell? ⟨wr.heap.size, 1, none⟩ = some (.string qnm) ∧ w'.cell? ⟨wr.heap.size, 2, none⟩ = some (.slice qAn qnn qcn) ∧ w'.cell? ⟨wr.heap.size, 3, none⟩ = some (.slice qAk qnk qck)) := fun w' hk => ⟨⟨(hk.at_ ax (fun x => x)).lt, Nat.lt_of_lt_of_le (hk2.at_ (HK.out.1.at_ HK.out.2.2.2 (fun x => x)) (fun x => x)).lt hk.size, (hk.at_ ay (fun x => x)).lt⟩, (hk.at_ ax (fun x => x)).tcells.2, (hk.at_ ay (fun x => x)).tcells.2⟩; clear xl x0 x1 x2 x3 yl y0 y1 y2 y3 hk2 ax ay hc)
      have n3 : decide ((n : Int) < 6) = true := by simpa using n1
      obtain ⟨⟨xl, _, yl⟩, ⟨x0, x1, x2, x3⟩, y0, y1, y2, y3⟩ := HSX.out _ (Keep.refl _ _)
      first
        | go_region_law (go_simp; go_at_call 47; refine hd.mono ?_; rintro e w3 ⟨rfl, hk3⟩; have k3 := (HK.out.1.trans H2.out (fun _ _ x => x)).drew.trans hk3 (fun _ _ x => x); obtain ⟨g1, g2, g3, g4, g5⟩ := HF.out w3 k3; have G5 := Lib.hid g5; clear xl x0 x1 x2 x3 yl y0 y1 y2 y3; obtain ⟨⟨xl, _, yl⟩, ⟨x0, x1, x2, x3⟩, y0, y1, y2, y3⟩ := HSX.out _ ((Keep.refl (fun _ => False) w2).drew.trans hk3 (fun _ _ x => x)); clear g1 g5 hk3 k3 hd)
        | fail
      all_goals (
        go_wp2_with fail
        go_roundg (nk - (i + 1))
        case measure => omega
        case rel =>
          obtain ⟨cs', h1, h2, h3⟩ := G5.out _ HO.out.symm
          exact ⟨i + 1, cs', by go_num, by omega, rfl, h1, h2, h3⟩)
    · have hie : i = nk := by omega
      subst hie
      rw [List.take_of_length_le (by have := HS.out.1; omega)] at hpv
      obtain ⟨p0, p1, p2, p3, p4, p5, rfl⟩ := hpv.ptrs
      have hrb := hk.at_ HA.out.2 (by have := HE.out; omega)
      obtain ⟨ra, a0, a1, a2, a3, a4, a5⟩ := hat.cells6
      obtain ⟨rl, r0, r1, r2, r3, r4, r5⟩ := hrb.cells6
      have f0 := hrb.frozen 0
      have f1 := hrb.frozen 1
      have f2 := hrb.frozen 2
      have f3 := hrb.frozen 3
      have f4 := hrb.frozen 4
      have f5 := hrb.frozen 5
      have HP := Lib.hid (And.intro hpv (And.intro hat (And.intro hk hrb)))
      clear hpv hat hk hrb
      go_wp2_with fail
      (try simp only [Exit.inBlock, Exit.then])
      have hq := ((((((HP.out.2.2.2.set 0 (.pointer p0)).set 1 (.pointer p1)).set 2 (.pointer p2)).set 3 (.pointer p3)).set 4 (.pointer p4)).set 5 (.pointer p5))
      refine bodyPost_ret (ret_cell6 rfl rfl hq) rfl ?_
      have k6 : Keep (fun g => g = rb) wr ((((((wr.setCell ⟨rb, 0, none⟩ (.pointer p0)).setCell ⟨rb, 1, none⟩ (.pointer p1)).setCell ⟨rb, 2, none⟩ (.pointer p2)).setCell ⟨rb, 3, none⟩ (.pointer p3)).setCell ⟨rb, 4, none⟩ (.pointer p4)).setCell ⟨rb, 5, none⟩ (.pointer p5)) := Keep.setCell (X := fun g => g = rb) (Keep.setCell (X := fun g => g = rb) (Keep.setCell (X := fun g => g = rb) (Keep.setCell (X := fun g => g = rb) (Keep.setCell (X := fun g => g = rb) (Keep.setCell (X := fun g => g = rb) (Keep.refl _ wr) (.inl rfl) _) (.inl rfl) _) (.inl rfl) _) (.inl rfl) _) (.inl rfl) _) (.inl rfl) _
      obtain ⟨e1, e2, e3⟩ := HE.out
      exact ⟨_, rfl, (HP.out.1.keep k6 (fun _ x => .inr (.inr x)) (fun j c hj hc => by rw [hj] at hc; exact hc.ne HP.out.2.2.2 (by decide) rfl)).weak (fun _ x => .inl x), (e1.weak HP.out.2.2.1 (fun g hg => by have := HZ.out; omega)).weak k6 (fun g hg => by have := HZ.out; omega)⟩
set_option maxRecDepth 100000 in
set_option maxHeartbeats 2000000 in
theorem parts_any1 {w : World} {X : Nat → Prop} {r : Tv} {t : Ty} (hX : ∀ i, X i → i < w.heap.size) (hn : NF t) (h : TyV w X r t) (h0 : t.kind ≠ 0) (h7 : t.kind ≠ 7) :
    Calls Tryd.prog 48 #[r.val] w fun e w' => ∃ cs : Array Value, e = .returned (.agg cs) ∧ PtV w' X t (partsL t) cs ∧ Keep (fun _ => False) w w' := by
  obtain ⟨k, nm, An, nn, cn, Ak, nk, ck⟩ := r
  have hkk := h.knd
  simp only at hkk
  have hri := partsL_rise hn
  have HX := Lib.hid hX
  unfold Tv.val
  simp only
  skip
  have d0 : (k == 0) = false := by rw [beq_eq_false_iff_ne]; omega
  have d7 : (k == 7) = false := by rw [beq_eq_false_iff_ne]; omega
  have hpl : partsL t = [t] := by unfold partsL atoms; rw [if_neg (by omega), if_neg (by omega)]
  have HD := Lib.hid (show decide (t.kind = 0) = false by simpa using (by omega : ¬ t.kind = 0))
  have HPL := Lib.hid hpl
  clear hkk h0 h7 hpl
  go_enter Tryd.func48, Tryd.ntmps48
  go_wp2_with fail
  refine gen_world ?_
  intro w1 hw1
  have kw1 : Keep (fun _ => False) w w1 := by rw [hw1]; repeat (first | exact Keep.refl _ w | refine Keep.alloc ?_ _)
  have a0 : At w1 w.heap.size 25 #[.int .i64 k, .string nm, .slice An nn cn, .slice Ak nk ck] := by rw [hw1]; exact (((At.new _ _ _).alloc _).alloc _).alloc _
  have a1 : At w1 (w.heap.size + 1) 62 #[.pointer none, .pointer none, .pointer none, .pointer none, .pointer none, .pointer none] := by rw [hw1]; exact ((At.new_at (by simp)).alloc _).alloc _
  have a2 : At w1 (w.heap.size + 1 + 1) 62 #[.pointer none, .pointer none, .pointer none, .pointer none, .pointer none, .pointer none] := by rw [hw1]; exact (At.new_at (by simp)).alloc _
  have a3 : At w1 (w.heap.size + 1 + 1 + 1) 25 #[.int .i64 k, .string nm, .slice An nn cn, .slice Ak nk ck] := by rw [hw1]; exact At.new_at (by simp)
  obtain ⟨ab, hab⟩ : ∃ ab, ab = w.heap.size + 1 + 1 := ⟨_, rfl⟩
  rw [← hab] at a2 ⊢
  rw [← hab] at a3
  have ht1 : TyV w1 (fun g => X g ∨ g = ab ∨ g = w.heap.size + 1) ⟨k, nm, An, nn, cn, Ak, nk, ck⟩ t := h.keep kw1 (fun _ _ x => x.elim) (fun i hi hx => by rcases hx with hx | hx | hx; exact hx; all_goals omega)
  obtain ⟨rb, hrb⟩ : ∃ rb, rb = w.heap.size + 1 := ⟨_, rfl⟩
  rw [← hrb] at a1 ht1 ⊢
  have HXN : ∀ g, w.heap.size ≤ g → g ≠ ab → g ≠ rb → ¬ (X g ∨ g = ab ∨ g = rb) := fun g h1 h2 h3 hx => by
    rcases hx with hx | hx | hx
    · have := hX g hx; omega
    · exact h2 hx
    · exact h3 hx
  have hnk : 1 = (partsL t).length := by rw [HPL.out]; rfl
  have hrd := Rd.lit (X := fun g => X g ∨ g = ab ∨ g = rb) (n := 1) (size := 4) a3 (HXN _ (by omega) (by omega) (by omega)) rfl
  have hv : TysV w1 (fun g => X g ∨ g = ab ∨ g = rb) [⟨k, nm, An, nn, cn, Ak, nk, ck⟩] (partsL t) := by rw [HPL.out]; exact ⟨ht1, trivial⟩
  have hrd : Rd w1 (fun g => X g ∨ g = ab ∨ g = rb) 4 (.slice (some ⟨ab + 1, 0, none⟩) 1 1) 1 (tflat [⟨k, nm, An, nn, cn, Ak, nk, ck⟩]) := hrd
  obtain ⟨Al, hAl⟩ : ∃ Al : Option Addr, Al = some ⟨ab + 1, 0, none⟩ := ⟨_, rfl⟩
  rw [← hAl] at hrd ⊢
  clear hAl a3
  have HS := Lib.hid (And.intro hnk (And.intro hri (And.intro hrd hv)))
  have HT := Lib.hid ht1
  have HA := Lib.hid (And.intro a0 a1)
  have h0 : Hid (PtsR X w1 t (partsL t) ab rb 1 1 (.int .i64 0) w1) := ⟨0, _, rfl, Nat.zero_le _, rfl, a2, PtV.empty _ _ _, Keep.refl _ _⟩
  have HE := Lib.hid (And.intro kw1 (And.intro hrb hab))
  obtain ⟨bx, hbx⟩ : ∃ bx, bx = w.heap.size := ⟨_, rfl⟩
  rw [← hbx] at HE HA ⊢
  have HZ := Lib.hid hbx
  clear hn h hnk hrd hv hri hX HXN a0 a1 a2 hw1 kw1 ht1 hab hrb HPL hbx

  go_loopg [30] 1 (PtsR X w1 t (partsL t) ab rb 1)
  case atStart => exact h0.out
  case round =>
    clear h0
    obtain ⟨i, cs, rfl, hi, rfl, hat, hpv, hk⟩ := hrel
    by_cases hlt : i < 1
    · obtain ⟨kd, hkd⟩ : ∃ kd, (partsL t)[i]? = some kd := ⟨_, List.getElem?_eq_getElem (by have := HS.out.1; omega)⟩
      obtain ⟨⟨qk, qnm, qAn, qnn, qcn, qAk, qnk, qck⟩, hq, hqv⟩ := (HS.out.2.2.2.keep hk (fun _ _ x => .inr (.inl x)) (fun _ _ x => x)).at_ hkd
      obtain ⟨b, o, rfl, hbz, hXb, c0, c1, c2, c3⟩ := (HS.out.2.2.1.keep hk (fun _ x => .inr (.inl x))).tcells hlt hq
      simp only at c0 c1 c2 c3
      have hrs := HS.out.2.1.1 kd (List.mem_of_getElem? hkd)
      obtain ⟨n, hn⟩ : ∃ n : Nat, tagT kd = n := ⟨(tagT kd).toNat, by omega⟩
      have hn6 : n < 6 := by have := tagT_le kd; omega
      have hno : ∀ x ∈ (partsL t).take i, tagT x ≠ tagT kd := fun x hx e => by
        obtain ⟨j, hj⟩ := List.mem_iff_getElem?.1 hx
        rw [List.getElem?_take] at hj
        split at hj
        · rename_i hji
          have h1 := List.pairwise_iff_getElem.1 HS.out.2.1.2 j i (List.getElem?_eq_some_iff.1 hj).1 (List.getElem?_eq_some_iff.1 hkd).1 hji
          rw [(List.getElem?_eq_some_iff.1 hj).2, (List.getElem?_eq_some_iff.1 hkd).2] at h1
          omega
        · cases hj
      have kbx : Keep (fun _ => False) wr (wr.alloc (.cells #[.int .i64 qk, .string qnm, .slice qAn qnn qcn, .slice qAk qnk qck] 25)) := (Keep.refl _ wr).alloc _
      have abq : At (wr.alloc (.cells #[.int .i64 qk, .string qnm, .slice qAn qnn qcn, .slice qAk qnk qck] 25)) wr.heap.size 25 #[.int .i64 qk, .string qnm, .slice qAn qnn qcn, .slice qAk qnk qck] := At.new _ _ _
      have hc := tag_any (hqv.step kbx)
      rw [hn] at hc
      unfold Tv.val at hc
      simp only at hc
      have hax := hk.at_ HA.out.1 (by have := HE.out; omega)
      have hdy : ∀ w2, Keep (fun _ => False) (wr.alloc (.cells #[.int .i64 qk, .string qnm, .slice qAn qnn qcn, .slice qAk qnk qck] 25)) w2 → Calls Tryd.prog 47 #[.agg #[.int .i64 k, .string nm, .slice An nn cn, .slice Ak nk ck]] w2.drew fun e w' => e = .returned (.bool false) ∧ Keep (fun _ => False) w2.drew w' := fun w2 hk2 => by
        have h1 := dynamic_any (r := ⟨k, nm, An, nn, cn, Ak, nk, ck⟩) ((((HT.out.keep hk (fun _ _ x => .inr (.inl x)) (fun _ _ x => x)).step kbx).step hk2).step (Keep.refl _ w2).drew)
        rw [HD.out] at h1
        exact h1
      have hfin : ∀ w3, Keep (fun _ => False) wr w3 → At w3 ab 62 cs ∧ w3.cell? ⟨ab, n, none⟩ = some (.pointer none) ∧ w3.frozen? ⟨ab, n, none⟩ = false ∧ ab < w3.heap.size ∧ ∀ pv, pv = opn t n → ∃ cs', At ((w3.setCell ⟨ab, n, none⟩ (.pointer (some ⟨w3.heap.size, 0, none⟩))).alloc (.cells #[.int .i64 n, .bool pv, .int .i64 qk, .string qnm, .slice qAn qnn qcn, .slice qAk qnk qck] 65)) ab 62 cs' ∧ PtV ((w3.setCell ⟨ab, n, none⟩ (.pointer (some ⟨w3.heap.size, 0, none⟩))).alloc (.cells #[.int .i64 n, .bool pv, .int .i64 qk, .string qnm, .slice qAn qnn qcn, .slice qAk qnk qck] 65)) (fun g => X g ∨ g = ab ∨ g = rb) t ((partsL t).take (i + 1)) cs' ∧ Keep (fun g => g = ab) w1 ((w3.setCell ⟨ab, n, none⟩ (.pointer (some ⟨w3.heap.size, 0, none⟩))).alloc (.cells #[.int .i64 n, .bool pv, .int .i64 qk, .string qnm, .slice qAn qnn qcn, .slice qAk qnk qck] 65)) := fun w3 hk3 => by
        have ha3 := hk3.at_ hat (fun x => x)
        refine ⟨ha3, (ha3.cell n).trans (hpv.emp n hn6 (List.find?_eq_none.2 fun x hx => by simpa [hn] using hno x hx)), ha3.frozen n, ha3.lt, fun pv hpe => ?_⟩
        subst hpe
        have kst : Keep (fun g => g = ab) w3 ((w3.setCell ⟨ab, n, none⟩ (.pointer (some ⟨w3.heap.size, 0, none⟩))).alloc (.cells #[.int .i64 n, .bool (opn t n), .int .i64 qk, .string qnm, .slice qAn qnn qcn, .slice qAk qnk qck] 65)) := (Keep.setCell (X := fun g => g = ab) (p := ⟨ab, n, none⟩) (Keep.refl _ w3) (.inl rfl) _).alloc _
        have htk : (partsL t).take (i + 1) = (partsL t).take i ++ [kd] := by rw [List.take_add_one, hkd]; rfl
        rw [htk]
        refine ⟨_, (ha3.set n _).alloc _, ((hpv.step hk3).keep kst (fun _ x => .inr (.inl x)) (fun j c hj hc => by rw [hj] at hc; exact hc.ne ha3 (by decide) rfl)).snoc hn hn6 hno ⟨⟨qk, qnm, qAn, qnn, qcn, qAk, qnk, qck⟩, At.new_at (by simp [World.setCell]), (hqv.step hk3).keep kst (fun _ _ x => .inr (.inl x)) (fun _ _ x => x)⟩, (hk.trans hk3 (fun _ _ x => x.elim)).trans kst (fun _ _ x => x)⟩
      have HF := Lib.hid hfin
      have HDY := Lib.hid hdy
      have HK := Lib.hid (And.intro kbx (And.intro abq (And.intro hax hat)))
      have n0 : (0 : Int) ≤ (n : Int) := by omega
      have n1 : (n : Int) < 6 := by omega
      have hop : opn t n = (false) := by unfold opn; rw [HD.out]; simp
      have HO := Lib.hid hop
      clear hfin hdy kbx abq hax hkd hq hqv hrs hn hno hat hpv hk hop
      go_wp2_with (go_at_call 69; refine hc.mono ?_; rintro e w2 ⟨rfl, hk2⟩; have hd := HDY.out w2 hk2; have ax := hk2.at_ (HK.out.1.at_ HK.out.2.2.1 (fun x => x)) (fun x => x); obtain ⟨xl, x0, x1, x2, x3⟩ := ax.tcells; have ay := hk2.at_ HK.out.2.1 (fun x => x); obtain ⟨yl, y0, y1, y2, y3⟩ := ay.tcells; have H2 := Lib.hid hk2; have HSX : Hid (∀ w', Keep (fun _ => False) w2 w' → (bx < w'.heap.size ∧ ab < w'.heap.size ∧ wr.heap.size < w'.heap.size) ∧ (w'.cell? ⟨bx, 0, none⟩ = some (.int .i64 k) ∧ w'.cell? ⟨bx, 1, none⟩ = some (.string nm) ∧ w'.cell? ⟨bx, 2, none⟩ = some (.slice An nn cn) ∧ w'.cell? ⟨bx, 3, none⟩ = some (.slice Ak nk ck)) ∧ w'.cell? ⟨wr.heap.size, 0, none⟩ = some (.int .i64 qk) ∧ w'.cell? ⟨wr.heap.size, 1, none⟩ = some (.string qnm) ∧ w'.cell? ⟨wr.heap.size, 2, none⟩ = some (.slice qAn qnn qcn) ∧ w'.cell? ⟨wr.heap.size, 3, none⟩ = some (.slice qAk qnk qck)) := fun w' hk => ⟨⟨(hk.at_ ax (fun x => x)).lt, Nat.lt_of_lt_of_le (hk2.at_ (HK.out.1.at_ HK.out.2.2.2 (fun x => x)) (fun x => x)).lt hk.size, (hk.at_ ay (fun x => x)).lt⟩, (hk.at_ ax (fun x => x)).tcells.2, (hk.at_ ay (fun x => x)).tcells.2⟩; clear xl x0 x1 x2 x3 yl y0 y1 y2 y3 hk2 ax ay hc)
      have n3 : decide ((n : Int) < 6) = true := by simpa using n1
      obtain ⟨⟨xl, _, yl⟩, ⟨x0, x1, x2, x3⟩, y0, y1, y2, y3⟩ := HSX.out _ (Keep.refl _ _)
      first
        | go_region_law (go_simp; go_at_call 47; refine hd.mono ?_; rintro e w3 ⟨rfl, hk3⟩; have k3 := (HK.out.1.trans H2.out (fun _ _ x => x)).drew.trans hk3 (fun _ _ x => x); obtain ⟨g1, g2, g3, g4, g5⟩ := HF.out w3 k3; have G5 := Lib.hid g5; clear xl x0 x1 x2 x3 yl y0 y1 y2 y3; obtain ⟨⟨xl, _, yl⟩, ⟨x0, x1, x2, x3⟩, y0, y1, y2, y3⟩ := HSX.out _ ((Keep.refl (fun _ => False) w2).drew.trans hk3 (fun _ _ x => x)); clear g1 g5 hk3 k3 hd)
        | fail
      all_goals (
        go_wp2_with fail
        go_roundg (1 - (i + 1))
        case measure => omega
        case rel =>
          obtain ⟨cs', h1, h2, h3⟩ := G5.out _ HO.out.symm
          exact ⟨i + 1, cs', by go_num, by omega, rfl, h1, h2, h3⟩)
    · have hie : i = 1 := by omega
      subst hie
      rw [List.take_of_length_le (by have := HS.out.1; omega)] at hpv
      obtain ⟨p0, p1, p2, p3, p4, p5, rfl⟩ := hpv.ptrs
      have hrb := hk.at_ HA.out.2 (by have := HE.out; omega)
      obtain ⟨ra, a0, a1, a2, a3, a4, a5⟩ := hat.cells6
      obtain ⟨rl, r0, r1, r2, r3, r4, r5⟩ := hrb.cells6
      have f0 := hrb.frozen 0
      have f1 := hrb.frozen 1
      have f2 := hrb.frozen 2
      have f3 := hrb.frozen 3
      have f4 := hrb.frozen 4
      have f5 := hrb.frozen 5
      have HP := Lib.hid (And.intro hpv (And.intro hat (And.intro hk hrb)))
      clear hpv hat hk hrb
      go_wp2_with fail
      (try simp only [Exit.inBlock, Exit.then])
      have hq := ((((((HP.out.2.2.2.set 0 (.pointer p0)).set 1 (.pointer p1)).set 2 (.pointer p2)).set 3 (.pointer p3)).set 4 (.pointer p4)).set 5 (.pointer p5))
      refine bodyPost_ret (ret_cell6 rfl rfl hq) rfl ?_
      have k6 : Keep (fun g => g = rb) wr ((((((wr.setCell ⟨rb, 0, none⟩ (.pointer p0)).setCell ⟨rb, 1, none⟩ (.pointer p1)).setCell ⟨rb, 2, none⟩ (.pointer p2)).setCell ⟨rb, 3, none⟩ (.pointer p3)).setCell ⟨rb, 4, none⟩ (.pointer p4)).setCell ⟨rb, 5, none⟩ (.pointer p5)) := Keep.setCell (X := fun g => g = rb) (Keep.setCell (X := fun g => g = rb) (Keep.setCell (X := fun g => g = rb) (Keep.setCell (X := fun g => g = rb) (Keep.setCell (X := fun g => g = rb) (Keep.setCell (X := fun g => g = rb) (Keep.refl _ wr) (.inl rfl) _) (.inl rfl) _) (.inl rfl) _) (.inl rfl) _) (.inl rfl) _) (.inl rfl) _
      obtain ⟨e1, e2, e3⟩ := HE.out
      exact ⟨_, rfl, (HP.out.1.keep k6 (fun _ x => .inr (.inr x)) (fun j c hj hc => by rw [hj] at hc; exact hc.ne HP.out.2.2.2 (by decide) rfl)).weak (fun _ x => .inl x), (e1.weak HP.out.2.2.1 (fun g hg => by have := HZ.out; omega)).weak k6 (fun g hg => by have := HZ.out; omega)⟩
theorem parts_any {w : World} {X : Nat → Prop} {r : Tv} {t : Ty} (hX : ∀ i, X i → i < w.heap.size) (hn : NF t) (h : TyV w X r t) :
    Calls Tryd.prog 48 #[r.val] w fun e w' => ∃ cs : Array Value, e = .returned (.agg cs) ∧ PtV w' X t (partsL t) cs ∧ Keep (fun _ => False) w w' := by
  by_cases h0 : t.kind = 0
  · exact parts_any0 hX hn h h0
  · by_cases h7 : t.kind = 7
    · exact parts_any7 hX hn h h7
    · exact parts_any1 hX hn h h0 h7
end Go.Proofs.YtbanpohholnkaaaDoor
