/-
  A map whose keys are strings, as a list of pairs. Conditions: plain laws of whatever program.
-/
import Derived.Test.YtbanpohholnkaaaDoorTy
import Derived.Test.YtbanpohholnkaaaDoorWSame
import Derived.MapKept
import Derived.Maps.Own
import Derived.WideMake
namespace Go.Proofs.YtbanpohholnkaaaDoor
open Go.RowKit

/-- Block b is a map that holds just these pairs. -/
def MapS (w : World) (b : Nat) (l : List (ByteArray × Value)) : Prop :=
  ∃ (es : Array MapEntry) (clock : Nat), w.heap[b]? = some (.map es clock) ∧ es.toList.map (fun e => (e.key, e.val)) = l.map fun p => (Value.string p.1, p.2)
theorem MapS.lt {w : World} {b : Nat} {l : List (ByteArray × Value)} (h : MapS w b l) : b < w.heap.size := by
  obtain ⟨es, c, h1, _⟩ := h
  exact (Array.getElem?_eq_some_iff.1 h1).1
theorem MapS.keep {w w' : World} {Y : Nat → Prop} {b : Nat} {l : List (ByteArray × Value)} (h : MapS w b l) (k : Keep Y w w') (hb : ¬ Y b) : MapS w' b l := by
  have hl := h.lt
  obtain ⟨es, c, h1, h2⟩ := h
  exact ⟨es, c, (k.block b hl hb).trans h1, h2⟩
theorem MapS.step {w w' : World} {b : Nat} {l : List (ByteArray × Value)} (h : MapS w b l) (k : Keep (fun _ => False) w w') : MapS w' b l := h.keep k (fun x => x)
theorem MapS.made (w : World) : MapS (w.alloc (.map #[] 0)) w.heap.size [] := ⟨#[], 0, heap_alloc_new w _, rfl⟩
theorem sameNow_str (a b : ByteArray) : Instr.sameNow .string (.string a) (.string b) = some (decide (b = a)) := by
  have e : Instr.sameNow .string (.string a) (.string b) = some (a == b) := rfl
  rw [e]
  congr 1
  rw [Bool.eq_iff_iff, Go.MapKept.bytes_beq, decide_eq_true_eq, eq_comm]
theorem findNow_str (s : ByteArray) : ∀ (es : List MapEntry) (l : List (ByteArray × Value)) (i : Nat), es.map (fun e => (e.key, e.val)) = (l.map fun p => (Value.string p.1, p.2)) →
    ∃ a, Instr.findNow .string (.string s) es i = some a ∧ a.map (·.2) = (l.find? fun p => decide (p.1 = s)).map (·.2)
  | [], [], i, _ => ⟨none, rfl, rfl⟩
  | [], _ :: _, _, h => by simp at h
  | _ :: _, [], _, h => by simp at h
  | e :: es, p :: l, i, h => by
    simp only [List.map_cons, List.cons.injEq, Prod.mk.injEq] at h
    obtain ⟨⟨h1, h2⟩, h3⟩ := h
    obtain ⟨a, ha, hl⟩ := findNow_str s es l (i + 1) h3
    unfold Instr.findNow
    rw [h1, sameNow_str]
    by_cases hp : p.1 = s
    · simp only [hp, decide_true]
      exact ⟨_, rfl, by simp [hp, h2]⟩
    · simp only [hp, decide_false]
      exact ⟨a, ha, by simp [hp, hl]⟩
section
variable {P : Program} {t k e : TypeId} {w : World} {b : Nat} {l : List (ByteArray × Value)}
theorem run_lookS (h : MapS w b l) (ht : P.underlying t = some (.map k e)) (hk : P.underlying k = some .string) {z : Value} (hz : (zeroValue e).run P w = .ok z w) (s : ByteArray) :
    (Instr.lookup t (.map (some b)) (.string s) true).run P w = .ok (.tuple #[(((l.find? fun p => decide (p.1 = s)).map (·.2)).getD z), .bool (l.find? fun p => decide (p.1 = s)).isSome]) w := by
  obtain ⟨es, c, h1, h2⟩ := h
  obtain ⟨a, ha, hl⟩ := findNow_str s es.toList l 0 h2
  have hg := Go.MapKept.run_getObj_map (P := P) h1
  have hf := Go.MapKept.run_findKey (P := P) (w := w) hk ha
  have hc := fun (q : Bool) => Go.MapKept.run_checkKey (P := P) (w := w) (k := .string s) hk trivial q 9999
  cases a with
  | none =>
    have hn : (l.find? fun p => decide (p.1 = s)) = none := by
      cases hx : (l.find? fun p => decide (p.1 = s)) with
      | none => rfl
      | some p => rw [hx] at hl; cases hl
    rw [hn]
    simp [Instr.lookup, run_underlying ht, hg, hc, hf, hz]
  | some x =>
    obtain ⟨p, hp⟩ : ∃ p, (l.find? fun p => decide (p.1 = s)) = some p := by
      cases hx : (l.find? fun p => decide (p.1 = s)) with
      | none => rw [hx] at hl; cases hl
      | some p => exact ⟨p, rfl⟩
    rw [hp] at hl ⊢
    simp only [Option.map_some, Option.some.injEq] at hl
    simp [Instr.lookup, run_underlying ht, hg, hc, hf, hl]
/-- A key that is not there yet. -/
theorem run_putS (h : MapS w b l) (ht : P.underlying t = some (.map k e)) (hk : P.underlying k = some .string) {s : ByteArray} (hn : (l.find? fun p => decide (p.1 = s)) = none) (v : Value) :
    ∃ w', (Instr.mapUpdate t (.map (some b)) (.string s) v).run P w = .ok () w' ∧ MapS w' b (l ++ [(s, v)]) ∧ Keep (fun g => g = b) w w' := by
  have hlt := h.lt
  obtain ⟨es, c, h1, h2⟩ := h
  obtain ⟨a, ha, hl⟩ := findNow_str s es.toList l 0 h2
  rw [hn] at hl
  have ha0 : a = none := by cases a with | none => rfl | some x => cases hl
  subst ha0
  have hg := Go.MapKept.run_getObj_map (P := P) h1
  have hf := Go.MapKept.run_findKey (P := P) (w := w) hk ha
  have hc := fun (q : Bool) => Go.MapKept.run_checkKey (P := P) (w := w) (k := .string s) hk trivial q 9999
  refine ⟨{ w with heap := w.heap.setIfInBounds b (.map (es.push { key := .string s, val := v, born := c }) (c + 1)) }, ?_, ⟨es.push { key := .string s, val := v, born := c }, c + 1, by simp [hlt], ?_⟩, ⟨rfl, rfl, rfl, by simp, fun i hi hb => by simp [Ne.symm hb]⟩⟩
  · simp [Instr.mapUpdate, run_underlying ht, hg, hc, hf, Go.MapKept.run_setObj_map _ h1]
  · simp [h2]
theorem wpList_putS {ops : Array Oper} {rest : List Oper} {o : Oper} {a : Act} {Q : Exit → Act → World → Prop}
    (hg : o.guard = none) (m x v : Operand) (hop : o.op = Op.mapUpdate t m x v) (ht : P.underlying t = some (.map k e)) (hk : P.underlying k = some .string)
    (hm : a.eval m = .map (some b)) (s : ByteArray) (vv : Value) (hx : a.eval x = .string s) (hv : a.eval v = vv) (h : MapS w b l) (hn : (l.find? fun p => decide (p.1 = s)) = none)
    (hK : ∀ w', MapS w' b (l ++ [(s, vv)]) → Keep (fun g => g = b) w w' → wpList P ops Q rest (a.put o.dst undef) w') :
    wpList P ops Q (o :: rest) a w := by
  refine wpList_plain hg fun K' hK' => ?_
  obtain ⟨w', hrun, r1, r2⟩ := run_putS h ht hk hn vv
  unfold Oper.wp
  simp [execOp, hop, hm, hx, hv, hrun, Result.andThen]
  exact hK' _ _ (hK w' r1 r2)
end
end Go.Proofs.YtbanpohholnkaaaDoor
