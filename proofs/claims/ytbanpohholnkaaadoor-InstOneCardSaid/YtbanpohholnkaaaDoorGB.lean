/-
  Walk: gradusref08.Resolve. Conditions: none.
-/
import Derived.Test.YtbanpohholnkaaaDoorNormT
import Derived.Test.YtbanpohholnkaaaDoorTy
import Derived.Test.YtbanpohholnkaaaDoorWSame
import Derived.MapKept
import Derived.Maps.Own
import Derived.WideMake
import Derived.Test.YtbanpohholnkaaaDoorNormB
import Derived.Test.YtbanpohholnkaaaDoorWords
import Derived.Laws.Cover3
import Derived.Test.YtbanpohholnkaaaDoorWUnion
import Derived.Test.YtbanpohholnkaaaDoorWNormF
import Derived.Test.YtbanpohholnkaaaDoorGA
namespace Go.Proofs.YtbanpohholnkaaaDoor

mutual
/-- A type with what f says in the place of its variables. -/
def replT (f : ByteArray → Option Ty) : Ty → Option Ty
  | .mk k nm ns ks => if k = 8 then (if ns.length + ks.length = 0 then f nm else none) else (replL f ks).map fun l => .mk k nm ns l
def replL (f : ByteArray → Option Ty) : List Ty → Option (List Ty)
  | [] => some []
  | t :: ts => (replT f t).bind fun u => (replL f ts).map fun l => u :: l
end
theorem replT_eq (f : ByteArray → Option Ty) (t : Ty) : replT f t = if t.kind = 8 then (if t.names.length + t.kids.length = 0 then f t.name else none) else (replL f t.kids).map fun l => .mk t.kind t.name t.names l := by
  cases t with
  | mk k nm ns ks =>
    rw [replT]
    rfl
theorem replL_append (f : ByteArray → Option Ty) (a b : List Ty) : replL f (a ++ b) = (replL f a).bind fun l => (replL f b).map fun m => l ++ m := by
  induction a with
  | nil => simp [replL]
  | cons t a ih =>
    simp only [List.cons_append, replL, ih]
    cases replT f t with
    | none => rfl
    | some u =>
      cases replL f a with
      | none => rfl
      | some l => cases replL f b <;> rfl
theorem replL_snoc (f : ByteArray → Option Ty) (a : List Ty) (t : Ty) : replL f (a ++ [t]) = (replL f a).bind fun l => (replT f t).map fun u => l ++ [u] := by
  rw [replL_append]
  simp only [replL, Option.map_some]
  cases replL f a with
  | none => rfl
  | some l => cases replT f t <;> rfl
theorem replL_none {f : ByteArray → Option Ty} {l : List Ty} {i : Nat} {t : Ty} (h : l[i]? = some t) (hn : replT f t = none) : replL f l = none := by
  induction l generalizing i with
  | nil => simp at h
  | cons x l ih =>
    cases i with
    | zero =>
      simp only [List.getElem?_cons_zero, Option.some.injEq] at h
      subst h
      simp only [replL, hn]
      rfl
    | succ i =>
      simp only [List.getElem?_cons_succ] at h
      simp only [replL, ih h]
      cases replT f x <;> rfl
theorem replL_length {f : ByteArray → Option Ty} {l m : List Ty} (h : replL f l = some m) : m.length = l.length := by
  induction l generalizing m with
  | nil =>
    simp only [replL, Option.some.injEq] at h
    subst h
    rfl
  | cons x l ih =>
    simp only [replL] at h
    cases hx : replT f x with
    | none => rw [hx] at h; cases h
    | some u =>
      rw [hx] at h
      cases hl : replL f l with
      | none => rw [hl] at h; cases h
      | some r =>
        rw [hl] at h
        simp only [Option.bind_some, Option.map_some, Option.some.injEq] at h
        subst h
        simp [ih hl]
theorem replL_take {f : ByteArray → Option Ty} {l m : List Ty} {i : Nat} {t u : Ty} (h : replL f (l.take i) = some m) (ht : l[i]? = some t) (hu : replT f t = some u) : replL f (l.take (i + 1)) = some (m ++ [u]) := by
  rw [List.take_add_one, ht]
  simp only [Option.toList_some]
  rw [replL_snoc, h, hu]
  rfl
/-- What stands for a variable. -/
def lookT (vs : List ByteArray) (ws : List Ty) (s : ByteArray) : Option Ty := ((vs.zip ws).find? fun p => decide (p.1 = s)).map (·.2)
/-- A written type with types in the place of its variables: the type, and the error. -/
noncomputable def resolveT (vs : List ByteArray) (ws : List Ty) (t : Ty) : Option Ty × Int :=
  if vs.length ≠ ws.length then (none, 1)
  else if 200 < t.size ∨ 16 < t.ht then (none, 9)
  else match replT (lookT vs ws) t with
    | none => (none, 9)
    | some r => match NormT r with
      | none => (none, 9)
      | some n => (some n, 0)
end Go.Proofs.YtbanpohholnkaaaDoor

namespace Go.Proofs.YtbanpohholnkaaaDoor
open Go.RowKit

/-- Block b is a map that holds just these pairs. -/
def MapS (w : World) (b : Nat) (l : List (ByteArray × Value)) : Prop :=
  ∃ (es : Array MapEntry) (clock : Nat), w.heap[b]? = some (.map es clock) ∧ es.toList.map (fun e => (e.key, e.val)) = l.map fun p => (Value.string p.1, p.2)
theorem MapS.lt {w : World} {b : Nat} {l : List (ByteArray × Value)} (h : MapS w b l) : b < w.heap.size := by
  obtain ⟨es, c, h1, _⟩ := h
  exact (Array.getElem?_eq_some_iff.1 h1).1
theorem MapS.keep {w w' : World} {Y : Nat → Prop} {b : Nat} {l : List (ByteArray × Value)} (h : MapS w b l) (k : Keep Y w w') (hb : ¬ Y b) : MapS w' b l := by
  have hl := h.lt
  obtain ⟨es, c, h1, h2⟩ := h
  exact ⟨es, c, (k.block b hl hb).trans h1, h2⟩
theorem MapS.step {w w' : World} {b : Nat} {l : List (ByteArray × Value)} (h : MapS w b l) (k : Keep (fun _ => False) w w') : MapS w' b l := h.keep k (fun x => x)
theorem MapS.made (w : World) : MapS (w.alloc (.map #[] 0)) w.heap.size [] := ⟨#[], 0, heap_alloc_new w _, rfl⟩
theorem sameNow_str (a b : ByteArray) : Instr.sameNow .string (.string a) (.string b) = some (decide (b = a)) := by
  have e : Instr.sameNow .string (.string a) (.string b) = some (a == b) := rfl
  rw [e]
  congr 1
  rw [Bool.eq_iff_iff, Go.MapKept.bytes_beq, decide_eq_true_eq, eq_comm]
theorem findNow_str (s : ByteArray) : ∀ (es : List MapEntry) (l : List (ByteArray × Value)) (i : Nat), es.map (fun e => (e.key, e.val)) = (l.map fun p => (Value.string p.1, p.2)) →
    ∃ a, Instr.findNow .string (.string s) es i = some a ∧ a.map (·.2) = (l.find? fun p => decide (p.1 = s)).map (·.2)
  | [], [], i, _ => ⟨none, rfl, rfl⟩
  | [], _ :: _, _, h => by simp at h
  | _ :: _, [], _, h => by simp at h
  | e :: es, p :: l, i, h => by
    simp only [List.map_cons, List.cons.injEq, Prod.mk.injEq] at h
    obtain ⟨⟨h1, h2⟩, h3⟩ := h
    obtain ⟨a, ha, hl⟩ := findNow_str s es l (i + 1) h3
    unfold Instr.findNow
    rw [h1, sameNow_str]
    by_cases hp : p.1 = s
    · simp only [hp, decide_true]
      exact ⟨_, rfl, by simp [hp, h2]⟩
    · simp only [hp, decide_false]
      exact ⟨a, ha, by simp [hp, hl]⟩
section
variable {P : Program} {t k e : TypeId} {w : World} {b : Nat} {l : List (ByteArray × Value)}
theorem run_lookS (h : MapS w b l) (ht : P.underlying t = some (.map k e)) (hk : P.underlying k = some .string) {z : Value} (hz : (zeroValue e).run P w = .ok z w) (s : ByteArray) :
    (Instr.lookup t (.map (some b)) (.string s) true).run P w = .ok (.tuple #[(((l.find? fun p => decide (p.1 = s)).map (·.2)).getD z), .bool (l.find? fun p => decide (p.1 = s)).isSome]) w := by
  obtain ⟨es, c, h1, h2⟩ := h
  obtain ⟨a, ha, hl⟩ := findNow_str s es.toList l 0 h2
  have hg := Go.MapKept.run_getObj_map (P := P) h1
  have hf := Go.MapKept.run_findKey (P := P) (w := w) hk ha
  have hc := fun (q : Bool) => Go.MapKept.run_checkKey (P := P) (w := w) (k := .string s) hk trivial q 9999
  cases a with
  | none =>
    have hn : (l.find? fun p => decide (p.1 = s)) = none := by
      cases hx : (l.find? fun p => decide (p.1 = s)) with
      | none => rfl
      | some p => rw [hx] at hl; cases hl
    rw [hn]
    simp [Instr.lookup, run_underlying ht, hg, hc, hf, hz]
  | some x =>
    obtain ⟨p, hp⟩ : ∃ p, (l.find? fun p => decide (p.1 = s)) = some p := by
      cases hx : (l.find? fun p => decide (p.1 = s)) with
      | none => rw [hx] at hl; cases hl
      | some p => exact ⟨p, rfl⟩
    rw [hp] at hl ⊢
    simp only [Option.map_some, Option.some.injEq] at hl
    simp [Instr.lookup, run_underlying ht, hg, hc, hf, hl]
/-- A key that is not there yet. -/
theorem run_putS (h : MapS w b l) (ht : P.underlying t = some (.map k e)) (hk : P.underlying k = some .string) {s : ByteArray} (hn : (l.find? fun p => decide (p.1 = s)) = none) (v : Value) :
    ∃ w', (Instr.mapUpdate t (.map (some b)) (.string s) v).run P w = .ok () w' ∧ MapS w' b (l ++ [(s, v)]) ∧ Keep (fun g => g = b) w w' := by
  have hlt := h.lt
  obtain ⟨es, c, h1, h2⟩ := h
  obtain ⟨a, ha, hl⟩ := findNow_str s es.toList l 0 h2
  rw [hn] at hl
  have ha0 : a = none := by cases a with | none => rfl | some x => cases hl
  subst ha0
  have hg := Go.MapKept.run_getObj_map (P := P) h1
  have hf := Go.MapKept.run_findKey (P := P) (w := w) hk ha
  have hc := fun (q : Bool) => Go.MapKept.run_checkKey (P := P) (w := w) (k := .string s) hk trivial q 9999
  refine ⟨{ w with heap := w.heap.setIfInBounds b (.map (es.push { key := .string s, val := v, born := c }) (c + 1)) }, ?_, ⟨es.push { key := .string s, val := v, born := c }, c + 1, by simp [hlt], ?_⟩, ⟨rfl, rfl, rfl, by simp, fun i hi hb => by simp [Ne.symm hb]⟩⟩
  · simp [Instr.mapUpdate, run_underlying ht, hg, hc, hf, Go.MapKept.run_setObj_map _ h1]
  · simp [h2]
theorem wpList_putS {ops : Array Oper} {rest : List Oper} {o : Oper} {a : Act} {Q : Exit → Act → World → Prop}
    (hg : o.guard = none) (m x v : Operand) (hop : o.op = Op.mapUpdate t m x v) (ht : P.underlying t = some (.map k e)) (hk : P.underlying k = some .string)
    (hm : a.eval m = .map (some b)) (s : ByteArray) (vv : Value) (hx : a.eval x = .string s) (hv : a.eval v = vv) (h : MapS w b l) (hn : (l.find? fun p => decide (p.1 = s)) = none)
    (hK : ∀ w', MapS w' b (l ++ [(s, vv)]) → Keep (fun g => g = b) w w' → wpList P ops Q rest (a.put o.dst undef) w') :
    wpList P ops Q (o :: rest) a w := by
  refine wpList_plain hg fun K' hK' => ?_
  obtain ⟨w', hrun, r1, r2⟩ := run_putS h ht hk hn vv
  unfold Oper.wp
  simp [execOp, hop, hm, hx, hv, hrun, Result.andThen]
  exact hK' _ _ (hK w' r1 r2)
end
end Go.Proofs.YtbanpohholnkaaaDoor

namespace Go.Proofs.YtbanpohholnkaaaDoor
open Go.RowKit

theorem own_set {w : World} {e : TypeId} {size n c g j : Nat} {xs : List Value} (h : w.ownsRow 0 e size (.slice (some ⟨g, 0, none⟩) n c) n xs) (_ : j < n * size) (u : Value) : (w.setCell ⟨g, j, none⟩ u).ownsRow 0 e size (.slice (some ⟨g, 0, none⟩) n c) n (xs.set j u) := by
  obtain ⟨hl, h⟩ := h
  refine ⟨by simpa using hl, ?_⟩
  rcases h with ⟨h1, _⟩ | ⟨g', cap, cur, h1, h2, h3, h4, h5, h6, h7⟩
  · cases h1
  · simp only [Value.slice.injEq, Option.some.injEq, Addr.mk.injEq, and_true, true_and] at h1
    obtain ⟨rfl, rfl⟩ := h1
    refine .inr ⟨g, c, cur.setIfInBounds j u, rfl, h2, ?_, h4, h5, by simpa using h6, ?_⟩
    · have : At (w.setCell ⟨g, j, none⟩ u) g e (cur.setIfInBounds j u) := At.set (show At w g e cur from h3) j u
      exact this
    · rw [← h7]
      simp only [Array.toList_setIfInBounds]
      rw [List.take_set]
theorem tflat_set {rs : List Tv} {i : Nat} (hi : i < rs.length) (q : Tv) : tflat (rs.set i q) = ((((tflat rs).set (i * 4) (.int .i64 q.k)).set (i * 4 + 1) (.string q.nm)).set (i * 4 + 2) (.slice q.An q.nn q.cn)).set (i * 4 + 3) (.slice q.Ak q.nk q.ck) := by
  induction rs generalizing i with
  | nil => simp at hi
  | cons r rs ih =>
    cases i with
    | zero => simp [tflat, Tv.vals]
    | succ i =>
      have := ih (i := i) (by simpa using hi)
      have e0 : (i + 1) * 4 = i * 4 + 1 + 1 + 1 + 1 := by omega
      simp only [List.set_cons_succ, tflat, List.flatMap_cons] at this ⊢
      rw [this]
      simp [Tv.vals, e0]
theorem own_set4 {w : World} {e : TypeId} {n c g i : Nat} {rs : List Tv} (h : w.ownsRow 0 e 4 (.slice (some ⟨g, 0, none⟩) n c) n (tflat rs)) (hi : i < n) (q : Tv) :
    ((((w.setCell ⟨g, i * 4, none⟩ (.int .i64 q.k)).setCell ⟨g, i * 4 + 1, none⟩ (.string q.nm)).setCell ⟨g, i * 4 + 2, none⟩ (.slice q.An q.nn q.cn)).setCell ⟨g, i * 4 + 3, none⟩ (.slice q.Ak q.nk q.ck)).ownsRow 0 e 4 (.slice (some ⟨g, 0, none⟩) n c) n (tflat (rs.set i q)) := by
  have hl : rs.length = n := by
    have := h.1
    rw [tflat_length] at this
    omega
  rw [tflat_set (by omega)]
  exact own_set (own_set (own_set (own_set h (by omega) _) (by omega) _) (by omega) _) (by omega) _
theorem Keep.sets4 {X : Nat → Prop} {a w : World} {b o : Nat} (h : Keep X a w) (hp : X b ∨ a.heap.size ≤ b) (v0 v1 v2 v3 : Value) : Keep X a ((((w.setCell ⟨b, o, none⟩ v0).setCell ⟨b, o + 1, none⟩ v1).setCell ⟨b, o + 2, none⟩ v2).setCell ⟨b, o + 3, none⟩ v3) :=
  Keep.setCell (X := X) (Keep.setCell (X := X) (Keep.setCell (X := X) (Keep.setCell (X := X) h hp _) hp _) hp _) hp _
theorem tflat_cells {rs : List Tv} : ∀ u ∈ tflat rs, u.oneCell' = true := fun u hu => by
  unfold tflat at hu
  obtain ⟨r, _, hr⟩ := List.mem_flatMap.1 hu
  simp only [Tv.vals, List.mem_cons, List.not_mem_nil, or_false] at hr
  rcases hr with rfl | rfl | rfl | rfl <;> rfl
theorem run_eql_slice_nil {P : Program} (w : World) (t e : TypeId) (a : Option Addr) (l c : Nat) (h : P.underlying t = some (.slice e)) : (binOp .eql t (.slice a l c) (.slice none 0 0)).run P w = .ok (.bool a.isNone) w := by
  simp only [binOp]
  simp [run_equal_slice_nil w t e a l c h]
set_option maxRecDepth 100000 in
set_option maxHeartbeats 2000000 in
theorem clone_any {w : World} {X : Nat → Prop} {A : Option Addr} {n c : Nat} {rs : List Tv} (hn : n ≤ 1099511627776) (h : Rd w X 4 (.slice A n c) n (tflat rs)) :
    Calls Tryd.prog 63 #[.slice A n c] w fun e w' => (∃ (Al : Option Addr) (cl : Nat), e = .returned (.slice Al n cl) ∧ w'.ownsRow 0 25 4 (.slice Al n cl) n (tflat rs) ∧ ∀ g, (Value.slice Al n cl).ownBlock = some g → w.heap.size ≤ g) ∧ Keep (fun _ => False) w w' := by
  rcases A with _ | ad
  · have hn0 : n = 0 := by
      obtain ⟨_, A, cap, hv, _, hr⟩ := h
      rcases Nat.eq_zero_or_pos n with h0 | h0
      · exact h0
      · obtain ⟨b, o, hA, _⟩ := hr h0
        simp only [Value.slice.injEq] at hv
        rw [← hv.1] at hA
        cases hA
    subst hn0
    have hxs : tflat rs = [] := List.eq_nil_of_length_eq_zero (by simpa using h.1)
    rw [hxs]
    clear h hxs
    have hq := fun w' => run_eql_slice_nil w' _ _ none 0 c Tryd.underlying23
    simp only [Option.isNone_none] at hq
    go_enter Tryd.func63, Tryd.ntmps63
    go_wp2
    go_ret
    exact ⟨⟨none, 0, rfl, World.ownsRow_nil _ 0 _ 4, fun g hg => by simp [Value.ownBlock] at hg⟩, Keep.refl _ _⟩
  · have hk : Keep (fun _ => False) w (w.alloc (.cells #[] 25)) := (Keep.refl _ w).alloc _
    have hr := h.keep hk (fun _ x => x.elim)
    have hown : (w.alloc (.cells #[] 25)).ownsRow 0 25 4 (.slice (some ⟨w.heap.size, 0, none⟩) 0 0) 0 [] := ⟨by simp, .inr ⟨w.heap.size, 0, #[], rfl, Nat.zero_le _, At.new w 25 #[], Nat.le_refl _, Nat.zero_le _, by simp, by simp⟩⟩
    have HH := Lib.hid (And.intro hk (And.intro hr hown))
    have hbig : 0 + n ≤ 1099511627776 := by omega
    clear h hk hr hown
    have hq := fun w' => run_eql_slice_nil w' _ _ (some ad) n c Tryd.underlying23
    simp only [Option.isNone_some] at hq
    go_enter Tryd.func63, Tryd.ntmps63
    go_wp2_with (at_builtin; refine wpList_app_rd rfl (.tmp 5) (.tmp 6) 23 rfl E25 (.slice (some ⟨w.heap.size, 0, none⟩) 0 0) 0 [] rfl HH.out.2.2 (X := X) (.slice (some ad) n c) n (tflat rs) rfl HH.out.2.1 tflat_cells hbig (by decide) ?_)
    intro v' w5 ho hk5 hg5
    have H5 := Lib.hid (And.intro ho (And.intro hk5 hg5))
    clear ho hk5 hg5
    go_wp2_with fail
    go_ret
    obtain ⟨ho, hk5, hg5⟩ := H5.out
    obtain ⟨Al, cl, rfl⟩ := own_slice ho
    refine ⟨⟨Al, cl, rfl, ho, fun g hg => ?_⟩, HH.out.1.weak hk5 (fun i hi => by simp only [Value.ownBlock, Option.some.injEq] at hi; omega)⟩
    rcases hg5 g hg with e | e
    · simp only [Value.ownBlock, Option.some.injEq] at e
      omega
    · omega
end Go.Proofs.YtbanpohholnkaaaDoor

namespace Go.Proofs.YtbanpohholnkaaaDoor
open Go.RowKit

/-- Block b is a map of types, in which f finds. -/
structure MapT (w : World) (X : Nat → Prop) (b : Nat) (f : ByteArray → Option Ty) (l : List (ByteArray × Tv × Ty)) : Prop where
  map : MapS w b (l.map fun p => (p.1, p.2.1.val))
  tys : ∀ p ∈ l, TyV w X p.2.1 p.2.2
  eq : ∀ s, (l.find? fun p => decide (p.1 = s)).map (·.2.2) = f s
theorem MapT.step {w w' : World} {X : Nat → Prop} {b : Nat} {f : ByteArray → Option Ty} {l : List (ByteArray × Tv × Ty)} (h : MapT w X b f l) (k : Keep (fun _ => False) w w') : MapT w' X b f l := ⟨h.map.step k, fun p hp => (h.tys p hp).step k, h.eq⟩
theorem MapT.keep {w w' : World} {X Y Z : Nat → Prop} {b : Nat} {f : ByteArray → Option Ty} {l : List (ByteArray × Tv × Ty)} (h : MapT w X b f l) (k : Keep Y w w') (hb : ¬ Y b) (hY : ∀ i, i < w.heap.size → Y i → X i) (hZ : ∀ i, i < w.heap.size → Z i → X i) : MapT w' Z b f l :=
  ⟨h.map.keep k hb, fun p hp => (h.tys p hp).keep k hY hZ, h.eq⟩
theorem zeroT (w : World) : (zeroValue 25).run Tryd.prog w = .ok (.agg #[.int .i64 0, .string ⟨#[]⟩, .slice none 0 0, .slice none 0 0]) w := by kernel_rfl
theorem MapT.look {w : World} {X : Nat → Prop} {b : Nat} {f : ByteArray → Option Ty} {l : List (ByteArray × Tv × Ty)} (h : MapT w X b f l) (s : ByteArray) :
    (f s = none ∧ ∀ w', MapS w' b (l.map fun p => (p.1, p.2.1.val)) → (Instr.lookup 55 (.map (some b)) (.string s) true).run Tryd.prog w' = .ok (.tuple #[.agg #[.int .i64 0, .string ⟨#[]⟩, .slice none 0 0, .slice none 0 0], .bool false]) w') ∨
    ∃ (q : Tv) (u : Ty), f s = some u ∧ TyV w X q u ∧ ∀ w', MapS w' b (l.map fun p => (p.1, p.2.1.val)) → (Instr.lookup 55 (.map (some b)) (.string s) true).run Tryd.prog w' = .ok (.tuple #[q.val, .bool true]) w' := by
  have hf := h.eq s
  have hfind : ((l.map fun p => (p.1, p.2.1.val)).find? fun p => decide (p.1 = s)) = (l.find? fun p => decide (p.1 = s)).map fun p => (p.1, p.2.1.val) := by
    rw [List.find?_map]
    rfl
  have hrun := fun (w' : World) (hm : MapS w' b (l.map fun p => (p.1, p.2.1.val))) => run_lookS hm Tryd.underlying55 Tryd.underlying9 (zeroT w') s
  cases hc : (l.find? fun p => decide (p.1 = s)) with
  | none =>
    rw [hc] at hf hfind
    refine .inl ⟨hf.symm, fun w' hm => ?_⟩
    rw [hrun w' hm, hfind]
    rfl
  | some p =>
    rw [hc] at hf hfind
    refine .inr ⟨p.2.1, p.2.2, hf.symm, h.tys p (List.mem_of_find?_eq_some hc), fun w' hm => ?_⟩
    rw [hrun w' hm, hfind]
    rfl
/-- What may be written while a type's kids are replaced. -/
def RpX (X : Nat → Prop) (lv : Value) (bx rb : Nat) : Nat → Prop := fun j => X j ∨ lv.ownBlock = some j ∨ j = bx ∨ j = rb
/-- The loop over the kids: some are replaced already. -/
structure RpR (w1 wr : World) (X : Nat → Prop) (f : ByteArray → Option Ty) (ks : List Ty) (rs : List Tv) (lv : Value) (n i bx rb : Nat) (rc : List Tv) (l : List Ty) : Prop where
  keep : Keep (fun j => lv.ownBlock = some j) w1 wr
  own : wr.ownsRow 0 25 4 lv n (tflat rc)
  len : rc.length = rs.length
  rest : ∀ j, i ≤ j → rc[j]? = rs[j]?
  tys : TysV wr (RpX X lv bx rb) (rc.take i) l
  eq : replL f (ks.take i) = some l
def RpA (w1 : World) (X : Nat → Prop) (f : ByteArray → Option Ty) (ks : List Ty) (rs : List Tv) (lv : Value) (n bx rb : Nat) (k : Nat) (b : Value) (wr : World) : Prop :=
  ∃ (i : Nat) (rc : List Tv) (l : List Ty), b = .int .i64 i ∧ i ≤ n ∧ k = n - i ∧ RpR w1 wr X f ks rs lv n i bx rb rc l
theorem RpR.next {w1 wr w2 : World} {X : Nat → Prop} {f : ByteArray → Option Ty} {ks : List Ty} {rs : List Tv} {g n c i bx rb : Nat} {rc : List Tv} {l : List Ty} {s u : Ty} {p : Tv} {o : Obj} (h : RpR w1 wr X f ks rs (.slice (some ⟨g, 0, none⟩) n c) n i bx rb rc l) (hi : i < n) (hn : rs.length = n)
    (hk : Keep (fun _ => False) wr w2) (hs : ks[i]? = some s) (hu : replT f s = some u) (hp : TyV w2 (RpX X (.slice (some ⟨g, 0, none⟩) n c) bx rb) p u) :
    RpR w1 (((((w2.setCell ⟨g, i * 4, none⟩ (.int .i64 p.k)).setCell ⟨g, i * 4 + 1, none⟩ (.string p.nm)).setCell ⟨g, i * 4 + 2, none⟩ (.slice p.An p.nn p.cn)).setCell ⟨g, i * 4 + 3, none⟩ (.slice p.Ak p.nk p.ck)).alloc o) X f ks rs (.slice (some ⟨g, 0, none⟩) n c) n (i + 1) bx rb (rc.set i p) (l ++ [u]) := by
  have hs4 := Keep.sets4 (o := i * 4) (Keep.refl (fun j => j = g) w2) (.inl rfl) (.int .i64 p.k) (.string p.nm) (.slice p.An p.nn p.cn) (.slice p.Ak p.nk p.ck)
  have hal := hs4.alloc o
  refine ⟨?_, ?_, by simp [h.len], fun j hj => ?_, ?_, replL_take h.eq hs hu⟩
  · refine (h.keep.trans hk (fun _ _ x => x.elim)).trans hal (fun j _ hj => ?_)
    subst hj
    rfl
  · exact (own_set4 (hk.own h.own (fun _ _ x => x)) hi p).alloc o
  · rw [List.getElem?_set]
    rw [if_neg (by omega)]
    exact h.rest j (by omega)
  · have hlen : rc.length = n := by rw [h.len]; exact hn
    have e : (rc.set i p).take (i + 1) = rc.take i ++ [p] := by
      rw [List.take_add_one, List.getElem?_set_self (by omega), List.take_set_of_le (Nat.le_refl _)]
      rfl
    rw [e]
    exact ((h.tys.step hk).snoc hp).keep hal (fun j _ hj => .inr (.inl (by subst hj; rfl))) (fun _ _ hx => hx)
theorem own_cur {w : World} {e : TypeId} {size n c g : Nat} {xs : List Value} (h : w.ownsRow 0 e size (.slice (some ⟨g, 0, none⟩) n c) n xs) : ∃ cur, At w g e cur := by
  rcases h.2 with ⟨h1, _⟩ | ⟨g', cap, cur, h1, _, h3, _⟩
  · cases h1
  · simp only [Value.slice.injEq, Option.some.injEq, Addr.mk.injEq, and_true, true_and] at h1
    obtain ⟨rfl, rfl⟩ := h1
    exact ⟨cur, h3⟩
theorem rw_sum (a b : Nat) (ha : a ≤ 140737488355328) (hb : b ≤ 140737488355328) : wrap64 ((a : Int) + (b : Int)) = (a : Int) + (b : Int) := by unfold wrap64; omega
theorem rw_sum' (a b : Nat) (ha : a ≤ 140737488355328) (hb : b ≤ 140737488355328) : IntKind.i64.wrap ((a : Int) + (b : Int)) = (a : Int) + (b : Int) := by rw [IntKind.wrap_i64]; omega
theorem OptP.any {X : Nat → Prop} {o : Option Ty} {w : World} {q : Tv} {bl : Bool} (h : match o with | none => bl = false | some u => bl = true ∧ TyV w X q u) : OptP X o (.returned (.tuple #[q.val, .bool bl])) w := by
  cases o with
  | none =>
    simp only at h
    subst h
    exact OptP.no rfl q
  | some u =>
    obtain ⟨rfl, h2⟩ := h
    exact OptP.yes rfl h2
set_option maxRecDepth 100000 in
set_option maxHeartbeats 8000000 in
/-- A variable. -/
theorem repl_var {f : ByteArray → Option Ty} {t : Ty} {w : World} {X : Nat → Prop} {r : Tv} {mb : Nat} {l : List (ByteArray × Tv × Ty)} (_ : ∀ i, X i → i < w.heap.size) (_ : t.size ≤ 1000) (h8 : t.kind = 8) (hm : MapT w X mb f l) (h : TyV w X r t) :
    Calls Tryd.prog 41 #[r.val, .map (some mb)] w fun e w' => OptP X (replT f t) e w' ∧ Keep (fun _ => False) w w' := by
  have hres : replT f t = if t.names.length + t.kids.length = 0 then f t.name else none := by rw [replT_eq, if_pos h8]
  have hnn : r.nn = t.names.length := h.out.2.2.1
  have hnk : r.nk = t.kids.length := by obtain ⟨_, _, _, _, rs, h5, _⟩ := h.out; exact h5
  have hnb : r.nn ≤ 140737488355328 := h.out.1.2.1
  have hkb : r.nk ≤ 140737488355328 := h.out.1.2.2
  have hkk := h.knd
  have hnmE : r.nm = t.name := h.out.2.1
  obtain ⟨k, nm, An, nn, cn, Ak, nk, ck⟩ := r
  simp only at hnn hnk hnb hkb hkk hnmE
  rw [← hnn, ← hnk, ← hnmE] at hres
  obtain rfl : k = 8 := hkk.trans h8
  clear hnn hnk hkk hnmE
  have kw : Keep (fun _ => False) w ((w.alloc (.cells #[.int .i64 8, .string nm, .slice An nn cn, .slice Ak nk ck] 25)).alloc (.cells #[.int .i64 0, .string ⟨#[]⟩, .slice none 0 0, .slice none 0 0] 25)) := ((Keep.refl _ w).alloc _).alloc _
  have hmm := hm.map.step kw
  have a1 : At ((w.alloc (.cells #[.int .i64 8, .string nm, .slice An nn cn, .slice Ak nk ck] 25)).alloc (.cells #[.int .i64 0, .string ⟨#[]⟩, .slice none 0 0, .slice none 0 0] 25)) (w.heap.size + 1) 25 #[.int .i64 0, .string ⟨#[]⟩, .slice none 0 0, .slice none 0 0] := At.new_at (by simp)
  rcases hm.look nm with ⟨hf, hrun⟩ | ⟨⟨qk, qnm, qAn, qnn, qcn, qAk, qnk, qck⟩, u, hf, hq, hrun⟩
  · have hrun := hrun _ hmm
    have hout : replT f t = none := by rw [hres, hf]; split <;> rfl
    have HO := Lib.hid (And.intro hout (And.intro kw a1))
    unfold Tv.val
    simp only
    clear hf hres h hm hmm hout kw a1 hnb hkb
    go_enter Tryd.func41, Tryd.ntmps41
    go_upto_region 3 with fail
    refine gen_world ?_
    intro W2 hW2
    have k2 : Keep (fun _ => False) ((w.alloc (.cells #[.int .i64 8, .string nm, .slice An nn cn, .slice Ak nk ck] 25)).alloc (.cells #[.int .i64 0, .string ⟨#[]⟩, .slice none 0 0, .slice none 0 0] 25)) W2 := by rw [hW2]; exact (Keep.refl _ _).alloc _
    have b0 : At W2 w.heap.size 25 #[.int .i64 8, .string nm, .slice An nn cn, .slice Ak nk ck] := by rw [hW2]; exact ((At.new_at (by simp)).alloc _).alloc _
    have b2 : At W2 (w.heap.size + 1 + 1) 25 #[.int .i64 0, .string ⟨#[]⟩, .slice none 0 0, .slice none 0 0] := by rw [hW2]; exact At.new_at (by simp)
    clear hW2 hrun
    have b1 := k2.at_ HO.out.2.2 (fun x => x)
    have hn1 : ¬ w.heap.size = w.heap.size + 1 := by omega
    have hn2 : ¬ w.heap.size + 1 + 1 = w.heap.size + 1 := by omega
    have HK := Lib.hid (And.intro (HO.out.2.1.trans k2 (fun _ _ x => x)) b1)
    obtain ⟨x0l, x00, x01, x02, x03⟩ := b0.tcells
    obtain ⟨x1l, x10, x11, x12, x13⟩ := b1.tcells
    obtain ⟨x2l, x20, x21, x22, x23⟩ := b2.tcells
    have f0 := b1.frozen 0
    have f1 := b1.frozen 1
    have f2 := b1.frozen 2
    have f3 := b1.frozen 3
    clear b0 b1 b2 k2
    generalize hrb : w.heap.size + 1 = rb at *
    generalize rb + 1 = zb at *
    generalize hbx : w.heap.size = bx at *
    have HRE := Lib.hid (show w.heap.size ≤ rb by omega)
    clear hbx hrb
    go_region
    go_wp2_with fail
    (try simp only [Exit.inBlock, Exit.then])
    refine bodyPost_ret (ret_cell rfl rfl (((((HK.out.2.set 0 _).set 1 _).set 2 _).set 3 _).drew)) rfl ?_
    exact ⟨OptP.no HO.out.1 tv0, (HK.out.1.weak (Keep.set4 (Keep.refl (fun j => j = rb) W2) (.inl rfl) (.int .i64 0) (.string ⟨#[]⟩) (.slice none 0 0) (.slice none 0 0)) (fun j hj => by rw [hj]; exact HRE.out)).drew⟩
  · have hrun := hrun _ hmm
    unfold Tv.val at hrun
    simp only at hrun
    by_cases hz : nn + nk = 0
    · have hout : replT f t = some u := by rw [hres, if_pos hz, hf]
      have e0 := rw_sum nn nk hnb hkb
      have e1 := rw_sum' nn nk hnb hkb
      have e2 : ((nn : Int) + (nk : Int) == 0) = true := by rw [beq_iff_eq]; omega
      have HO := Lib.hid (And.intro hout (And.intro kw a1))
      have HQ := Lib.hid hq
      unfold Tv.val
      simp only
      clear hf hres h hm hmm hout kw a1 hq hnb hkb hz
      go_enter Tryd.func41, Tryd.ntmps41
      go_upto_region 3 with fail
      refine gen_world ?_
      intro W2 hW2
      have k2 : Keep (fun _ => False) ((w.alloc (.cells #[.int .i64 8, .string nm, .slice An nn cn, .slice Ak nk ck] 25)).alloc (.cells #[.int .i64 0, .string ⟨#[]⟩, .slice none 0 0, .slice none 0 0] 25)) W2 := by rw [hW2]; exact (Keep.refl _ _).alloc _
      have b0 : At W2 w.heap.size 25 #[.int .i64 8, .string nm, .slice An nn cn, .slice Ak nk ck] := by rw [hW2]; exact ((At.new_at (by simp)).alloc _).alloc _
      have b2 : At W2 (w.heap.size + 1 + 1) 25 #[.int .i64 qk, .string qnm, .slice qAn qnn qcn, .slice qAk qnk qck] := by rw [hW2]; exact At.new_at (by simp)
      clear hW2 hrun
      have b1 := k2.at_ HO.out.2.2 (fun x => x)
      have hn1 : ¬ w.heap.size = w.heap.size + 1 := by omega
      have hn2 : ¬ w.heap.size + 1 + 1 = w.heap.size + 1 := by omega
      have HK := Lib.hid (And.intro (HO.out.2.1.trans k2 (fun _ _ x => x)) b1)
      obtain ⟨x0l, x00, x01, x02, x03⟩ := b0.tcells
      obtain ⟨x1l, x10, x11, x12, x13⟩ := b1.tcells
      obtain ⟨x2l, x20, x21, x22, x23⟩ := b2.tcells
      have f0 := b1.frozen 0
      have f1 := b1.frozen 1
      have f2 := b1.frozen 2
      have f3 := b1.frozen 3
      clear b0 b1 b2 k2
      generalize hrb : w.heap.size + 1 = rb at *
      generalize rb + 1 = zb at *
      generalize hbx : w.heap.size = bx at *
      have HRE := Lib.hid (show w.heap.size ≤ rb by omega)
      clear hbx hrb
      have hkf := (HK.out.1.weak (Keep.set4 (Keep.refl (fun j => j = rb) W2) (.inl rfl) (.int .i64 qk) (.string qnm) (.slice qAn qnn qcn) (.slice qAk qnk qck)) (fun j hj => by rw [hj]; exact HRE.out)).drew
      have HKF := Lib.hid hkf
      clear hkf
      go_region
      go_wp2_with fail
      (try simp only [Exit.inBlock, Exit.then])
      refine bodyPost_ret (ret_cell rfl rfl (((((HK.out.2.set 0 _).set 1 _).set 2 _).set 3 _).drew)) rfl ?_
      exact ⟨OptP.yes (r := ⟨qk, qnm, qAn, qnn, qcn, qAk, qnk, qck⟩) HO.out.1 (HQ.out.step HKF.out), HKF.out⟩
    · have hout : replT f t = none := by rw [hres, if_neg hz]
      have HO := Lib.hid (And.intro hout (And.intro kw a1))
      have e0 := rw_sum nn nk hnb hkb
      have e1 := rw_sum' nn nk hnb hkb
      have e2 : ((nn : Int) + (nk : Int) == 0) = false := by rw [beq_eq_false_iff_ne]; omega
      unfold Tv.val
      simp only
      clear hf hres h hm hmm hout kw a1 hq hnb hkb hz
      go_enter Tryd.func41, Tryd.ntmps41
      go_upto_region 3 with fail
      refine gen_world ?_
      intro W2 hW2
      have k2 : Keep (fun _ => False) ((w.alloc (.cells #[.int .i64 8, .string nm, .slice An nn cn, .slice Ak nk ck] 25)).alloc (.cells #[.int .i64 0, .string ⟨#[]⟩, .slice none 0 0, .slice none 0 0] 25)) W2 := by rw [hW2]; exact (Keep.refl _ _).alloc _
      have b0 : At W2 w.heap.size 25 #[.int .i64 8, .string nm, .slice An nn cn, .slice Ak nk ck] := by rw [hW2]; exact ((At.new_at (by simp)).alloc _).alloc _
      have b2 : At W2 (w.heap.size + 1 + 1) 25 #[.int .i64 qk, .string qnm, .slice qAn qnn qcn, .slice qAk qnk qck] := by rw [hW2]; exact At.new_at (by simp)
      clear hW2 hrun
      have b1 := k2.at_ HO.out.2.2 (fun x => x)
      have hn1 : ¬ w.heap.size = w.heap.size + 1 := by omega
      have hn2 : ¬ w.heap.size + 1 + 1 = w.heap.size + 1 := by omega
      have HK := Lib.hid (And.intro (HO.out.2.1.trans k2 (fun _ _ x => x)) b1)
      obtain ⟨x0l, x00, x01, x02, x03⟩ := b0.tcells
      obtain ⟨x1l, x10, x11, x12, x13⟩ := b1.tcells
      obtain ⟨x2l, x20, x21, x22, x23⟩ := b2.tcells
      have f0 := b1.frozen 0
      have f1 := b1.frozen 1
      have f2 := b1.frozen 2
      have f3 := b1.frozen 3
      clear b0 b1 b2 k2
      generalize hrb : w.heap.size + 1 = rb at *
      generalize rb + 1 = zb at *
      generalize hbx : w.heap.size = bx at *
      have HRE := Lib.hid (show w.heap.size ≤ rb by omega)
      clear hbx hrb
      go_region
      go_wp2_with fail
      (try simp only [Exit.inBlock, Exit.then])
      refine bodyPost_ret (ret_cell rfl rfl (((((HK.out.2.set 0 _).set 1 _).set 2 _).set 3 _).drew)) rfl ?_
      exact ⟨OptP.no HO.out.1 ⟨qk, qnm, qAn, qnn, qcn, qAk, qnk, qck⟩, (HK.out.1.weak (Keep.set4 (Keep.refl (fun j => j = rb) W2) (.inl rfl) (.int .i64 qk) (.string qnm) (.slice qAn qnn qcn) (.slice qAk qnk qck)) (fun j hj => by rw [hj]; exact HRE.out)).drew⟩
set_option maxRecDepth 100000 in
set_option maxHeartbeats 8000000 in
theorem repl_any {f : ByteArray → Option Ty} (t : Ty) : ∀ (w : World) (X : Nat → Prop) (r : Tv) (mb : Nat) (l : List (ByteArray × Tv × Ty)), (∀ i, X i → i < w.heap.size) → t.size ≤ 1000 → MapT w X mb f l → TyV w X r t →
    Calls Tryd.prog 41 #[r.val, .map (some mb)] w fun e w' => OptP X (replT f t) e w' ∧ Keep (fun _ => False) w w' := by
  induction t using Ty.ind with
  | h t ih =>
    intro w X r mb lm hX hsz hm h
    by_cases h8 : t.kind = 8
    · exact repl_var hX hsz h8 hm h
    obtain ⟨k, nm, An, nn, cn, Ak, nk, ck⟩ := r
    obtain ⟨rs, hnk, hnkb, hrd, hv⟩ := h.kds
    have hkk := h.knd
    have hnm := h.out.2.1
    have hnn := h.out.2.2.1
    have hnr := h.out.2.2.2.1
    have hnb := h.out.1.2.1
    simp only at hnk hnkb hrd hkk hnn hnb hnm hnr
    have hlen : t.kids.length ≤ 1000 := by
      have := length_le_sizeL t.kids
      have := t.size_eq
      omega
    have hnk' : nk = t.kids.length := hnk
    have hrl : rs.length = nk := by rw [hv.len, hnk]
    have d8 : (k == 8) = false := by rw [beq_eq_false_iff_ne, hkk]; exact h8
    have hres : replT f t = (replL f t.kids).map fun l => .mk t.kind t.name t.names l := by rw [replT_eq, if_neg h8]
    have kw : Keep (fun _ => False) w ((w.alloc (.cells #[.int .i64 k, .string nm, .slice An nn cn, .slice Ak nk ck] 25)).alloc (.cells #[.int .i64 0, .string ⟨#[]⟩, .slice none 0 0, .slice none 0 0] 25)) := ((Keep.refl _ w).alloc _).alloc _
    have ax : At ((w.alloc (.cells #[.int .i64 k, .string nm, .slice An nn cn, .slice Ak nk ck] 25)).alloc (.cells #[.int .i64 0, .string ⟨#[]⟩, .slice none 0 0, .slice none 0 0] 25)) w.heap.size 25 #[.int .i64 k, .string nm, .slice An nn cn, .slice Ak nk ck] := (At.new _ _ _).alloc _
    have ar : At ((w.alloc (.cells #[.int .i64 k, .string nm, .slice An nn cn, .slice Ak nk ck] 25)).alloc (.cells #[.int .i64 0, .string ⟨#[]⟩, .slice none 0 0, .slice none 0 0] 25)) (w.heap.size + 1) 25 #[.int .i64 0, .string ⟨#[]⟩, .slice none 0 0, .slice none 0 0] := At.new_at (by simp)
    have hcl := clone_any (X := X) (rs := rs) (by omega) (hrd.keep kw (fun _ x => x.elim))
    have H := Lib.hid (And.intro hX (And.intro hm (And.intro hrd (And.intro hv (And.intro ih (And.intro hres (And.intro hsz (And.intro hnm hnr))))))))
    have HN := Lib.hid (And.intro hnk (And.intro hlen (And.intro hrl (And.intro hkk hnn))))
    have HW := Lib.hid (And.intro kw (And.intro ax ar))
    unfold Tv.val
    simp only
    clear h hX hsz hm h8 hrd hv hkk hnm hnn hnr hnk hnk' hrl hres kw ax ar ih
    go_enter Tryd.func41, Tryd.ntmps41
    go_upto_region 5 with (go_at_call 63; refine hcl.mono ?_; rintro e w2 ⟨⟨Al, cl, rfl, hown, hnew⟩, hk2⟩; have ax2 := hk2.at_ HW.out.2.1 (fun x => x); obtain ⟨x0l, x00, x01, x02, x03⟩ := ax2.tcells; have xf := ax2.frozen 3; have HO := Lib.hid (And.intro hown (And.intro hnew (And.intro hk2 ax2))); clear hown hnew hk2 hcl ax2)
    refine gen_world ?_
    intro w1 hw1
    have kx : Keep (fun j => j = w.heap.size) w2 w1 := by rw [hw1]; exact Keep.setCell (X := fun j => j = w.heap.size) (Keep.refl _ w2) (.inl rfl) _
    have ax1 : At w1 w.heap.size 25 #[.int .i64 k, .string nm, .slice An nn cn, .slice Al nk cl] := by rw [hw1]; exact HO.out.2.2.2.set 3 _
    have hnw : ∀ g, (Value.slice Al nk cl).ownBlock = some g → w.heap.size + 2 ≤ g := fun g hg => by
      have h1 := HO.out.2.1 g hg
      simp at h1
      omega
    have k01 : Keep (fun _ => False) w w1 := (HW.out.1.trans HO.out.2.2.1 (fun _ _ x => x)).weak kx (fun j hj => Nat.le_of_eq hj.symm)
    have ar1 : At w1 (w.heap.size + 1) 25 #[.int .i64 0, .string ⟨#[]⟩, .slice none 0 0, .slice none 0 0] := kx.at_ (HO.out.2.2.1.at_ HW.out.2.2 (fun x => x)) (by omega)
    have hown : w1.ownsRow 0 25 4 (.slice Al nk cl) nk (tflat rs) := kx.own HO.out.1 (fun g hg e => by have := hnw g hg; omega)
    have h0 : Hid (RpA w1 X f t.kids rs (.slice Al nk cl) nk w.heap.size (w.heap.size + 1) nk (.int .i64 0) w1) := ⟨0, rs, [], rfl, Nat.zero_le _, rfl, ⟨Keep.refl _ _, hown, rfl, fun _ _ => rfl, by simp [TysV], by simp [replL]⟩⟩
    have HB := Lib.hid (And.intro k01 (And.intro ax1 (And.intro ar1 hnw)))
    clear hw1 kx hnw k01 ar1 hown HO HW x0l x00 x01 x02 x03 xf
    generalize hre : w.heap.size + 1 = rb at *
    generalize hbe : w.heap.size = bx at *
    have HRE := Lib.hid (And.intro hre hbe)
    clear hre hbe
    obtain ⟨x0l, x00, x01, x02, x03⟩ := ax1.tcells
    clear ax1
    go_wp2_with fail
    clear x0l x00 x01 x02 x03
    go_loopg [41] nk (RpA w1 X f t.kids rs (.slice Al nk cl) nk bx rb)
    case atStart => exact h0.out
    case round =>
      clear h0
      obtain ⟨i, rc, l, rfl, hi, rfl, hR⟩ := hrel
      have hwr : Keep (fun _ => False) w wr := HB.out.1.weak hR.keep (fun j hj => by have h1 := HB.out.2.2.2 j hj; have h2 := HRE.out; omega)
      have axr := hR.keep.at_ HB.out.2.1 (fun hj => by have h1 := HB.out.2.2.2 bx hj; have h2 := HRE.out; omega)
      have arr := hR.keep.at_ HB.out.2.2.1 (fun hj => by have h1 := HB.out.2.2.2 rb hj; have h2 := HRE.out; omega)
      by_cases hlt : i < nk
      · have hAl : ∃ g, Al = some ⟨g, 0, none⟩ := by
          rcases own_cases hR.own with ⟨h1, h2, _⟩ | ⟨g, cap, h1, _⟩
          · omega
          · simp only [Value.slice.injEq] at h1
            exact ⟨g, h1.1⟩
        obtain ⟨g, rfl⟩ := hAl
        obtain ⟨s, hs⟩ : ∃ s, t.kids[i]? = some s := ⟨_, List.getElem?_eq_getElem (by have := HN.out.1; omega)⟩
        obtain ⟨⟨qk, qnm, qAn, qnn, qcn, qAk, qnk, qck⟩, hq, hqv⟩ := H.out.2.2.2.1.at_ hs
        have hqc : rc[i]? = some ⟨qk, qnm, qAn, qnn, qcn, qAk, qnk, qck⟩ := by rw [hR.rest i (Nat.le_refl _)]; exact hq
        obtain ⟨gb, go, hgA, hgl, _, c0, c1, c2, c3⟩ := (Rd.of_own (X := nX) hR.own (fun _ _ x => x)).tcells hlt hqc
        simp only [Option.some.injEq, Addr.mk.injEq, and_true] at hgA
        obtain ⟨rfl, rfl⟩ := hgA
        simp only [Nat.zero_add] at c0 c1 c2 c3
        have hXl : ∀ j, RpX X (.slice (some ⟨g, 0, none⟩) nk cl) bx rb j → j < wr.heap.size := fun j hj => by
          rcases hj with hj | hj | hj | hj
          · have h1 := H.out.1 j hj; have h2 := hwr.size; have h3 := HRE.out; omega
          · exact own_lt hR.own hj
          · rw [hj]; exact axr.lt
          · rw [hj]; exact arr.lt
        have hXM : ∀ j, j < w.heap.size → RpX X (.slice (some ⟨g, 0, none⟩) nk cl) bx rb j → X j := fun j hjl hj => by
          rcases hj with hj | hj | hj | hj
          · exact hj
          · have h1 := HB.out.2.2.2 j hj; have h2 := HRE.out; omega
          · have h2 := HRE.out; omega
          · have h2 := HRE.out; omega
        have kal : Keep (fun _ => False) wr (wr.alloc (.cells #[.int .i64 qk, .string qnm, .slice qAn qnn qcn, .slice qAk qnk qck] 25)) := (Keep.refl _ wr).alloc _
        have hcr := H.out.2.2.2.2.1 s (Ty.kid_lt (List.mem_of_getElem? hs)) (wr.alloc (.cells #[.int .i64 qk, .string qnm, .slice qAn qnn qcn, .slice qAk qnk qck] 25)) (RpX X (.slice (some ⟨g, 0, none⟩) nk cl) bx rb) ⟨qk, qnm, qAn, qnn, qcn, qAk, qnk, qck⟩ mb lm
          (fun j hj => by have h1 := hXl j hj; have h2 := kal.size; omega)
          (by have h1 := size_mem (List.mem_of_getElem? hs); have h2 := t.size_eq; have h3 := H.out.2.2.2.2.2.2.1; omega)
          (H.out.2.1.keep (hwr.trans kal (fun _ _ x => x)) (fun x => x) (fun _ _ x => x.elim) hXM) (hqv.keep (hwr.trans kal (fun _ _ x => x)) (fun _ _ x => x.elim) hXM)
        unfold Tv.val at hcr
        simp only at hcr
        have axw := kal.at_ axr (fun x => x)
        have HQ := Lib.hid (And.intro hR (And.intro hs (And.intro kal (And.intro axw (And.intro (kal.at_ arr (fun x => x)) (hwr.trans kal (fun _ _ x => x)))))))
        have i0 : (0 : Int) ≤ (i : Int) := by omega
        have i1 : (i : Int) < (nk : Int) := by omega
        clear hR hs hq hqv hqc hXl hXM kal axr arr hwr axw
        cases ho : replT f s with
        | none =>
          rw [ho] at hcr
          have hnone : replT f t = none := by rw [H.out.2.2.2.2.2.1, replL_none HQ.out.2.1 ho]; rfl
          have HO := Lib.hid hnone
          clear ho hnone
          go_wp2_with (go_at_call 41; refine hcr.mono ?_; rintro e w2 ⟨⟨⟨pk, pnm, pAn, pnn, pcn, pAk, pnk, pck⟩, he⟩, hk2⟩; simp only [Tv.val] at he; subst he; have K2 := Lib.hid hk2; have ra := hk2.at_ HQ.out.2.2.2.2.1 (fun x => x); obtain ⟨x1l, x10, x11, x12, x13⟩ := ra.tcells; have rf0 := ra.frozen 0; have rf1 := ra.frozen 1; have rf2 := ra.frozen 2; have rf3 := ra.frozen 3; obtain ⟨x0l, x00, x01, x02, x03⟩ := (hk2.at_ HQ.out.2.2.2.1 (fun x => x)).tcells; clear hk2 hcr ra)
          (try simp only [Exit.inBlock, Exit.then])
          have ra := K2.out.at_ HQ.out.2.2.2.2.1 (fun x => x)
          have hkw := HQ.out.2.2.2.2.2.trans K2.out (fun _ _ x => x)
          have hkf := (hkw.weak (Keep.set4 (Keep.refl (fun j => j = rb) w2) (.inl rfl) (.int .i64 k) (.string nm) (.slice An nn cn) (.slice (some ⟨g, 0, none⟩) nk cl)) (fun j hj => by have h1 := HRE.out; omega)).alloc (.cells #[.int .i64 pk, .string pnm, .slice pAn pnn pcn, .slice pAk pnk pck] 25)
          refine bodyPost_ret (ret_cell rfl rfl (((((ra.set 0 _).set 1 _).set 2 _).set 3 _).alloc _)) rfl ?_
          exact ⟨OptP.no HO.out ⟨k, nm, An, nn, cn, some ⟨g, 0, none⟩, nk, cl⟩, hkf⟩
        | some u =>
          rw [ho] at hcr
          have HO := Lib.hid ho
          clear ho
          go_wp2_with (go_at_call 41; refine hcr.mono ?_; rintro e w2 ⟨⟨⟨pk, pnm, pAn, pnn, pcn, pAk, pnk, pck⟩, he, hpv⟩, hk2⟩; simp only [Tv.val] at he; subst he; have K2 := Lib.hid (And.intro hk2 hpv); have hrw := (hk2.own (HQ.out.2.2.1.own HQ.out.1.own (fun _ _ x => x)) (fun _ _ x => x)); obtain ⟨x0l, x00, x01, x02, x03⟩ := (hk2.at_ HQ.out.2.2.2.1 (fun x => x)).tcells; have s0 := hk2.cell (HQ.out.2.2.1.cell c0 (fun x => x)) (fun x => x); have s1 := hk2.cell (HQ.out.2.2.1.cell c1 (fun x => x)) (fun x => x); have s2 := hk2.cell (HQ.out.2.2.1.cell c2 (fun x => x)) (fun x => x); have s3 := hk2.cell (HQ.out.2.2.1.cell c3 (fun x => x)) (fun x => x); clear c0 c1 c2 c3; obtain ⟨cur, hcur⟩ := own_cur hrw; have gl := hcur.lt; have gf0 := hcur.frozen (i * 4); have gf1 := hcur.frozen (i * 4 + 1); have gf2 := hcur.frozen (i * 4 + 2); have gf3 := hcur.frozen (i * 4 + 3); clear hk2 hcr hpv hrw hcur)
          go_roundg (nk - (i + 1))
          case measure => omega
          case rel => exact ⟨i + 1, _, _, by go_num, by omega, rfl, HQ.out.1.next (p := ⟨pk, pnm, pAn, pnn, pcn, pAk, pnk, pck⟩) hlt HN.out.2.2.1 (HQ.out.2.2.1.trans K2.out.1 (fun _ _ x => x)) HQ.out.2.1 HO.out K2.out.2⟩
      · obtain rfl : i = nk := by omega
        have htk : t.kids.take i = t.kids := List.take_of_length_le (by have := HN.out.1; omega)
        have hrl : replL f t.kids = some l := by have := hR.eq; rw [htk] at this; exact this
        have hrk : rc.take i = rc := List.take_of_length_le (by have h1 := hR.len; have h2 := HN.out.2.2.1; omega)
        have hll : i = l.length := by rw [replL_length hrl]; exact HN.out.1
        have hres : replT f t = some (.mk t.kind t.name t.names l) := by rw [H.out.2.2.2.2.2.1, hrl]; rfl
        have hs4 := Keep.set4 (Keep.refl (fun j => j = rb) wr) (.inl rfl) (.int .i64 k) (.string nm) (.slice An nn cn) (.slice Al i cl)
        have kf := hwr.weak hs4 (fun j hj => by have h1 := HRE.out; omega)
        have hty : TyV ((((wr.setCell ⟨rb, 0, none⟩ (.int .i64 k)).setCell ⟨rb, 1, none⟩ (.string nm)).setCell ⟨rb, 2, none⟩ (.slice An nn cn)).setCell ⟨rb, 3, none⟩ (.slice Al i cl)) X ⟨k, nm, An, nn, cn, Al, i, cl⟩ (.mk t.kind t.name t.names l) := by
          refine TyV.mk (t := .mk t.kind t.name t.names l) (rs := rc) ⟨HN.out.2.2.2.1, hnb, hnkb⟩ H.out.2.2.2.2.2.2.2.1 HN.out.2.2.2.2 (H.out.2.2.2.2.2.2.2.2.keep kf (fun _ x => x.elim)) hll ?_ ?_
          · refine Rd.of_own (hs4.own hR.own (fun g hg e => by have h1 := HB.out.2.2.2 g hg; have h2 := HRE.out; omega)) (fun g hg hx => by have h1 := HB.out.2.2.2 g hg; have h2 := HRE.out; have h3 := H.out.1 g hx; omega)
          · have h2 := hR.tys
            rw [hrk] at h2
            exact h2.keep hs4 (fun j _ hj => .inr (.inr (.inr hj))) (fun j _ hx => .inl hx)
        obtain ⟨x0l, x00, x01, x02, x03⟩ := axr.tcells
        obtain ⟨x1l, x10, x11, x12, x13⟩ := arr.tcells
        have rf0 := arr.frozen 0
        have rf1 := arr.frozen 1
        have rf2 := arr.frozen 2
        have rf3 := arr.frozen 3
        have HF := Lib.hid (And.intro arr (And.intro kf (And.intro hty hres)))
        clear hR hwr axr arr htk hrl hrk hll hres hs4 kf hty
        go_wp2_with fail
        (try simp only [Exit.inBlock, Exit.then])
        refine bodyPost_ret (ret_cell rfl rfl ((((HF.out.1.set 0 _).set 1 _).set 2 _).set 3 _)) rfl ?_
        exact ⟨OptP.yes (r := ⟨k, nm, An, nn, cn, Al, i, cl⟩) HF.out.2.2.2 HF.out.2.2.1, HF.out.2.1⟩
end Go.Proofs.YtbanpohholnkaaaDoor

namespace Go.Proofs.YtbanpohholnkaaaDoor
open Go.RowKit

def ResP (X : Nat → Prop) (o : Option Ty × Int) (e : Ending) (w : World) : Prop :=
  match o.1 with
  | none => e = .returned (.tuple #[tv0.val, .int .i64 o.2])
  | some n => ∃ q : Tv, e = .returned (.tuple #[q.val, .int .i64 o.2]) ∧ TyV w X q n
theorem ResP.no {X : Nat → Prop} {o : Option Ty × Int} {w : World} {z : Int} (h : o = (none, z)) : ResP X o (.returned (.tuple #[tv0.val, .int .i64 z])) w := by rw [h]; rfl
theorem ResP.yes {X : Nat → Prop} {o : Option Ty × Int} {w : World} {n : Ty} {z : Int} {q : Tv} (h : o = (some n, z)) (hq : TyV w X q n) : ResP X o (.returned (.tuple #[q.val, .int .i64 z])) w := by rw [h]; exact ⟨q, rfl, hq⟩
theorem lookT_take {vs : List ByteArray} {ws : List Ty} {i : Nat} {v : ByteArray} {u : Ty} (hv : vs[i]? = some v) (hu : ws[i]? = some u) (s : ByteArray) :
    lookT (vs.take (i + 1)) (ws.take (i + 1)) s = match lookT (vs.take i) (ws.take i) s with | some x => some x | none => if v = s then some u else none := by
  unfold lookT
  have hz : (vs.take (i + 1)).zip (ws.take (i + 1)) = (vs.take i).zip (ws.take i) ++ [(v, u)] := by
    have hi1 : i < vs.length := (List.getElem?_eq_some_iff.1 hv).1
    have hi2 : i < ws.length := (List.getElem?_eq_some_iff.1 hu).1
    rw [List.take_add_one, List.take_add_one, hv, hu]
    simp only [Option.toList_some]
    rw [List.zip_append (by simp; omega)]
    rfl
  rw [hz, List.find?_append]
  cases hc : ((vs.take i).zip (ws.take i)).find? fun p => decide (p.1 = s) with
  | some p => rfl
  | none =>
    simp only [Option.none_or, Option.map_none]
    by_cases h : v = s
    · simp [h]
    · simp [h]
theorem MapT.same {w : World} {X : Nat → Prop} {b : Nat} {f g : ByteArray → Option Ty} {l : List (ByteArray × Tv × Ty)} (h : MapT w X b f l) (e : ∀ s, f s = g s) : MapT w X b g l := ⟨h.map, h.tys, fun s => (h.eq s).trans (e s)⟩
theorem MapT.find {w : World} {X : Nat → Prop} {b : Nat} {f : ByteArray → Option Ty} {l : List (ByteArray × Tv × Ty)} (h : MapT w X b f l) {s : ByteArray} (hs : f s = none) : ((l.map fun p => (p.1, p.2.1.val)).find? fun p => decide (p.1 = s)) = none := by
  have := h.eq s
  rw [hs] at this
  cases hc : l.find? fun p => decide (p.1 = s) with
  | some p => rw [hc] at this; cases this
  | none =>
    rw [List.find?_map]
    simpa using hc
theorem MapT.put {w w' : World} {X : Nat → Prop} {b : Nat} {f g : ByteArray → Option Ty} {l : List (ByteArray × Tv × Ty)} (h : MapT w X b f l) {s : ByteArray} {q : Tv} {u : Ty} (_ : f s = none) (hm : MapS w' b ((l.map fun p => (p.1, p.2.1.val)) ++ [(s, q.val)])) (k : Keep (fun j => j = b) w w') (hb : X b) (hq : TyV w X q u)
    (hg : ∀ z, g z = match f z with | some x => some x | none => if s = z then some u else none) : MapT w' X b g (l ++ [(s, q, u)]) := by
  refine ⟨by simpa using hm, fun p hp => ?_, fun z => ?_⟩
  · rcases List.mem_append.1 hp with hp | hp
    · exact (h.tys p hp).keep k (fun i _ hi => by rw [hi]; exact hb) (fun _ _ x => x)
    · rw [List.mem_singleton.1 hp]
      exact hq.keep k (fun i _ hi => by rw [hi]; exact hb) (fun _ _ x => x)
  · rw [List.find?_append, hg z, ← h.eq z]
    cases hc : l.find? fun p => decide (p.1 = z) with
    | some p => rfl
    | none =>
      simp only [Option.none_or, Option.map_none]
      by_cases e : s = z
      · simp [e]
      · simp [e]
def RvA (w1 : World) (X : Nat → Prop) (vs : List ByteArray) (ws : List Ty) (mb n : Nat) (k : Nat) (b : Value) (wr : World) : Prop :=
  ∃ (i : Nat) (l : List (ByteArray × Tv × Ty)), b = .int .i64 i ∧ i ≤ n ∧ k = n - i ∧ MapT wr X mb (lookT (vs.take i) (ws.take i)) l ∧ Keep (fun j => j = mb) w1 wr
set_option maxRecDepth 100000 in
set_option maxHeartbeats 2000000 in
theorem resolve_any {w : World} {X : Nat → Prop} {r : Tv} {t : Ty} {vs : List ByteArray} {ws : List Ty} {rs : List Tv} {Av Aw : Option Addr} {nv cv nw cw : Nat} (hX : ∀ i, X i → i < w.heap.size) (hT : Tab w) (h : TyV w X r t) (hvb : nv ≤ 140737488355328)
    (hvr : Rd w X 1 (.slice Av nv cv) nv (strs vs)) (hwr : Rd w X 4 (.slice Aw nw cw) nw (tflat rs)) (hwt : TysV w X rs ws) :
    Calls Tryd.prog 23 #[r.val, .slice Av nv cv, .slice Aw nw cw] w fun e w' => ResP X (resolveT vs ws t) e w' ∧ Keep (fun _ => False) w w' := by
  obtain ⟨k, nm, An, nn, cn, Ak, nk, ck⟩ := r
  have hlv : vs.length = nv := hvr.slen
  have hlw : ws.length = nw := by rw [← hwt.len]; exact hwr.nlen
  have kw : Keep (fun _ => False) w ((w.alloc (.cells #[.int .i64 k, .string nm, .slice An nn cn, .slice Ak nk ck] 25)).alloc (.cells #[.int .i64 0, .string ⟨#[]⟩, .slice none 0 0, .slice none 0 0] 25)) := ((Keep.refl _ w).alloc _).alloc _
  have ax : At ((w.alloc (.cells #[.int .i64 k, .string nm, .slice An nn cn, .slice Ak nk ck] 25)).alloc (.cells #[.int .i64 0, .string ⟨#[]⟩, .slice none 0 0, .slice none 0 0] 25)) w.heap.size 25 #[.int .i64 k, .string nm, .slice An nn cn, .slice Ak nk ck] := (At.new _ _ _).alloc _
  have ar : At ((w.alloc (.cells #[.int .i64 k, .string nm, .slice An nn cn, .slice Ak nk ck] 25)).alloc (.cells #[.int .i64 0, .string ⟨#[]⟩, .slice none 0 0, .slice none 0 0] 25)) (w.heap.size + 1) 25 #[.int .i64 0, .string ⟨#[]⟩, .slice none 0 0, .slice none 0 0] := At.new_at (by simp)
  by_cases hne : nv = nw
  rotate_left
  · have hres : resolveT vs ws t = (none, 1) := by unfold resolveT; rw [if_pos (by omega)]
    have d1 : ((nv : Int) != (nw : Int)) = true := by rw [bne_iff_ne]; omega
    have f0 := ar.frozen 0
    have f1 := ar.frozen 1
    have f2 := ar.frozen 2
    have f3 := ar.frozen 3
    have H := Lib.hid (And.intro kw (And.intro ar hres))
    unfold Tv.val
    simp only
    clear hX hT h hvr hwr hwt hlv hlw kw ax ar hne hres
    go_enter Tryd.func23, Tryd.ntmps23
    go_wp2_with fail
    (try simp only [Exit.inBlock, Exit.then])
    refine bodyPost_ret (ret_cell rfl rfl H.out.2.1) rfl ?_
    exact ⟨ResP.no H.out.2.2, H.out.1⟩
  subst hne
  have H := Lib.hid (And.intro hX (And.intro hT (And.intro h (And.intro hvr (And.intro hwr (And.intro hwt (And.intro hlv hlw)))))))
  have HW := Lib.hid (And.intro kw (And.intro ax ar))
  have hmm := @run_makeMap Tryd.prog
  unfold Tv.val
  simp only
  clear hX hT h hvr hwr hwt hlv hlw kw ax ar
  go_enter Tryd.func23, Tryd.ntmps23
  go_upto_region 4 with fail
  refine gen_world ?_
  intro w1 hw1
  have k01 : Keep (fun _ => False) w w1 := by rw [hw1]; exact HW.out.1.alloc _
  have ax1 : At w1 w.heap.size 25 #[.int .i64 k, .string nm, .slice An nn cn, .slice Ak nk ck] := by rw [hw1]; exact HW.out.2.1.alloc _
  have ar1 : At w1 (w.heap.size + 1) 25 #[.int .i64 0, .string ⟨#[]⟩, .slice none 0 0, .slice none 0 0] := by rw [hw1]; exact HW.out.2.2.alloc _
  have hm1 : MapS w1 (w.heap.size + 1 + 1) [] := by rw [hw1]; have := MapS.made ((w.alloc (.cells #[.int .i64 k, .string nm, .slice An nn cn, .slice Ak nk ck] 25)).alloc (.cells #[.int .i64 0, .string ⟨#[]⟩, .slice none 0 0, .slice none 0 0] 25)); simpa using this
  clear hw1 HW hmm
  generalize hme : w.heap.size + 1 + 1 = mb at *
  generalize hre : w.heap.size + 1 = rb at *
  generalize hbe : w.heap.size = bx at *
  have HRE := Lib.hid (And.intro hme (And.intro hre hbe))
  clear hme hre hbe
  have h0 : Hid (RvA w1 (fun j => X j ∨ j = rb ∨ j = mb) vs ws mb nv nv (.int .i64 0) w1) := ⟨0, [], rfl, Nat.zero_le _, rfl, ⟨hm1, fun p hp => by simp at hp, fun s => by simp [lookT]⟩, Keep.refl _ _⟩
  have HB := Lib.hid (And.intro k01 (And.intro ax1 ar1))
  clear k01 ax1 ar1 hm1
  go_wp2_with fail
  go_loopg [24] nv (RvA w1 (fun j => X j ∨ j = rb ∨ j = mb) vs ws mb nv)
  case atStart => exact h0.out
  case round =>
    clear h0
    obtain ⟨i, lm, rfl, hi, rfl, hM, hk⟩ := hrel
    have hwr : Keep (fun _ => False) w wr := HB.out.1.weak hk (fun j hj => by have h1 := HRE.out; omega)
    have hXl : ∀ j, (fun j => X j ∨ j = rb ∨ j = mb) j → j < wr.heap.size := fun j hj => by
      rcases hj with hj | hj | hj
      · have h1 := H.out.1 j hj; have h2 := hwr.size; have h3 := HRE.out; omega
      · rw [hj]; have h1 := HB.out.2.2.lt; have h2 := hk.size; omega
      · rw [hj]; exact hM.map.lt
    have hXM : ∀ j, j < w.heap.size → (fun j => X j ∨ j = rb ∨ j = mb) j → X j := fun j hjl hj => by
      rcases hj with hj | hj | hj
      · exact hj
      · have h1 := HRE.out; omega
      · have h1 := HRE.out; omega
    by_cases hlt : i < nv
    · obtain ⟨s, hs⟩ : ∃ s, vs[i]? = some s := ⟨_, List.getElem?_eq_getElem (by have := H.out.2.2.2.2.2.2.1; omega)⟩
      obtain ⟨u, hu⟩ : ∃ u, ws[i]? = some u := ⟨_, List.getElem?_eq_getElem (by have := H.out.2.2.2.2.2.2.2; omega)⟩
      obtain ⟨⟨qk, qnm, qAn, qnn, qcn, qAk, qnk, qck⟩, hq, hqv⟩ := H.out.2.2.2.2.2.1.at_ hu
      obtain ⟨vb, vo, rfl, hvz, _, e0⟩ := (H.out.2.2.2.1.keep hwr (fun _ x => x.elim)).scell hlt hs
      obtain ⟨ub, uo, rfl, huz, _, c0, c1, c2, c3⟩ := (H.out.2.2.2.2.1.keep hwr (fun _ x => x.elim)).tcells hlt hq
      simp only at c0 c1 c2 c3
      have i0 : (0 : Int) ≤ (i : Int) := by omega
      have i1 : (i : Int) < (nv : Int) := by omega
      rcases hM.look s with ⟨hf, hrun⟩ | ⟨p, x, hf, hp, hrun⟩
      · have hrun := hrun wr hM.map
        have kal : Keep (fun _ => False) wr (wr.alloc (.cells #[.int .i64 0, .string ⟨#[]⟩, .slice none 0 0, .slice none 0 0] 25)) := (Keep.refl _ wr).alloc _
        have HM := Lib.hid (And.intro (hM.step kal) (And.intro (hM.find hf) (And.intro hf (And.intro hs (And.intro hu (And.intro (hqv.keep (hwr.trans kal (fun _ _ x => x)) (fun _ _ x => x.elim) hXM) (hk.alloc (.cells #[.int .i64 0, .string ⟨#[]⟩, .slice none 0 0, .slice none 0 0] 25))))))))
        clear hM hf hs hu hq hqv hk hwr hXl hXM kal
        go_wp2_with (at_mapUpdate; refine wpList_putS rfl _ _ _ rfl Tryd.underlying55 Tryd.underlying9 rfl s (.agg #[.int .i64 qk, .string qnm, .slice qAn qnn qcn, .slice qAk qnk qck]) rfl rfl HM.out.1.map HM.out.2.1 ?_)
        intro w5 hm5 hk5
        have H5 := Lib.hid (And.intro hm5 hk5)
        clear hm5 hk5
        go_wp2_with fail
        go_roundg (nv - (i + 1))
        case measure => omega
        case rel => exact ⟨i + 1, lm ++ [(s, ⟨qk, qnm, qAn, qnn, qcn, qAk, qnk, qck⟩, u)], by go_num, by omega, rfl, HM.out.1.put (q := ⟨qk, qnm, qAn, qnn, qcn, qAk, qnk, qck⟩) HM.out.2.2.1 H5.out.1 H5.out.2 (.inr (.inr rfl)) HM.out.2.2.2.2.2.1 (lookT_take HM.out.2.2.2.1 HM.out.2.2.2.2.1), HM.out.2.2.2.2.2.2.trans H5.out.2 (fun _ _ x => x)⟩
      · obtain ⟨pk, pnm, pAn, pnn, pcn, pAk, pnk, pck⟩ := p
        have hrun := hrun wr hM.map
        unfold Tv.val at hrun
        simp only at hrun
        have HM := Lib.hid (And.intro (hM.step ((Keep.refl (fun _ => False) wr).alloc (.cells #[.int .i64 pk, .string pnm, .slice pAn pnn pcn, .slice pAk pnk pck] 25))) (And.intro hf (And.intro hs (And.intro hu (hk.alloc (.cells #[.int .i64 pk, .string pnm, .slice pAn pnn pcn, .slice pAk pnk pck] 25))))))
        clear hM hf hs hu hq hqv hk hwr hXl hXM hp
        go_wp2_with fail
        go_roundg (nv - (i + 1))
        case measure => omega
        case rel =>
          refine ⟨i + 1, lm, by go_num, by omega, rfl, HM.out.1.same (fun z => ?_), HM.out.2.2.2.2⟩
          rw [lookT_take HM.out.2.2.1 HM.out.2.2.2.1 z]
          cases hc : lookT (vs.take i) (ws.take i) z with
          | some y => rfl
          | none =>
            have hne : ¬ s = z := fun e => by
              have := HM.out.2.1
              rw [e, hc] at this
              cases this
            simp [hne]
    · obtain rfl : i = nv := by omega
      have hvt : vs.take i = vs := List.take_of_length_le (by have := H.out.2.2.2.2.2.2.1; omega)
      have hwt : ws.take i = ws := List.take_of_length_le (by have := H.out.2.2.2.2.2.2.2; omega)
      rw [hvt, hwt] at hM
      have HM := Lib.hid (And.intro hM (And.intro hwr (And.intro hXl (And.intro hXM (And.intro (hk.at_ HB.out.2.1 (fun hj => by have h1 := HRE.out; omega)) (hk.at_ HB.out.2.2 (fun hj => by have h1 := HRE.out; omega)))))))
      have HC : Hid (∀ w', Keep (fun _ => False) wr w' → (bx < w'.heap.size ∧ w'.cell? ⟨bx, 0, none⟩ = some (.int .i64 k) ∧ w'.cell? ⟨bx, 1, none⟩ = some (.string nm) ∧ w'.cell? ⟨bx, 2, none⟩ = some (.slice An nn cn) ∧ w'.cell? ⟨bx, 3, none⟩ = some (.slice Ak nk ck)) ∧ (rb < w'.heap.size ∧ w'.cell? ⟨rb, 0, none⟩ = some (.int .i64 0) ∧ w'.cell? ⟨rb, 1, none⟩ = some (.string ⟨#[]⟩) ∧ w'.cell? ⟨rb, 2, none⟩ = some (.slice none 0 0) ∧ w'.cell? ⟨rb, 3, none⟩ = some (.slice none 0 0)) ∧ w'.frozen? ⟨rb, 0, none⟩ = false ∧ w'.frozen? ⟨rb, 1, none⟩ = false ∧ w'.frozen? ⟨rb, 2, none⟩ = false ∧ w'.frozen? ⟨rb, 3, none⟩ = false) := fun w' hk => ⟨(hk.at_ HM.out.2.2.2.2.1 (fun x => x)).tcells, (hk.at_ HM.out.2.2.2.2.2 (fun x => x)).tcells, (hk.at_ HM.out.2.2.2.2.2 (fun x => x)).frozen 0, (hk.at_ HM.out.2.2.2.2.2 (fun x => x)).frozen 1, (hk.at_ HM.out.2.2.2.2.2 (fun x => x)).frozen 2, (hk.at_ HM.out.2.2.2.2.2 (fun x => x)).frozen 3⟩
      have KC : Hid (Keep (fun _ => False) wr wr) := Keep.refl _ _
      have KF : Hid (∀ w' v0 v1 v2 v3, Keep (fun _ => False) wr w' → Keep (fun _ => False) w ((((w'.setCell ⟨rb, 0, none⟩ v0).setCell ⟨rb, 1, none⟩ v1).setCell ⟨rb, 2, none⟩ v2).setCell ⟨rb, 3, none⟩ v3)) := fun w' v0 v1 v2 v3 hk => (HM.out.2.1.trans hk (fun _ _ x => x)).weak (Keep.set4 (Keep.refl (fun g => g = rb) w') (.inl rfl) v0 v1 v2 v3) (fun g hg => by have h1 := HRE.out; omega)
      have HT : Hid (∀ w', Keep (fun _ => False) wr w' → TyV w' (fun j => X j ∨ j = rb ∨ j = mb) ⟨k, nm, An, nn, cn, Ak, nk, ck⟩ t) := fun w' hk => H.out.2.2.1.keep (HM.out.2.1.trans hk (fun _ _ x => x)) (fun _ _ x => x.elim) HM.out.2.2.2.1
      have HSz : Hid (∀ w', Keep (fun _ => False) wr w' → Calls Tryd.prog 39 #[.agg #[.int .i64 k, .string nm, .slice An nn cn, .slice Ak nk ck]] w' fun e w'' => e = .returned (.int .i64 (min t.size 201 : Nat)) ∧ Keep (fun _ => False) w' w'') := fun w' hk => size_any t w' ⟨k, nm, An, nn, cn, Ak, nk, ck⟩ (HT.out w' hk)
      have HHt : Hid (∀ w', Keep (fun _ => False) wr w' → Calls Tryd.prog 40 #[.agg #[.int .i64 k, .string nm, .slice An nn cn, .slice Ak nk ck]] w' fun e w'' => e = .returned (.int .i64 (min t.ht 17 : Nat)) ∧ Keep (fun _ => False) w' w'') := fun w' hk => Height_any (r := ⟨k, nm, An, nn, cn, Ak, nk, ck⟩) (HT.out w' hk)
      obtain ⟨⟨xl, x0, x1, x2, x3⟩, ⟨rl, r0, r1, r2, r3⟩, f0, f1, f2, f3⟩ := HC.out wr KC.out
      clear hM hwr hXl hXM hk hvt hwt
      have hll : ¬ vs.length ≠ ws.length := by have h1 := H.out.2.2.2.2.2.2; omega
      have HLL := Lib.hid hll
      clear hll
      by_cases h200 : 200 < t.size
      · have HR := Lib.hid (show resolveT vs ws t = (none, 9) by unfold resolveT; rw [if_neg HLL.out, if_pos (.inl h200)])
        rw [show min t.size 201 = 201 by omega] at HSz
        clear h200
        go_wp2_with (go_at_call 39; (with_reducible refine (HSz.out _ KC.out).mono ?_); rintro e w2 ⟨rfl, hk⟩; have KN := Lib.hid (KC.out.trans hk (fun _ _ x => x)); clear KC hk xl x0 x1 x2 x3 rl r0 r1 r2 r3 f0 f1 f2 f3; have KC := KN; clear KN; obtain ⟨⟨xl, x0, x1, x2, x3⟩, ⟨rl, r0, r1, r2, r3⟩, f0, f1, f2, f3⟩ := HC.out _ KC.out)
        (try simp only [Exit.inBlock, Exit.then])
        have ra := KC.out.at_ HM.out.2.2.2.2.2 (fun x => x)
        refine bodyPost_ret (ret_cell rfl rfl ((((ra.set 0 _).set 1 _).set 2 _).set 3 _)) rfl ?_
        exact ⟨ResP.no HR.out, KF.out _ (.int .i64 0) (.string ⟨#[]⟩) (.slice none 0 0) (.slice none 0 0) KC.out⟩
      · rw [show min t.size 201 = t.size by omega] at HSz
        have d200 : decide (200 < (t.size : Int)) = false := by simp; omega
        have HS2 := Lib.hid h200
        clear h200
        by_cases h16 : 16 < t.ht
        · have HR := Lib.hid (show resolveT vs ws t = (none, 9) by unfold resolveT; rw [if_neg HLL.out, if_pos (.inr h16)])
          rw [show min t.ht 17 = 17 by omega] at HHt
          clear h16
          generalize t.size = ts at *
          go_wp2_with (first | (go_at_call 39; (with_reducible refine (HSz.out _ KC.out).mono ?_); rintro e w2 ⟨rfl, hk⟩; have KN := Lib.hid (KC.out.trans hk (fun _ _ x => x)); clear KC hk xl x0 x1 x2 x3 rl r0 r1 r2 r3 f0 f1 f2 f3; have KC := KN; clear KN; obtain ⟨⟨xl, x0, x1, x2, x3⟩, ⟨rl, r0, r1, r2, r3⟩, f0, f1, f2, f3⟩ := HC.out _ KC.out) | (go_at_call 40; (with_reducible refine (HHt.out _ KC.out).mono ?_); rintro e w3 ⟨rfl, hk⟩; have KN := Lib.hid (KC.out.trans hk (fun _ _ x => x)); clear KC hk xl x0 x1 x2 x3 rl r0 r1 r2 r3 f0 f1 f2 f3; have KC := KN; clear KN; obtain ⟨⟨xl, x0, x1, x2, x3⟩, ⟨rl, r0, r1, r2, r3⟩, f0, f1, f2, f3⟩ := HC.out _ KC.out))
          (try simp only [Exit.inBlock, Exit.then])
          have ra := KC.out.at_ HM.out.2.2.2.2.2 (fun x => x)
          refine bodyPost_ret (ret_cell rfl rfl ((((ra.set 0 _).set 1 _).set 2 _).set 3 _)) rfl ?_
          exact ⟨ResP.no HR.out, KF.out _ (.int .i64 0) (.string ⟨#[]⟩) (.slice none 0 0) (.slice none 0 0) KC.out⟩
        · rw [show min t.ht 17 = t.ht by omega] at HHt
          have d16 : decide (16 < (t.ht : Int)) = false := by simp; omega
          have hre : resolveT vs ws t = (match replT (lookT vs ws) t with | none => (none, 9) | some r => match NormT r with | none => (none, 9) | some n => (some n, 0)) := by
            unfold resolveT
            rw [if_neg HLL.out, if_neg (by have := HS2.out; omega)]
            try (
              cases replT (lookT vs ws) t with
              | none => rfl
              | some r => cases NormT r <;> rfl)
          have HRp : Hid (∀ w', Keep (fun _ => False) wr w' → Calls Tryd.prog 41 #[.agg #[.int .i64 k, .string nm, .slice An nn cn, .slice Ak nk ck], .map (some mb)] w' fun e w'' => OptP (fun j => X j ∨ j = rb ∨ j = mb) (replT (lookT vs ws) t) e w'' ∧ Keep (fun _ => False) w' w'') := fun w' hk => repl_any t w' (fun j => X j ∨ j = rb ∨ j = mb) ⟨k, nm, An, nn, cn, Ak, nk, ck⟩ mb lm (fun j hj => by have h1 := HM.out.2.2.1 j hj; have h2 := hk.size; omega) (by have := HS2.out; omega) (HM.out.1.step hk) (HT.out w' hk)
          clear h16
          generalize t.size = ts at *
          generalize t.ht = th at *
          cases hro : replT (lookT vs ws) t with
          | none =>
            rw [hro] at hre HRp
            have HR := Lib.hid (show resolveT vs ws t = (none, 9) from hre)
            clear hro hre
            go_wp2_with (first | (go_at_call 39; (with_reducible refine (HSz.out _ KC.out).mono ?_); rintro e w2 ⟨rfl, hk⟩; have KN := Lib.hid (KC.out.trans hk (fun _ _ x => x)); clear KC hk xl x0 x1 x2 x3 rl r0 r1 r2 r3 f0 f1 f2 f3; have KC := KN; clear KN; obtain ⟨⟨xl, x0, x1, x2, x3⟩, ⟨rl, r0, r1, r2, r3⟩, f0, f1, f2, f3⟩ := HC.out _ KC.out) | (go_at_call 40; (with_reducible refine (HHt.out _ KC.out).mono ?_); rintro e w3 ⟨rfl, hk⟩; have KN := Lib.hid (KC.out.trans hk (fun _ _ x => x)); clear KC hk xl x0 x1 x2 x3 rl r0 r1 r2 r3 f0 f1 f2 f3; have KC := KN; clear KN; obtain ⟨⟨xl, x0, x1, x2, x3⟩, ⟨rl, r0, r1, r2, r3⟩, f0, f1, f2, f3⟩ := HC.out _ KC.out) | (go_at_call 41; (with_reducible refine (HRp.out _ KC.out).mono ?_); rintro e w4 ⟨⟨⟨pk, pnm, pAn, pnn, pcn, pAk, pnk, pck⟩, he⟩, hk⟩; simp only [Tv.val] at he; subst he; have KN := Lib.hid (KC.out.trans hk (fun _ _ x => x)); clear KC hk xl x0 x1 x2 x3 rl r0 r1 r2 r3 f0 f1 f2 f3; have KC := KN; clear KN; obtain ⟨⟨xl, x0, x1, x2, x3⟩, ⟨rl, r0, r1, r2, r3⟩, f0, f1, f2, f3⟩ := HC.out _ KC.out))
            (try simp only [Exit.inBlock, Exit.then])
            have ra := KC.out.at_ HM.out.2.2.2.2.2 (fun x => x)
            refine bodyPost_ret (ret_cell rfl rfl (((((ra.set 0 _).set 1 _).set 2 _).set 3 _).alloc _)) rfl ?_
            exact ⟨ResP.no HR.out, (KF.out _ (.int .i64 0) (.string ⟨#[]⟩) (.slice none 0 0) (.slice none 0 0) KC.out).alloc _⟩
          | some rr =>
            rw [hro] at hre HRp
            simp only at hre
            have HRR := Lib.hid hre
            clear hro hre
            cases hno : NormT rr with
            | none =>
              have HR := Lib.hid (show resolveT vs ws t = (none, 9) by rw [HRR.out, hno])
              have HNo := Lib.hid hno
              clear hno
              go_wp2_with (first | (go_at_call 39; (with_reducible refine (HSz.out _ KC.out).mono ?_); rintro e w2 ⟨rfl, hk⟩; have KN := Lib.hid (KC.out.trans hk (fun _ _ x => x)); clear KC hk xl x0 x1 x2 x3 rl r0 r1 r2 r3 f0 f1 f2 f3; have KC := KN; clear KN; obtain ⟨⟨xl, x0, x1, x2, x3⟩, ⟨rl, r0, r1, r2, r3⟩, f0, f1, f2, f3⟩ := HC.out _ KC.out) | (go_at_call 40; (with_reducible refine (HHt.out _ KC.out).mono ?_); rintro e w3 ⟨rfl, hk⟩; have KN := Lib.hid (KC.out.trans hk (fun _ _ x => x)); clear KC hk xl x0 x1 x2 x3 rl r0 r1 r2 r3 f0 f1 f2 f3; have KC := KN; clear KN; obtain ⟨⟨xl, x0, x1, x2, x3⟩, ⟨rl, r0, r1, r2, r3⟩, f0, f1, f2, f3⟩ := HC.out _ KC.out) | (go_at_call 41; (with_reducible refine (HRp.out _ KC.out).mono ?_); rintro e w4 ⟨⟨⟨pk, pnm, pAn, pnn, pcn, pAk, pnk, pck⟩, he, hpv⟩, hk⟩; simp only [Tv.val] at he; subst he; have KN := Lib.hid (KC.out.trans hk (fun _ _ x => x)); clear KC hk xl x0 x1 x2 x3 rl r0 r1 r2 r3 f0 f1 f2 f3; have KC := KN; clear KN; obtain ⟨⟨xl, x0, x1, x2, x3⟩, ⟨rl, r0, r1, r2, r3⟩, f0, f1, f2, f3⟩ := HC.out _ KC.out; have hn := Norm_any (X := (fun j => X j ∨ j = rb ∨ j = mb)) (r := ⟨pk, pnm, pAn, pnn, pcn, pAk, pnk, pck⟩) (t := rr) (fun j hj => by have h1 := HM.out.2.2.1 j hj; have h2 := KC.out.size; have h3 : w4.heap.size ≤ (w4.alloc (.cells #[.int .i64 pk, .string pnm, .slice pAn pnn pcn, .slice pAk pnk pck] 25)).heap.size := ((Keep.refl (fun _ => False) w4).alloc (.cells #[.int .i64 pk, .string pnm, .slice pAn pnn pcn, .slice pAk pnk pck] 25)).size; omega) ((H.out.2.1.step (HM.out.2.1.trans KC.out (fun _ _ x => x))).step ((Keep.refl (fun _ => False) w4).alloc (.cells #[.int .i64 pk, .string pnm, .slice pAn pnn pcn, .slice pAk pnk pck] 25))) (hpv.step ((Keep.refl (fun _ => False) w4).alloc (.cells #[.int .i64 pk, .string pnm, .slice pAn pnn pcn, .slice pAk pnk pck] 25))); rw [HNo.out] at hn; unfold Tv.val at hn; simp only at hn; clear hpv) | (go_at_call 42; refine hn.mono ?_; rintro e w5 ⟨he, hk⟩; unfold NormP at he; simp only [Tv.val, tv0] at he; subst he; have KN := Lib.hid ((KC.out.alloc _).trans hk (fun _ _ x => x)); clear KC hk hn xl x0 x1 x2 x3 rl r0 r1 r2 r3 f0 f1 f2 f3; have KC := KN; clear KN; obtain ⟨⟨xl, x0, x1, x2, x3⟩, ⟨rl, r0, r1, r2, r3⟩, f0, f1, f2, f3⟩ := HC.out _ KC.out))
              (try simp only [Exit.inBlock, Exit.then])
              have ra := KC.out.at_ HM.out.2.2.2.2.2 (fun x => x)
              refine bodyPost_ret (ret_cell rfl rfl ((((ra.set 0 _).set 1 _).set 2 _).set 3 _)) rfl ?_
              exact ⟨ResP.no HR.out, KF.out _ (.int .i64 0) (.string ⟨#[]⟩) (.slice none 0 0) (.slice none 0 0) KC.out⟩
            | some n =>
              have HR := Lib.hid (show resolveT vs ws t = (some n, 0) by rw [HRR.out, hno])
              have HNo := Lib.hid hno
              clear hno
              go_wp2_with (first | (go_at_call 39; (with_reducible refine (HSz.out _ KC.out).mono ?_); rintro e w2 ⟨rfl, hk⟩; have KN := Lib.hid (KC.out.trans hk (fun _ _ x => x)); clear KC hk xl x0 x1 x2 x3 rl r0 r1 r2 r3 f0 f1 f2 f3; have KC := KN; clear KN; obtain ⟨⟨xl, x0, x1, x2, x3⟩, ⟨rl, r0, r1, r2, r3⟩, f0, f1, f2, f3⟩ := HC.out _ KC.out) | (go_at_call 40; (with_reducible refine (HHt.out _ KC.out).mono ?_); rintro e w3 ⟨rfl, hk⟩; have KN := Lib.hid (KC.out.trans hk (fun _ _ x => x)); clear KC hk xl x0 x1 x2 x3 rl r0 r1 r2 r3 f0 f1 f2 f3; have KC := KN; clear KN; obtain ⟨⟨xl, x0, x1, x2, x3⟩, ⟨rl, r0, r1, r2, r3⟩, f0, f1, f2, f3⟩ := HC.out _ KC.out) | (go_at_call 41; (with_reducible refine (HRp.out _ KC.out).mono ?_); rintro e w4 ⟨⟨⟨pk, pnm, pAn, pnn, pcn, pAk, pnk, pck⟩, he, hpv⟩, hk⟩; simp only [Tv.val] at he; subst he; have KN := Lib.hid (KC.out.trans hk (fun _ _ x => x)); clear KC hk xl x0 x1 x2 x3 rl r0 r1 r2 r3 f0 f1 f2 f3; have KC := KN; clear KN; obtain ⟨⟨xl, x0, x1, x2, x3⟩, ⟨rl, r0, r1, r2, r3⟩, f0, f1, f2, f3⟩ := HC.out _ KC.out; have hn := Norm_any (X := (fun j => X j ∨ j = rb ∨ j = mb)) (r := ⟨pk, pnm, pAn, pnn, pcn, pAk, pnk, pck⟩) (t := rr) (fun j hj => by have h1 := HM.out.2.2.1 j hj; have h2 := KC.out.size; have h3 : w4.heap.size ≤ (w4.alloc (.cells #[.int .i64 pk, .string pnm, .slice pAn pnn pcn, .slice pAk pnk pck] 25)).heap.size := ((Keep.refl (fun _ => False) w4).alloc (.cells #[.int .i64 pk, .string pnm, .slice pAn pnn pcn, .slice pAk pnk pck] 25)).size; omega) ((H.out.2.1.step (HM.out.2.1.trans KC.out (fun _ _ x => x))).step ((Keep.refl (fun _ => False) w4).alloc (.cells #[.int .i64 pk, .string pnm, .slice pAn pnn pcn, .slice pAk pnk pck] 25))) (hpv.step ((Keep.refl (fun _ => False) w4).alloc (.cells #[.int .i64 pk, .string pnm, .slice pAn pnn pcn, .slice pAk pnk pck] 25))); rw [HNo.out] at hn; unfold Tv.val at hn; simp only at hn; clear hpv) | (go_at_call 42; refine hn.mono ?_; rintro e w5 ⟨⟨⟨zk, znm, zAn, znn, zcn, zAk, znk, zck⟩, he, hzv⟩, hk⟩; simp only [Tv.val] at he; subst he; have HZV := Lib.hid hzv; have KN := Lib.hid ((KC.out.alloc _).trans hk (fun _ _ x => x)); clear KC hk hn hzv xl x0 x1 x2 x3 rl r0 r1 r2 r3 f0 f1 f2 f3; have KC := KN; clear KN; obtain ⟨⟨xl, x0, x1, x2, x3⟩, ⟨rl, r0, r1, r2, r3⟩, f0, f1, f2, f3⟩ := HC.out _ KC.out))
              (try simp only [Exit.inBlock, Exit.then])
              have ra := KC.out.at_ HM.out.2.2.2.2.2 (fun x => x)
              refine bodyPost_ret (ret_cell rfl rfl ((((ra.set 0 _).set 1 _).set 2 _).set 3 _)) rfl ?_
              exact ⟨ResP.yes (q := ⟨zk, znm, zAn, znn, zcn, zAk, znk, zck⟩) HR.out (HZV.out.keep (Keep.set4 (Keep.refl (fun g => g = rb) w5) (.inl rfl) (.int .i64 zk) (.string znm) (.slice zAn znn zcn) (.slice zAk znk zck)) (fun _ _ hx => .inr (.inl hx)) (fun _ _ hx => .inl hx)), KF.out _ _ _ _ _ KC.out⟩
end Go.Proofs.YtbanpohholnkaaaDoor

namespace Go.Proofs.YtbanpohholnkaaaDoor
open Go.RowKit

structure RqR (w1 : World) (X : Nat → Prop) (f : ByteArray → Option Ty) (ks : List Ty) (i : Nat) (lv : Value) (rs : List Tv) (l : List Ty) (wr : World) : Prop where
  keep : Keep (fun _ => False) w1 wr
  own : wr.ownsRow 0 25 4 lv i (tflat rs)
  tys : TysV wr (fun g => X g ∨ lv.ownBlock = some g) rs l
  new : ∀ g, lv.ownBlock = some g → w1.heap.size ≤ g
  eq : replL f (ks.take i) = some l
def RqA (w1 : World) (X : Nat → Prop) (f : ByteArray → Option Ty) (ks : List Ty) (n : Nat) (k : Nat) (a b : Value) (wr : World) : Prop :=
  ∃ (i : Nat) (lv : Value) (rs : List Tv) (l : List Ty), a = lv ∧ b = .int .i64 i ∧ i ≤ n ∧ k = n - i ∧ RqR w1 X f ks i lv rs l wr
theorem RqR.app {w1 wr w2 w3 w4 : World} {X : Nat → Prop} {f : ByteArray → Option Ty} {ks : List Ty} {i g cap : Nat} {lv : Value} {rs : List Tv} {l : List Ty} {r : Tv} {kd t : Ty} (h : RqR w1 X f ks i lv rs l wr) (hkd : ks[i]? = some kd) (ht : replT f kd = some t)
    (hk2 : Keep (fun _ => False) wr w2) (hr : TyV w2 (fun g => X g ∨ lv.ownBlock = some g) r t) (hk3 : Keep (fun _ => False) w2 w3)
    (ho : w4.ownsRow 0 25 4 (.slice (some ⟨g, 0, none⟩) (i + 1) cap) (i + 1) (tflat rs ++ r.vals)) (hk : Keep (fun k => lv.ownBlock = some k) w3 w4) (hg : lv.ownBlock = some g ∨ w3.heap.size ≤ g) :
    RqR w1 X f ks (i + 1) (.slice (some ⟨g, 0, none⟩) (i + 1) cap) (rs ++ [r]) (l ++ [t]) w4 := by
  have hs2 := hk2.size
  have hs3 := hk3.size
  have hs1 := h.keep.size
  have gg : ∀ j, Value.ownBlock (.slice (some ⟨g, 0, none⟩) (i + 1) cap) = some j → lv.ownBlock = some j ∨ w3.heap.size ≤ j := fun j hj => by
    simp only [Value.ownBlock, Option.some.injEq] at hj
    subst hj
    exact hg
  refine ⟨((h.keep.trans hk2 (fun _ _ x => x)).trans hk3 (fun _ _ x => x)).weak hk (fun j hj => h.new j hj), ?_, ?_, fun j hj => ?_, replL_take h.eq hkd ht⟩
  · rw [tflat_append, tflat_one_vals]
    exact ho
  · have h1 : TysV w3 (fun g => X g ∨ lv.ownBlock = some g) (rs ++ [r]) (l ++ [t]) := ((h.tys.step hk2).step hk3).snoc (hr.step hk3)
    refine h1.keep hk (fun j _ hj => .inr hj) (fun j hjl hj => ?_)
    rcases hj with hj | hj
    · exact .inl hj
    · rcases gg j hj with e | e
      · exact .inr e
      · omega
  · rcases gg j hj with e | e
    · exact h.new j e
    · omega
theorem At.drewN {w : World} {b : Nat} {e : TypeId} {c : Array Value} (h : At w b e c) (n : Nat) : At (w.drewN n) b e c := by
  induction n with
  | zero => exact h
  | succ n ih => exact ih.drew
def RlA (w1 : World) (vs : List ByteArray) (s : ByteArray) (n : Nat) (k : Nat) (b : Value) (wr : World) : Prop :=
  ∃ i : Nat, b = .int .i64 i ∧ i ≤ n ∧ k = n - i ∧ (∀ x ∈ vs.take i, x ≠ s) ∧ Keep (fun _ => False) w1 wr
theorem lookT_none {vs : List ByteArray} {ws : List Ty} {s : ByteArray} (h : ∀ x ∈ vs, x ≠ s) : lookT vs ws s = none := by
  unfold lookT
  have : (vs.zip ws).find? (fun p => decide (p.1 = s)) = none := by
    rw [List.find?_eq_none]
    intro p hp
    simpa using h p.1 (List.of_mem_zip hp).1
  rw [this]
  rfl
theorem lookT_at : ∀ {vs : List ByteArray} {ws : List Ty} {i : Nat} {s : ByteArray} {u : Ty}, (∀ x ∈ vs.take i, x ≠ s) → vs[i]? = some s → ws[i]? = some u → lookT vs ws s = some u
  | [], _, _, _, _, _, h, _ => by simp at h
  | _ :: _, [], _, _, _, _, _, h => by simp at h
  | v :: vs, w :: ws, 0, s, u, _, h1, h2 => by
    simp only [List.getElem?_cons_zero, Option.some.injEq] at h1 h2
    subst h1 h2
    simp [lookT]
  | v :: vs, w :: ws, i + 1, s, u, h, h1, h2 => by
    simp only [List.getElem?_cons_succ] at h1 h2
    have hv : v ≠ s := h v (by simp)
    have ih := lookT_at (fun x hx => h x (by simp [hx])) h1 h2
    unfold lookT at ih ⊢
    simp only [List.zip_cons_cons, List.find?_cons, hv, decide_false]
    exact ih
set_option maxRecDepth 100000 in
set_option maxHeartbeats 2000000 in
theorem rrepl_var {w : World} {X : Nat → Prop} {t : Ty} {vs : List ByteArray} {ws : List Ty} {rs : List Tv} {Av Aw : Option Addr} {nv cv cw : Nat} {r : Tv} (h8 : t.kind = 8) (h : TyV w X r t) (hvb : nv ≤ 140737488355328)
    (hvr : Rd w X 1 (.slice Av nv cv) nv (strs vs)) (hwr : Rd w X 4 (.slice Aw nv cw) nv (tflat rs)) (hwt : TysV w X rs ws) :
    Calls Tryd.prog 45 #[r.val, .slice Av nv cv, .slice Aw nv cw] w fun e w' => OptP X (replT (lookT vs ws) t) e w' ∧ Keep (fun _ => False) w w' := by
  have hres : replT (lookT vs ws) t = if t.names.length + t.kids.length = 0 then lookT vs ws t.name else none := by rw [replT_eq, if_pos h8]
  have hnn : r.nn = t.names.length := h.out.2.2.1
  have hnk : r.nk = t.kids.length := by obtain ⟨_, _, _, _, rs, h5, _⟩ := h.out; exact h5
  have hkk := h.knd
  have hnmE : r.nm = t.name := h.out.2.1
  have hlv : vs.length = nv := hvr.slen
  have hlw : ws.length = nv := by rw [← hwt.len]; exact hwr.nlen
  obtain ⟨k, nm, An, nn, cn, Ak, nk, ck⟩ := r
  simp only at hnn hnk hkk hnmE
  rw [← hnn, ← hnk, ← hnmE] at hres
  obtain rfl : k = 8 := hkk.trans h8
  clear hnn hnk hkk hnmE
  have kw : Keep (fun _ => False) w ((w.alloc (.cells #[.int .i64 8, .string nm, .slice An nn cn, .slice Ak nk ck] 25)).alloc (.cells #[.int .i64 0, .string ⟨#[]⟩, .slice none 0 0, .slice none 0 0] 25)) := ((Keep.refl _ w).alloc _).alloc _
  have ax : At ((w.alloc (.cells #[.int .i64 8, .string nm, .slice An nn cn, .slice Ak nk ck] 25)).alloc (.cells #[.int .i64 0, .string ⟨#[]⟩, .slice none 0 0, .slice none 0 0] 25)) w.heap.size 25 #[.int .i64 8, .string nm, .slice An nn cn, .slice Ak nk ck] := (At.new _ _ _).alloc _
  have ar : At ((w.alloc (.cells #[.int .i64 8, .string nm, .slice An nn cn, .slice Ak nk ck] 25)).alloc (.cells #[.int .i64 0, .string ⟨#[]⟩, .slice none 0 0, .slice none 0 0] 25)) (w.heap.size + 1) 25 #[.int .i64 0, .string ⟨#[]⟩, .slice none 0 0, .slice none 0 0] := At.new_at (by simp)
  by_cases hz : nn + nk = 0
  rotate_left
  · have hout : replT (lookT vs ws) t = none := by rw [hres, if_neg hz]
    have f0 := ar.frozen 0
    have f1 := ar.frozen 1
    have f2 := ar.frozen 2
    have f3 := ar.frozen 3
    have H := Lib.hid (And.intro hout (And.intro kw ar))
    unfold Tv.val
    simp only
    clear hres h hvr hwr hwt hlv hlw kw ax ar
    by_cases hn0 : nn = 0
    · have d1 : decide (0 < (nn : Int)) = false := by simp; omega
      have d2 : decide (0 < (nk : Int)) = true := by simp; omega
      have d1' : decide (0 < nn) = false := by simp; omega
      have d2' : decide (0 < nk) = true := by simp; omega
      clear hn0 hz
      go_enter Tryd.func45, Tryd.ntmps45
      go_wp2_with fail
      (try simp only [Exit.inBlock, Exit.then])
      refine bodyPost_ret (ret_cell rfl rfl (At.new_at (by simp))) rfl ?_
      exact ⟨OptP.no H.out.1 ⟨8, nm, An, nn, cn, Ak, nk, ck⟩, ((Keep.refl _ w).alloc _).alloc _⟩
    · have d1 : decide (0 < (nn : Int)) = true := by simp; omega
      have d1' : decide (0 < nn) = true := by simp; omega
      clear hn0 hz
      go_enter Tryd.func45, Tryd.ntmps45
      go_wp2_with fail
      (try simp only [Exit.inBlock, Exit.then])
      refine bodyPost_ret (ret_cell rfl rfl (At.new_at (by simp))) rfl ?_
      exact ⟨OptP.no H.out.1 ⟨8, nm, An, nn, cn, Ak, nk, ck⟩, ((Keep.refl _ w).alloc _).alloc _⟩
  · have hout : replT (lookT vs ws) t = lookT vs ws nm := by rw [hres, if_pos hz]
    obtain ⟨d1, d2⟩ : decide (0 < (nn : Int)) = false ∧ decide (0 < (nk : Int)) = false := ⟨by simp; omega, by simp; omega⟩
    obtain ⟨d1', d2'⟩ : decide (0 < nn) = false ∧ decide (0 < nk) = false := ⟨by simp; omega, by simp; omega⟩
    have H := Lib.hid (And.intro hout (And.intro hvr (And.intro hwr (And.intro hwt (And.intro hlv hlw)))))
    have HW := Lib.hid (And.intro kw (And.intro ax ar))
    unfold Tv.val
    simp only
    clear hres h hvr hwr hwt hlv hlw kw ax ar hz hout
    go_enter Tryd.func45, Tryd.ntmps45
    go_upto_region 4 with fail
    generalize ((w.alloc (.cells #[.int .i64 8, .string nm, .slice An nn cn, .slice Ak nk ck] 25)).alloc (.cells #[.int .i64 0, .string ⟨#[]⟩, .slice none 0 0, .slice none 0 0] 25)) = w1 at *
    generalize hre : w.heap.size + 1 = rb at *
    generalize hbe : w.heap.size = bx at *
    have HRE := Lib.hid (And.intro hre hbe)
    clear hre hbe d1 d2 d1' d2'
    have h0 : Hid (RlA w1 vs nm nv nv (.int .i64 0) w1) := ⟨0, rfl, Nat.zero_le _, rfl, by simp, Keep.refl _ _⟩
    go_wp2_with fail
    go_loopg [8] nv (RlA w1 vs nm nv)
    case atStart => exact h0.out
    case round =>
      clear h0
      obtain ⟨i, rfl, hi, rfl, hall, hk⟩ := hrel
      have hkw := HW.out.1.trans hk (fun _ _ x => x)
      obtain ⟨xl, x0, x1, x2, x3⟩ := (hk.at_ HW.out.2.1 (fun x => x)).tcells
      have arr := hk.at_ HW.out.2.2 (fun x => x)
      by_cases hlt : i < nv
      · obtain ⟨s, hs⟩ : ∃ s, vs[i]? = some s := ⟨_, List.getElem?_eq_getElem (by have := H.out.2.2.2.2.1; omega)⟩
        obtain ⟨u, hu⟩ : ∃ u, ws[i]? = some u := ⟨_, List.getElem?_eq_getElem (by have := H.out.2.2.2.2.2; omega)⟩
        obtain ⟨⟨qk, qnm, qAn, qnn, qcn, qAk, qnk, qck⟩, hq, hqv⟩ := H.out.2.2.2.1.at_ hu
        obtain ⟨vb, vo, rfl, hvz, _, e0⟩ := (H.out.2.1.keep hkw (fun _ x => x.elim)).scell hlt hs
        obtain ⟨ub, uo, rfl, huz, _, c0, c1, c2, c3⟩ := (H.out.2.2.1.keep hkw (fun _ x => x.elim)).tcells hlt hq
        simp only at c0 c1 c2 c3
        have i0 : (0 : Int) ≤ (i : Int) := by omega
        have i1 : (i : Int) < (nv : Int) := by omega
        by_cases hsn : s = nm
        · have hb := str_beq s
          have hout : replT (lookT vs ws) t = some u := by rw [H.out.1]; exact lookT_at hall (by rw [hs, hsn]) hu
          subst hsn
          have HO := Lib.hid (And.intro hout (And.intro hkw (And.intro hqv arr)))
          have rf0 := arr.frozen 0
          have rf1 := arr.frozen 1
          have rf2 := arr.frozen 2
          have rf3 := arr.frozen 3
          obtain ⟨rl, r0, r1, r2, r3⟩ := arr.tcells
          clear hall hk hs hu hq hqv hkw arr hout
          go_wp2_with fail
          go_quiet (fail)
          go_wp2_with fail
          (try simp only [Exit.inBlock, Exit.then])
          refine bodyPost_ret (ret_cell rfl rfl ((((((HO.out.2.2.2.drewN _).set 0 _).set 1 _).set 2 _).set 3 _))) rfl ?_
          have hkf := fun (n : Nat) => (HO.out.2.1.drewN n).weak (Keep.set4 (Keep.refl (fun j => j = rb) (wr.drewN n)) (.inl rfl) (.int .i64 qk) (.string qnm) (.slice qAn qnn qcn) (.slice qAk qnk qck)) (fun j hj => by have := HRE.out; omega)
          exact ⟨OptP.yes (r := ⟨qk, qnm, qAn, qnn, qcn, qAk, qnk, qck⟩) HO.out.1 (HO.out.2.2.1.step (hkf _)), hkf _⟩
        · have hb := str_bne hsn
          have HO := Lib.hid (And.intro hall (And.intro hk (And.intro hs hsn)))
          clear hall hk hs hu hq hqv hkw arr hsn
          go_wp2_with fail
          go_quiet (fail)
          go_wp2_with fail
          go_roundg (nv - (i + 1))
          case measure => omega
          case rel =>
            refine ⟨i + 1, by go_num, by omega, rfl, fun y hy => ?_, HO.out.2.1.drewN _⟩
            rw [List.take_add_one, HO.out.2.2.1] at hy
            rcases List.mem_append.1 hy with hy | hy
            · exact HO.out.1 y hy
            · have : y = s := by simpa using hy
              rw [this]
              exact HO.out.2.2.2
      · obtain rfl : i = nv := by omega
        have hout : replT (lookT vs ws) t = none := by rw [H.out.1]; exact lookT_none (fun x hx => hall x (by rw [List.take_of_length_le (by have := H.out.2.2.2.2.1; omega)]; exact hx))
        have HO := Lib.hid (And.intro hout (And.intro hkw arr))
        have rf0 := arr.frozen 0
        have rf1 := arr.frozen 1
        have rf2 := arr.frozen 2
        have rf3 := arr.frozen 3
        obtain ⟨rl, r0, r1, r2, r3⟩ := arr.tcells
        clear hall hk hkw arr hout
        go_wp2_with fail
        (try simp only [Exit.inBlock, Exit.then])
        refine bodyPost_ret (ret_cell rfl rfl ((((HO.out.2.2.set 0 _).set 1 _).set 2 _).set 3 _)) rfl ?_
        exact ⟨OptP.no HO.out.1 ⟨8, nm, An, nn, cn, Ak, nk, ck⟩, HO.out.2.1.weak (Keep.set4 (Keep.refl (fun j => j = rb) wr) (.inl rfl) _ _ _ _) (fun j hj => by have := HRE.out; omega)⟩
set_option maxRecDepth 100000 in
set_option maxHeartbeats 2000000 in
theorem rrepl_any {vs : List ByteArray} {ws : List Ty} {rsw : List Tv} {Av Aw : Option Addr} {nv cv cw : Nat} (hvb : nv ≤ 140737488355328) (t : Ty) : ∀ (w : World) (X : Nat → Prop) (r : Tv), (∀ i, X i → i < w.heap.size) → t.size ≤ 1000 →
    Rd w X 1 (.slice Av nv cv) nv (strs vs) → Rd w X 4 (.slice Aw nv cw) nv (tflat rsw) → TysV w X rsw ws → TyV w X r t →
    Calls Tryd.prog 45 #[r.val, .slice Av nv cv, .slice Aw nv cw] w fun e w' => OptP X (replT (lookT vs ws) t) e w' ∧ Keep (fun _ => False) w w' := by
  induction t using Ty.ind with
  | h t ih =>
    intro w X r hX hsz hvr hwr hwt h
    by_cases h8 : t.kind = 8
    · exact rrepl_var h8 h hvb hvr hwr hwt
    obtain ⟨k, nm, An, nn, cn, Ak, nk, ck⟩ := r
    obtain ⟨rs0, hnk, hnkb, _, _⟩ := h.kds
    have hkk := h.knd
    have hnm := h.out.2.1
    have hnn := h.out.2.2.1
    have hnr := h.out.2.2.2.1
    have hnb := h.out.1.2.1
    simp only at hnk hnkb hkk hnn hnb hnm hnr
    have hlen : t.kids.length ≤ 1000 := by
      have := length_le_sizeL t.kids
      have := t.size_eq
      omega
    have d8 : (k == 8) = false := by rw [beq_eq_false_iff_ne, hkk]; exact h8
    have hres : replT (lookT vs ws) t = (replL (lookT vs ws) t.kids).map fun l => .mk t.kind t.name t.names l := by rw [replT_eq, if_neg h8]
    have kw : Keep (fun _ => False) w ((w.alloc (.cells #[.int .i64 k, .string nm, .slice An nn cn, .slice Ak nk ck] 25)).alloc (.cells #[.int .i64 0, .string ⟨#[]⟩, .slice none 0 0, .slice none 0 0] 25)) := ((Keep.refl _ w).alloc _).alloc _
    have ax : At ((w.alloc (.cells #[.int .i64 k, .string nm, .slice An nn cn, .slice Ak nk ck] 25)).alloc (.cells #[.int .i64 0, .string ⟨#[]⟩, .slice none 0 0, .slice none 0 0] 25)) w.heap.size 25 #[.int .i64 k, .string nm, .slice An nn cn, .slice Ak nk ck] := (At.new _ _ _).alloc _
    have ar : At ((w.alloc (.cells #[.int .i64 k, .string nm, .slice An nn cn, .slice Ak nk ck] 25)).alloc (.cells #[.int .i64 0, .string ⟨#[]⟩, .slice none 0 0, .slice none 0 0] 25)) (w.heap.size + 1) 25 #[.int .i64 0, .string ⟨#[]⟩, .slice none 0 0, .slice none 0 0] := At.new_at (by simp)
    have h0 : Hid (RqA ((w.alloc (.cells #[.int .i64 k, .string nm, .slice An nn cn, .slice Ak nk ck] 25)).alloc (.cells #[.int .i64 0, .string ⟨#[]⟩, .slice none 0 0, .slice none 0 0] 25)) (fun g => X g ∨ g = w.heap.size ∨ g = w.heap.size + 1) (lookT vs ws) t.kids nk nk (.slice none 0 0) (.int .i64 0) ((w.alloc (.cells #[.int .i64 k, .string nm, .slice An nn cn, .slice Ak nk ck] 25)).alloc (.cells #[.int .i64 0, .string ⟨#[]⟩, .slice none 0 0, .slice none 0 0] 25))) :=
      ⟨0, _, [], [], rfl, rfl, Nat.zero_le _, rfl, ⟨Keep.refl _ _, World.ownsRow_nil _ 0 25 4, trivial, fun g hg => by simp [Value.ownBlock] at hg, by simp [replL]⟩⟩
    have hwsz : ((w.alloc (.cells #[.int .i64 k, .string nm, .slice An nn cn, .slice Ak nk ck] 25)).alloc (.cells #[.int .i64 0, .string ⟨#[]⟩, .slice none 0 0, .slice none 0 0] 25)).heap.size = w.heap.size + 2 := by simp
    have H := Lib.hid (And.intro hX (And.intro h (And.intro hvr (And.intro hwr (And.intro hwt (And.intro ih (And.intro hres (And.intro hsz (And.intro hnm hnr)))))))))
    have HN := Lib.hid (And.intro hnk (And.intro hlen (And.intro hkk hnn)))
    have HW := Lib.hid (And.intro kw (And.intro ax (And.intro ar hwsz)))
    unfold Tv.val
    simp only
    clear h hX hsz h8 hvr hwr hwt hkk hnm hnn hnr hnk hres kw ax ar ih hwsz
    go_enter Tryd.func45, Tryd.ntmps45
    go_wp2_with fail
    generalize ((w.alloc (.cells #[.int .i64 k, .string nm, .slice An nn cn, .slice Ak nk ck] 25)).alloc (.cells #[.int .i64 0, .string ⟨#[]⟩, .slice none 0 0, .slice none 0 0] 25)) = w1 at *
    generalize hre : w.heap.size + 1 = rb at *
    generalize hbe : w.heap.size = bx at *
    have HRE := Lib.hid (And.intro hre hbe)
    clear hre hbe d8
    go_loopg [9, 10] nk (RqA w1 (fun g => X g ∨ g = bx ∨ g = rb) (lookT vs ws) t.kids nk)
    case atStart => exact h0.out
    case round =>
      clear h0
      obtain ⟨i, lv, rs, l, rfl, rfl, hi, rfl, hR⟩ := hrel
      obtain ⟨Al, cl, rfl⟩ := own_slice hR.own
      have axr := hR.keep.at_ HW.out.2.1 (fun x => x)
      have arr := hR.keep.at_ HW.out.2.2.1 (fun x => x)
      have hwr := HW.out.1.trans hR.keep (fun _ _ x => x)
      obtain ⟨xl, x0, x1, x2, x3⟩ := axr.tcells
      have hXM : ∀ j, j < w.heap.size → ((X j ∨ j = bx ∨ j = rb) ∨ (Value.slice Al i cl).ownBlock = some j) → X j := fun j hjl hj => by
        rcases hj with (hj | hj | hj) | hj
        · exact hj
        · have h2 := HRE.out; omega
        · have h2 := HRE.out; omega
        · have h1 := hR.new j hj; have h2 := HRE.out; have h3 := HW.out.2.2.2; omega
      by_cases hlt : i < nk
      · have hXl : ∀ j, ((X j ∨ j = bx ∨ j = rb) ∨ (Value.slice Al i cl).ownBlock = some j) → j < wr.heap.size := fun j hj => by
          rcases hj with (hj | hj | hj) | hj
          · have h1 := H.out.1 j hj; have h2 := hwr.size; have h3 := HRE.out; omega
          · rw [hj]; exact axr.lt
          · rw [hj]; exact arr.lt
          · exact own_lt hR.own hj
        have htb := H.out.2.1.keep hwr (fun _ _ x => x.elim) hXM
        obtain ⟨kd, ⟨qk, qnm, qAn, qnn, qcn, qAk, qnk, qck⟩, b, o, hkd, hqv, hAk, hbz, _, c0, c1, c2, c3⟩ := htb.kid (i := i) hlt
        simp only at c0 c1 c2 c3 hAk
        subst hAk
        have hcr := H.out.2.2.2.2.2.1 kd (Ty.kid_lt (List.mem_of_getElem? hkd)) wr (fun j => (X j ∨ j = bx ∨ j = rb) ∨ (Value.slice Al i cl).ownBlock = some j) ⟨qk, qnm, qAn, qnn, qcn, qAk, qnk, qck⟩ hXl
          (by have h1 := size_mem (List.mem_of_getElem? hkd); have h2 := t.size_eq; have h3 := H.out.2.2.2.2.2.2.2.1; omega)
          ((H.out.2.2.1.mono hXM).keep hwr (fun _ x => x.elim)) ((H.out.2.2.2.1.mono hXM).keep hwr (fun _ x => x.elim)) (H.out.2.2.2.2.1.keep hwr (fun _ _ x => x.elim) hXM) hqv
        unfold Tv.val at hcr
        simp only at hcr
        have HQ := Lib.hid (And.intro hR (And.intro hkd (And.intro axr (And.intro arr hwr))))
        have i0 : (0 : Int) ≤ (i : Int) := by omega
        have i1 : (i : Int) < (nk : Int) := by omega
        have hbig : i + 1 ≤ 1099511627776 := by have := HN.out.2.1; have := HN.out.1; omega
        clear hR hkd hqv hXl hXM axr arr hwr htb
        cases ho : replT (lookT vs ws) kd with
        | none =>
          rw [ho] at hcr
          have hnone : replT (lookT vs ws) t = none := by rw [H.out.2.2.2.2.2.2.1, replL_none HQ.out.2.1 ho]; rfl
          have HO := Lib.hid hnone
          clear ho hnone
          go_wp2_with (go_at_call 45; refine hcr.mono ?_; rintro e w2 ⟨⟨⟨pk, pnm, pAn, pnn, pcn, pAk, pnk, pck⟩, he⟩, hk2⟩; simp only [Tv.val] at he; subst he; have K2 := Lib.hid hk2; have ra := hk2.at_ HQ.out.2.2.2.1 (fun x => x); obtain ⟨x1l, x10, x11, x12, x13⟩ := ra.tcells; have rf0 := ra.frozen 0; have rf1 := ra.frozen 1; have rf2 := ra.frozen 2; have rf3 := ra.frozen 3; clear xl x0 x1 x2 x3; obtain ⟨xl, x0, x1, x2, x3⟩ := (hk2.at_ HQ.out.2.2.1 (fun x => x)).tcells; clear hk2 hcr ra)
          (try simp only [Exit.inBlock, Exit.then])
          have ra := K2.out.at_ HQ.out.2.2.2.1 (fun x => x)
          have hkw := HQ.out.2.2.2.2.trans K2.out (fun _ _ x => x)
          have hkf := (hkw.weak (Keep.set4 (Keep.refl (fun j => j = rb) w2) (.inl rfl) (.int .i64 k) (.string nm) (.slice An nn cn) (.slice (some ⟨b, o, none⟩) nk ck)) (fun j hj => by have h1 := HRE.out; omega)).alloc (.cells #[.int .i64 pk, .string pnm, .slice pAn pnn pcn, .slice pAk pnk pck] 25)
          refine bodyPost_ret (ret_cell rfl rfl (((((ra.set 0 _).set 1 _).set 2 _).set 3 _).alloc _)) rfl ?_
          exact ⟨OptP.no HO.out ⟨k, nm, An, nn, cn, some ⟨b, o, none⟩, nk, ck⟩, hkf⟩
        | some t' =>
          rw [ho] at hcr
          have HO := Lib.hid ho
          clear ho
          go_wp2_with (first
            | (go_at_call 45; refine hcr.mono ?_; rintro e w2 ⟨⟨⟨pk, pnm, pAn, pnn, pcn, pAk, pnk, pck⟩, he, htp⟩, hk2⟩; simp only [Tv.val] at he; subst he; have hown2 := hk2.own HQ.out.1.own (fun _ _ x => x); have H3 := Lib.hid (And.intro hk2 (And.intro htp hown2)); clear hk2 hcr htp hown2)
            | (at_builtin; refine wpList_app rfl (.tmp 66) (.tmp 68) 23 rfl E25 (.slice Al i cl) i (tflat rs) rfl ((H3.out.2.2.alloc _).alloc _) (w2.heap.size + 1) 1 1 #[.int .i64 pk, .string pnm, .slice pAn pnn pcn, .slice pAk pnk pck] rfl (At.new_at (by simp)) rfl (by simp [Value.oneCell']) (by decide) hbig (by decide) ?_))
          intro g cap w5 ho5 hk5 hg5 hgl5
          have H5 := Lib.hid (And.intro ho5 (And.intro hk5 hg5))
          clear ho5 hk5 hg5
          go_wp2_with fail
          go_roundg (nk - (i + 1))
          case measure => omega
          case rel =>
            obtain ⟨ho5, hk5, hg5⟩ := H5.out
            exact ⟨i + 1, _, _, _, rfl, by go_num, by omega, rfl, HQ.out.1.app (r := ⟨pk, pnm, pAn, pnn, pcn, pAk, pnk, pck⟩) HQ.out.2.1 HO.out H3.out.1 H3.out.2.1 (((Keep.refl _ w2).alloc _).alloc _) ho5 hk5 (by first | exact hg5 | simpa using hg5)⟩
      · obtain rfl : i = nk := by omega
        have htk : t.kids.take i = t.kids := List.take_of_length_le (by have := HN.out.1; omega)
        have hrl : replL (lookT vs ws) t.kids = some l := by have := hR.eq; rw [htk] at this; exact this
        have hll : i = l.length := by rw [replL_length hrl]; exact HN.out.1
        have hres : replT (lookT vs ws) t = some (.mk t.kind t.name t.names l) := by rw [H.out.2.2.2.2.2.2.1, hrl]; rfl
        have kx : Keep (fun j => j = bx) wr (wr.setCell ⟨bx, 3, none⟩ (.slice Al i cl)) := Keep.setCell (X := fun j => j = bx) (Keep.refl _ wr) (.inl rfl) _
        have hs4 := Keep.set4 (Keep.refl (fun j => j = rb) (wr.setCell ⟨bx, 3, none⟩ (.slice Al i cl))) (.inl rfl) (.int .i64 k) (.string nm) (.slice An nn cn) (.slice Al i cl)
        have kf := (hwr.weak kx (fun j hj => by have h1 := HRE.out; omega)).weak hs4 (fun j hj => by have h1 := HRE.out; omega)
        have arx := kx.at_ arr (by have h1 := HRE.out; omega)
        have hty : TyV (((((wr.setCell ⟨bx, 3, none⟩ (.slice Al i cl)).setCell ⟨rb, 0, none⟩ (.int .i64 k)).setCell ⟨rb, 1, none⟩ (.string nm)).setCell ⟨rb, 2, none⟩ (.slice An nn cn)).setCell ⟨rb, 3, none⟩ (.slice Al i cl)) X ⟨k, nm, An, nn, cn, Al, i, cl⟩ (.mk t.kind t.name t.names l) := by
          refine TyV.mk (t := .mk t.kind t.name t.names l) (rs := rs) ⟨HN.out.2.2.1, hnb, hnkb⟩ H.out.2.2.2.2.2.2.2.2.1 HN.out.2.2.2 (H.out.2.2.2.2.2.2.2.2.2.keep kf (fun _ x => x.elim)) hll ?_ ?_
          · refine Rd.of_own (hs4.own (kx.own hR.own (fun g hg e => ?_)) (fun g hg e => ?_)) (fun g hg hx => ?_)
            · have h1 := hR.new g hg; have h2 := HRE.out; have h3 := HW.out.2.2.2; omega
            · have h1 := hR.new g hg; have h2 := HRE.out; have h3 := HW.out.2.2.2; omega
            · have h1 := hR.new g hg; have h2 := HRE.out; have h3 := HW.out.2.2.2; have h4 := H.out.1 g hx; omega
          · exact (hR.tys.keep (Z := fun j => X j ∨ j = rb) kx (fun j _ hj => .inl (.inr (.inl hj))) (fun j _ hx => hx.elim (fun h => .inl (.inl h)) (fun h => .inl (.inr (.inr h))))).keep hs4 (fun j _ hj => .inr hj) (fun j _ hx => .inl hx)
        obtain ⟨x1l, x10, x11, x12, x13⟩ := arr.tcells
        have xf := axr.frozen 3
        have rf0 := arr.frozen 0
        have rf1 := arr.frozen 1
        have rf2 := arr.frozen 2
        have rf3 := arr.frozen 3
        have hne : ¬ bx = rb := by have h1 := HRE.out; omega
        have hne' : ¬ rb = bx := by have h1 := HRE.out; omega
        have HF := Lib.hid (And.intro arx (And.intro kf (And.intro hty hres)))
        clear hR hwr axr arr htk hrl hll hres hs4 kf hty kx arx hXM
        go_wp2_with fail
        (try simp only [Exit.inBlock, Exit.then])
        refine bodyPost_ret (ret_cell rfl rfl ((((HF.out.1.set 0 _).set 1 _).set 2 _).set 3 _)) rfl ?_
        exact ⟨OptP.yes (r := ⟨k, nm, An, nn, cn, Al, i, cl⟩) HF.out.2.2.2 HF.out.2.2.1, HF.out.2.1⟩
end Go.Proofs.YtbanpohholnkaaaDoor

namespace Go.Proofs.YtbanpohholnkaaaDoor
open Go.RowKit

set_option maxRecDepth 100000 in
set_option maxHeartbeats 2000000 in
theorem rresolve_any {w : World} {X : Nat → Prop} {r : Tv} {t : Ty} {vs : List ByteArray} {ws : List Ty} {rs : List Tv} {Av Aw : Option Addr} {nv cv nw cw : Nat} (hX : ∀ i, X i → i < w.heap.size) (h : TyV w X r t) (hvb : nv ≤ 140737488355328)
    (hvr : Rd w X 1 (.slice Av nv cv) nv (strs vs)) (hwr : Rd w X 4 (.slice Aw nw cw) nw (tflat rs)) (hwt : TysV w X rs ws) :
    Calls Tryd.prog 24 #[r.val, .slice Av nv cv, .slice Aw nw cw] w fun e w' => ResP X (resolveT vs ws t) e w' ∧ Keep (fun _ => False) w w' := by
  obtain ⟨k, nm, An, nn, cn, Ak, nk, ck⟩ := r
  have hlv : vs.length = nv := hvr.slen
  have hlw : ws.length = nw := by rw [← hwt.len]; exact hwr.nlen
  have kw : Keep (fun _ => False) w ((w.alloc (.cells #[.int .i64 k, .string nm, .slice An nn cn, .slice Ak nk ck] 25)).alloc (.cells #[.int .i64 0, .string ⟨#[]⟩, .slice none 0 0, .slice none 0 0] 25)) := ((Keep.refl _ w).alloc _).alloc _
  have ax : At ((w.alloc (.cells #[.int .i64 k, .string nm, .slice An nn cn, .slice Ak nk ck] 25)).alloc (.cells #[.int .i64 0, .string ⟨#[]⟩, .slice none 0 0, .slice none 0 0] 25)) w.heap.size 25 #[.int .i64 k, .string nm, .slice An nn cn, .slice Ak nk ck] := (At.new _ _ _).alloc _
  have ar : At ((w.alloc (.cells #[.int .i64 k, .string nm, .slice An nn cn, .slice Ak nk ck] 25)).alloc (.cells #[.int .i64 0, .string ⟨#[]⟩, .slice none 0 0, .slice none 0 0] 25)) (w.heap.size + 1) 25 #[.int .i64 0, .string ⟨#[]⟩, .slice none 0 0, .slice none 0 0] := At.new_at (by simp)
  by_cases hne : nv = nw
  rotate_left
  · have hres : resolveT vs ws t = (none, 1) := by unfold resolveT; rw [if_pos (by omega)]
    have d1 : ((nv : Int) != (nw : Int)) = true := by rw [bne_iff_ne]; omega
    have f0 := ar.frozen 0
    have f1 := ar.frozen 1
    have f2 := ar.frozen 2
    have f3 := ar.frozen 3
    have H := Lib.hid (And.intro kw (And.intro ar hres))
    unfold Tv.val
    simp only
    clear hX h hvr hwr hwt hlv hlw kw ax ar hne hres
    go_enter Tryd.func24, Tryd.ntmps24
    go_wp2_with fail
    (try simp only [Exit.inBlock, Exit.then])
    refine bodyPost_ret (ret_cell rfl rfl H.out.2.1) rfl ?_
    exact ⟨ResP.no H.out.2.2, H.out.1⟩
  subst hne
  have H := Lib.hid (And.intro hX (And.intro h (And.intro hvr (And.intro hwr (And.intro hwt (And.intro hlv hlw))))))
  have HW := Lib.hid (And.intro kw (And.intro ax ar))
  unfold Tv.val
  simp only
  clear hX h hvr hwr hwt hlv hlw kw ax ar
  go_enter Tryd.func24, Tryd.ntmps24
  go_upto_region 3 with fail
  · generalize ((w.alloc (.cells #[.int .i64 k, .string nm, .slice An nn cn, .slice Ak nk ck] 25)).alloc (.cells #[.int .i64 0, .string ⟨#[]⟩, .slice none 0 0, .slice none 0 0] 25)) = wr at *
    · generalize hre : w.heap.size + 1 = rb at *
      generalize hbe : w.heap.size = bx at *
      have HRE := Lib.hid (And.intro hre hbe)
      clear hre hbe
      have hXl : ∀ j, (X j ∨ j = rb) → j < wr.heap.size := fun j hj => by
        rcases hj with hj | hj
        · have h1 := H.out.1 j hj; have h2 := HW.out.1.size; have h3 := HRE.out; omega
        · rw [hj]; exact HW.out.2.2.lt
      have hXM : ∀ j, j < w.heap.size → (X j ∨ j = rb) → X j := fun j hjl hj => by
        rcases hj with hj | hj
        · exact hj
        · have h1 := HRE.out; omega
      have HM := Lib.hid (And.intro trivial (And.intro HW.out.1 (And.intro hXl (And.intro hXM (And.intro HW.out.2.1 HW.out.2.2)))))
      clear hXl hXM
      have HC : Hid (∀ w', Keep (fun _ => False) wr w' → (bx < w'.heap.size ∧ w'.cell? ⟨bx, 0, none⟩ = some (.int .i64 k) ∧ w'.cell? ⟨bx, 1, none⟩ = some (.string nm) ∧ w'.cell? ⟨bx, 2, none⟩ = some (.slice An nn cn) ∧ w'.cell? ⟨bx, 3, none⟩ = some (.slice Ak nk ck)) ∧ (rb < w'.heap.size ∧ w'.cell? ⟨rb, 0, none⟩ = some (.int .i64 0) ∧ w'.cell? ⟨rb, 1, none⟩ = some (.string ⟨#[]⟩) ∧ w'.cell? ⟨rb, 2, none⟩ = some (.slice none 0 0) ∧ w'.cell? ⟨rb, 3, none⟩ = some (.slice none 0 0)) ∧ w'.frozen? ⟨rb, 0, none⟩ = false ∧ w'.frozen? ⟨rb, 1, none⟩ = false ∧ w'.frozen? ⟨rb, 2, none⟩ = false ∧ w'.frozen? ⟨rb, 3, none⟩ = false) := fun w' hk => ⟨(hk.at_ HM.out.2.2.2.2.1 (fun x => x)).tcells, (hk.at_ HM.out.2.2.2.2.2 (fun x => x)).tcells, (hk.at_ HM.out.2.2.2.2.2 (fun x => x)).frozen 0, (hk.at_ HM.out.2.2.2.2.2 (fun x => x)).frozen 1, (hk.at_ HM.out.2.2.2.2.2 (fun x => x)).frozen 2, (hk.at_ HM.out.2.2.2.2.2 (fun x => x)).frozen 3⟩
      have KC : Hid (Keep (fun _ => False) wr wr) := Keep.refl _ _
      have KF : Hid (∀ w' v0 v1 v2 v3, Keep (fun _ => False) wr w' → Keep (fun _ => False) w ((((w'.setCell ⟨rb, 0, none⟩ v0).setCell ⟨rb, 1, none⟩ v1).setCell ⟨rb, 2, none⟩ v2).setCell ⟨rb, 3, none⟩ v3)) := fun w' v0 v1 v2 v3 hk => (HM.out.2.1.trans hk (fun _ _ x => x)).weak (Keep.set4 (Keep.refl (fun g => g = rb) w') (.inl rfl) v0 v1 v2 v3) (fun g hg => by have h1 := HRE.out; omega)
      have HT : Hid (∀ w', Keep (fun _ => False) wr w' → TyV w' (fun j => X j ∨ j = rb) ⟨k, nm, An, nn, cn, Ak, nk, ck⟩ t) := fun w' hk => H.out.2.1.keep (HM.out.2.1.trans hk (fun _ _ x => x)) (fun _ _ x => x.elim) HM.out.2.2.2.1
      have HSz : Hid (∀ w', Keep (fun _ => False) wr w' → Calls Tryd.prog 43 #[.agg #[.int .i64 k, .string nm, .slice An nn cn, .slice Ak nk ck]] w' fun e w'' => e = .returned (.int .i64 (min t.size 201 : Nat)) ∧ Keep (fun _ => False) w' w'') := fun w' hk => rSize_any (r := ⟨k, nm, An, nn, cn, Ak, nk, ck⟩) (HT.out w' hk)
      have HHt : Hid (∀ w', Keep (fun _ => False) wr w' → Calls Tryd.prog 44 #[.agg #[.int .i64 k, .string nm, .slice An nn cn, .slice Ak nk ck]] w' fun e w'' => e = .returned (.int .i64 (min t.ht 17 : Nat)) ∧ Keep (fun _ => False) w' w'') := fun w' hk => rHeight_any (r := ⟨k, nm, An, nn, cn, Ak, nk, ck⟩) (HT.out w' hk)
      obtain ⟨⟨xl, x0, x1, x2, x3⟩, ⟨rl, r0, r1, r2, r3⟩, f0, f1, f2, f3⟩ := HC.out wr KC.out
      have hll : ¬ vs.length ≠ ws.length := by have h1 := H.out.2.2.2.2.2; omega
      have HLL := Lib.hid hll
      clear hll
      by_cases h200 : 200 < t.size
      · have HR := Lib.hid (show resolveT vs ws t = (none, 9) by unfold resolveT; rw [if_neg HLL.out, if_pos (.inl h200)])
        rw [show min t.size 201 = 201 by omega] at HSz
        clear h200
        go_wp2_with (go_at_call 43; (with_reducible refine (HSz.out _ KC.out).mono ?_); rintro e w2 ⟨rfl, hk⟩; have KN := Lib.hid (KC.out.trans hk (fun _ _ x => x)); clear KC hk xl x0 x1 x2 x3 rl r0 r1 r2 r3 f0 f1 f2 f3; have KC := KN; clear KN; obtain ⟨⟨xl, x0, x1, x2, x3⟩, ⟨rl, r0, r1, r2, r3⟩, f0, f1, f2, f3⟩ := HC.out _ KC.out)
        (try simp only [Exit.inBlock, Exit.then])
        have ra := KC.out.at_ HM.out.2.2.2.2.2 (fun x => x)
        refine bodyPost_ret (ret_cell rfl rfl ((((ra.set 0 _).set 1 _).set 2 _).set 3 _)) rfl ?_
        exact ⟨ResP.no HR.out, KF.out _ (.int .i64 0) (.string ⟨#[]⟩) (.slice none 0 0) (.slice none 0 0) KC.out⟩
      · rw [show min t.size 201 = t.size by omega] at HSz
        have d200 : decide (200 < (t.size : Int)) = false := by simp; omega
        have HS2 := Lib.hid h200
        clear h200
        by_cases h16 : 16 < t.ht
        · have HR := Lib.hid (show resolveT vs ws t = (none, 9) by unfold resolveT; rw [if_neg HLL.out, if_pos (.inr h16)])
          rw [show min t.ht 17 = 17 by omega] at HHt
          clear h16
          generalize t.size = ts at *
          go_wp2_with (first | (go_at_call 43; (with_reducible refine (HSz.out _ KC.out).mono ?_); rintro e w2 ⟨rfl, hk⟩; have KN := Lib.hid (KC.out.trans hk (fun _ _ x => x)); clear KC hk xl x0 x1 x2 x3 rl r0 r1 r2 r3 f0 f1 f2 f3; have KC := KN; clear KN; obtain ⟨⟨xl, x0, x1, x2, x3⟩, ⟨rl, r0, r1, r2, r3⟩, f0, f1, f2, f3⟩ := HC.out _ KC.out) | (go_at_call 44; (with_reducible refine (HHt.out _ KC.out).mono ?_); rintro e w3 ⟨rfl, hk⟩; have KN := Lib.hid (KC.out.trans hk (fun _ _ x => x)); clear KC hk xl x0 x1 x2 x3 rl r0 r1 r2 r3 f0 f1 f2 f3; have KC := KN; clear KN; obtain ⟨⟨xl, x0, x1, x2, x3⟩, ⟨rl, r0, r1, r2, r3⟩, f0, f1, f2, f3⟩ := HC.out _ KC.out))
          (try simp only [Exit.inBlock, Exit.then])
          have ra := KC.out.at_ HM.out.2.2.2.2.2 (fun x => x)
          refine bodyPost_ret (ret_cell rfl rfl ((((ra.set 0 _).set 1 _).set 2 _).set 3 _)) rfl ?_
          exact ⟨ResP.no HR.out, KF.out _ (.int .i64 0) (.string ⟨#[]⟩) (.slice none 0 0) (.slice none 0 0) KC.out⟩
        · rw [show min t.ht 17 = t.ht by omega] at HHt
          have d16 : decide (16 < (t.ht : Int)) = false := by simp; omega
          have hre : resolveT vs ws t = (match replT (lookT vs ws) t with | none => (none, 9) | some r => match NormT r with | none => (none, 9) | some n => (some n, 0)) := by
            unfold resolveT
            rw [if_neg HLL.out, if_neg (by have := HS2.out; omega)]
            try (
              cases replT (lookT vs ws) t with
              | none => rfl
              | some r => cases NormT r <;> rfl)
          have HRp : Hid (∀ w', Keep (fun _ => False) wr w' → Calls Tryd.prog 45 #[.agg #[.int .i64 k, .string nm, .slice An nn cn, .slice Ak nk ck], .slice Av nv cv, .slice Aw nv cw] w' fun e w'' => OptP (fun j => X j ∨ j = rb) (replT (lookT vs ws) t) e w'' ∧ Keep (fun _ => False) w' w'') := fun w' hk => rrepl_any (rsw := rs) hvb t w' (fun j => X j ∨ j = rb) ⟨k, nm, An, nn, cn, Ak, nk, ck⟩ (fun j hj => by have h1 := HM.out.2.2.1 j hj; have h2 := hk.size; omega) (by have := HS2.out; omega) ((H.out.2.2.1.mono HM.out.2.2.2.1).keep (HM.out.2.1.trans hk (fun _ _ x => x)) (fun _ x => x.elim)) ((H.out.2.2.2.1.mono HM.out.2.2.2.1).keep (HM.out.2.1.trans hk (fun _ _ x => x)) (fun _ x => x.elim)) (H.out.2.2.2.2.1.keep (HM.out.2.1.trans hk (fun _ _ x => x)) (fun _ _ x => x.elim) HM.out.2.2.2.1) (HT.out w' hk)
          clear h16
          generalize t.size = ts at *
          generalize t.ht = th at *
          cases hro : replT (lookT vs ws) t with
          | none =>
            rw [hro] at hre HRp
            have HR := Lib.hid (show resolveT vs ws t = (none, 9) from hre)
            clear hro hre
            go_wp2_with (first | (go_at_call 43; (with_reducible refine (HSz.out _ KC.out).mono ?_); rintro e w2 ⟨rfl, hk⟩; have KN := Lib.hid (KC.out.trans hk (fun _ _ x => x)); clear KC hk xl x0 x1 x2 x3 rl r0 r1 r2 r3 f0 f1 f2 f3; have KC := KN; clear KN; obtain ⟨⟨xl, x0, x1, x2, x3⟩, ⟨rl, r0, r1, r2, r3⟩, f0, f1, f2, f3⟩ := HC.out _ KC.out) | (go_at_call 44; (with_reducible refine (HHt.out _ KC.out).mono ?_); rintro e w3 ⟨rfl, hk⟩; have KN := Lib.hid (KC.out.trans hk (fun _ _ x => x)); clear KC hk xl x0 x1 x2 x3 rl r0 r1 r2 r3 f0 f1 f2 f3; have KC := KN; clear KN; obtain ⟨⟨xl, x0, x1, x2, x3⟩, ⟨rl, r0, r1, r2, r3⟩, f0, f1, f2, f3⟩ := HC.out _ KC.out) | (go_at_call 45; (with_reducible refine (HRp.out _ KC.out).mono ?_); rintro e w4 ⟨⟨⟨pk, pnm, pAn, pnn, pcn, pAk, pnk, pck⟩, he⟩, hk⟩; simp only [Tv.val] at he; subst he; have KN := Lib.hid (KC.out.trans hk (fun _ _ x => x)); clear KC hk xl x0 x1 x2 x3 rl r0 r1 r2 r3 f0 f1 f2 f3; have KC := KN; clear KN; obtain ⟨⟨xl, x0, x1, x2, x3⟩, ⟨rl, r0, r1, r2, r3⟩, f0, f1, f2, f3⟩ := HC.out _ KC.out))
            (try simp only [Exit.inBlock, Exit.then])
            have ra := KC.out.at_ HM.out.2.2.2.2.2 (fun x => x)
            refine bodyPost_ret (ret_cell rfl rfl (((((ra.set 0 _).set 1 _).set 2 _).set 3 _).alloc _)) rfl ?_
            exact ⟨ResP.no HR.out, (KF.out _ (.int .i64 0) (.string ⟨#[]⟩) (.slice none 0 0) (.slice none 0 0) KC.out).alloc _⟩
          | some rr =>
            rw [hro] at hre HRp
            simp only at hre
            have HRR := Lib.hid hre
            clear hro hre
            cases hno : NormT rr with
            | none =>
              have HR := Lib.hid (show resolveT vs ws t = (none, 9) by rw [HRR.out, hno])
              have HNo := Lib.hid hno
              clear hno
              go_wp2_with (first | (go_at_call 43; (with_reducible refine (HSz.out _ KC.out).mono ?_); rintro e w2 ⟨rfl, hk⟩; have KN := Lib.hid (KC.out.trans hk (fun _ _ x => x)); clear KC hk xl x0 x1 x2 x3 rl r0 r1 r2 r3 f0 f1 f2 f3; have KC := KN; clear KN; obtain ⟨⟨xl, x0, x1, x2, x3⟩, ⟨rl, r0, r1, r2, r3⟩, f0, f1, f2, f3⟩ := HC.out _ KC.out) | (go_at_call 44; (with_reducible refine (HHt.out _ KC.out).mono ?_); rintro e w3 ⟨rfl, hk⟩; have KN := Lib.hid (KC.out.trans hk (fun _ _ x => x)); clear KC hk xl x0 x1 x2 x3 rl r0 r1 r2 r3 f0 f1 f2 f3; have KC := KN; clear KN; obtain ⟨⟨xl, x0, x1, x2, x3⟩, ⟨rl, r0, r1, r2, r3⟩, f0, f1, f2, f3⟩ := HC.out _ KC.out) | (go_at_call 45; (with_reducible refine (HRp.out _ KC.out).mono ?_); rintro e w4 ⟨⟨⟨pk, pnm, pAn, pnn, pcn, pAk, pnk, pck⟩, he, hpv⟩, hk⟩; simp only [Tv.val] at he; subst he; have KN := Lib.hid (KC.out.trans hk (fun _ _ x => x)); clear KC hk xl x0 x1 x2 x3 rl r0 r1 r2 r3 f0 f1 f2 f3; have KC := KN; clear KN; obtain ⟨⟨xl, x0, x1, x2, x3⟩, ⟨rl, r0, r1, r2, r3⟩, f0, f1, f2, f3⟩ := HC.out _ KC.out; have hn := rNorm_any (X := (fun j => X j ∨ j = rb)) (r := ⟨pk, pnm, pAn, pnn, pcn, pAk, pnk, pck⟩) (t := rr) (fun j hj => by have h1 := HM.out.2.2.1 j hj; have h2 := KC.out.size; have h3 : w4.heap.size ≤ (w4.alloc (.cells #[.int .i64 pk, .string pnm, .slice pAn pnn pcn, .slice pAk pnk pck] 25)).heap.size := ((Keep.refl (fun _ => False) w4).alloc (.cells #[.int .i64 pk, .string pnm, .slice pAn pnn pcn, .slice pAk pnk pck] 25)).size; omega) (hpv.step ((Keep.refl (fun _ => False) w4).alloc (.cells #[.int .i64 pk, .string pnm, .slice pAn pnn pcn, .slice pAk pnk pck] 25))); rw [HNo.out] at hn; unfold Tv.val at hn; simp only at hn; clear hpv) | (go_at_call 26; refine hn.mono ?_; rintro e w5 ⟨he, hk⟩; unfold NormP at he; simp only [Tv.val, tv0] at he; subst he; have KN := Lib.hid ((KC.out.alloc _).trans hk (fun _ _ x => x)); clear KC hk hn xl x0 x1 x2 x3 rl r0 r1 r2 r3 f0 f1 f2 f3; have KC := KN; clear KN; obtain ⟨⟨xl, x0, x1, x2, x3⟩, ⟨rl, r0, r1, r2, r3⟩, f0, f1, f2, f3⟩ := HC.out _ KC.out))
              (try simp only [Exit.inBlock, Exit.then])
              have ra := KC.out.at_ HM.out.2.2.2.2.2 (fun x => x)
              refine bodyPost_ret (ret_cell rfl rfl ((((ra.set 0 _).set 1 _).set 2 _).set 3 _)) rfl ?_
              exact ⟨ResP.no HR.out, KF.out _ (.int .i64 0) (.string ⟨#[]⟩) (.slice none 0 0) (.slice none 0 0) KC.out⟩
            | some n =>
              have HR := Lib.hid (show resolveT vs ws t = (some n, 0) by rw [HRR.out, hno])
              have HNo := Lib.hid hno
              clear hno
              go_wp2_with (first | (go_at_call 43; (with_reducible refine (HSz.out _ KC.out).mono ?_); rintro e w2 ⟨rfl, hk⟩; have KN := Lib.hid (KC.out.trans hk (fun _ _ x => x)); clear KC hk xl x0 x1 x2 x3 rl r0 r1 r2 r3 f0 f1 f2 f3; have KC := KN; clear KN; obtain ⟨⟨xl, x0, x1, x2, x3⟩, ⟨rl, r0, r1, r2, r3⟩, f0, f1, f2, f3⟩ := HC.out _ KC.out) | (go_at_call 44; (with_reducible refine (HHt.out _ KC.out).mono ?_); rintro e w3 ⟨rfl, hk⟩; have KN := Lib.hid (KC.out.trans hk (fun _ _ x => x)); clear KC hk xl x0 x1 x2 x3 rl r0 r1 r2 r3 f0 f1 f2 f3; have KC := KN; clear KN; obtain ⟨⟨xl, x0, x1, x2, x3⟩, ⟨rl, r0, r1, r2, r3⟩, f0, f1, f2, f3⟩ := HC.out _ KC.out) | (go_at_call 45; (with_reducible refine (HRp.out _ KC.out).mono ?_); rintro e w4 ⟨⟨⟨pk, pnm, pAn, pnn, pcn, pAk, pnk, pck⟩, he, hpv⟩, hk⟩; simp only [Tv.val] at he; subst he; have KN := Lib.hid (KC.out.trans hk (fun _ _ x => x)); clear KC hk xl x0 x1 x2 x3 rl r0 r1 r2 r3 f0 f1 f2 f3; have KC := KN; clear KN; obtain ⟨⟨xl, x0, x1, x2, x3⟩, ⟨rl, r0, r1, r2, r3⟩, f0, f1, f2, f3⟩ := HC.out _ KC.out; have hn := rNorm_any (X := (fun j => X j ∨ j = rb)) (r := ⟨pk, pnm, pAn, pnn, pcn, pAk, pnk, pck⟩) (t := rr) (fun j hj => by have h1 := HM.out.2.2.1 j hj; have h2 := KC.out.size; have h3 : w4.heap.size ≤ (w4.alloc (.cells #[.int .i64 pk, .string pnm, .slice pAn pnn pcn, .slice pAk pnk pck] 25)).heap.size := ((Keep.refl (fun _ => False) w4).alloc (.cells #[.int .i64 pk, .string pnm, .slice pAn pnn pcn, .slice pAk pnk pck] 25)).size; omega) (hpv.step ((Keep.refl (fun _ => False) w4).alloc (.cells #[.int .i64 pk, .string pnm, .slice pAn pnn pcn, .slice pAk pnk pck] 25))); rw [HNo.out] at hn; unfold Tv.val at hn; simp only at hn; clear hpv) | (go_at_call 26; refine hn.mono ?_; rintro e w5 ⟨⟨⟨zk, znm, zAn, znn, zcn, zAk, znk, zck⟩, he, hzv⟩, hk⟩; simp only [Tv.val] at he; subst he; have HZV := Lib.hid hzv; have KN := Lib.hid ((KC.out.alloc _).trans hk (fun _ _ x => x)); clear KC hk hn hzv xl x0 x1 x2 x3 rl r0 r1 r2 r3 f0 f1 f2 f3; have KC := KN; clear KN; obtain ⟨⟨xl, x0, x1, x2, x3⟩, ⟨rl, r0, r1, r2, r3⟩, f0, f1, f2, f3⟩ := HC.out _ KC.out))
              (try simp only [Exit.inBlock, Exit.then])
              have ra := KC.out.at_ HM.out.2.2.2.2.2 (fun x => x)
              refine bodyPost_ret (ret_cell rfl rfl ((((ra.set 0 _).set 1 _).set 2 _).set 3 _)) rfl ?_
              exact ⟨ResP.yes (q := ⟨zk, znm, zAn, znn, zcn, zAk, znk, zck⟩) HR.out (HZV.out.keep (Keep.set4 (Keep.refl (fun g => g = rb) w5) (.inl rfl) (.int .i64 zk) (.string znm) (.slice zAn znn zcn) (.slice zAk znk zck)) (fun _ _ hx => .inr hx) (fun _ _ hx => .inl hx)), KF.out _ _ _ _ _ KC.out⟩
end Go.Proofs.YtbanpohholnkaaaDoor
