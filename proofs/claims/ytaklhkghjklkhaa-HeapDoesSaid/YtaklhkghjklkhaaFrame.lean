/-
  What each law of this seat needs around its walk: the row's last step; slices made, slots stored. Conditions: none; plain lemmas.
-/
import Derived.Test.YtaklhkghjklkhaaAwake
import Derived.ProofKit
import Derived.OpenShut
namespace Go.Proofs.Ytaklhkghjklkhaa
open Go.RowKit Go.ChangeShapes Go.WideShapes Go.ChangeAt

theorem ownP : ownKnob Try.prog.godebug = none := by kernel_rfl
theorem laidOut : laidOutB Try.prog = true := by kernel_rfl

section
variable {H : Type} {enc : TypeId × Value → H} {P : Program}
theorem trodAll_stays {W W' : World} (hl : laidOutB P = true) (hb : Below W.heap.size W W') : ∀ (ts : List TypeId) (vs : List Value) (ds : List (DataW H)) (ps : List MemPlace), (ts.all fun t => P.readableRec t && decide (t < P.types.size)) = true →
    (∀ x ∈ ps, x.block < W.heap.size) → DataW.TrodAll enc P W 0 (fun _ => true) true ts vs ds ps → DataW.TrodAll enc P W' 0 (fun b => decide (b < W.heap.size)) true ts vs ds ps
  | [], vs, ds, ps, _, _, h => by
    obtain ⟨rfl, rfl, rfl⟩ := trodAll_nil h
    exact trodAll_mk0
  | t :: ts, vs, ds, ps, hr, hlt, h => by
    obtain ⟨v, vs', d, ds', p, q, rfl, rfl, rfl, h1, h2⟩ := trodAll_cons h
    simp only [List.all_cons, Bool.and_eq_true, decide_eq_true_eq] at hr
    exact trodAll_cons_mk (Below.trod hl hr.1.1 hr.1.2 h1 hb (fun x hx => hlt x (by simp [hx]))) (trodAll_stays hl hb ts vs' ds' q hr.2 (fun x hx => hlt x (by simp [hx])) h2)
theorem law_post {f : Func} {s : ChangeSpec} {apart fresh handsOn : Bool} {W W' : World} {args : Array Value} {ds gs : List (DataW H)} {before : List MemPlace} {T : TypeId} (hl : laidOutB P = true)
    (hp : (f.params.toList.all fun t => P.readableRec t && decide (t < P.types.size)) = true) (hres : f.resultTypes = #[T]) (hT : P.underlying T = some .bool) (hvs : s.vars = [])
    (hW : DataW.Whole enc P f.params.toList s.vars apart W args.toList ds gs before) (h1 : (s.fn H (ds ++ gs)).results = [.lit (.bool true)]) (h2 : (s.fn H (ds ++ gs)).args = ds) (h3 : (s.fn H (ds ++ gs)).vars = [])
    (hk : Keep (fun _ => False) W W') : s.post enc P f apart fresh handsOn false W args (.bool true) W' := by
  have hb : Below W.heap.size W W' := hk.below (Nat.le_refl _) (fun _ x => x.elim)
  have hlt : ∀ x ∈ before, x.block < W.heap.size := fun x hx => hW.lt x hx
  have hW' := hW
  obtain ⟨p, q, hA, hV, rfl, _⟩ := hW
  rw [hvs] at hV
  refine ⟨ds, gs, p ++ q, [], p, [], hW', ?_, ?_, ?_, hb.frame _, fun h => nomatch h⟩
  · rw [h1, hres]
    exact trodAll_mk1 (shut_bool hT _)
  · rw [h2]
    exact trodAll_stays hl hb _ _ _ _ hp (fun x hx => hlt x (by simp [hx])) hA
  · rw [h3, hvs]
    rfl
end

theorem sflat_set (l : List Sl) (i : Nat) (c d : Sl) (h : l[i]? = some d) : sflat (l.set i c) = ((sflat l).set (i * 2) (.bool c.ref)).set (i * 2 + 1) (.int .i64 c.n) := by
  induction l generalizing i with
  | nil => simp at h
  | cons x l ih =>
    cases i with
    | zero => simp [sflat_cons, Sl.vals]
    | succ i =>
      simp only [List.getElem?_cons_succ] at h
      have e : (i + 1) * 2 = i * 2 + 1 + 1 := by omega
      simp only [List.set_cons_succ, sflat_cons, ih i h, e, Sl.vals, List.cons_append, List.nil_append]
def z0 : Sl := ⟨false, 0⟩
theorem made_slots (n : Nat) : (madeCells (Value.cells (.agg #[.bool false, .int .i64 0])) (n * 2)).toList = sflat (List.replicate n z0) := by
  induction n with
  | zero => simp [madeCells, sflat]
  | succ n ih =>
    have e1 : List.replicate (n + 1) z0 = List.replicate n z0 ++ [z0] := by rw [List.replicate_succ']
    rw [e1, sflat_append, ← ih]
    apply List.ext_getElem?
    intro j
    have hs : ∀ m, (madeCells (Value.cells (.agg #[.bool false, .int .i64 0])) m).size = m := fun m => by simp [madeCells]
    by_cases hj : j < n * 2
    · rw [List.getElem?_append_left (by simp [hs]; exact hj)]
      simp [madeCells, hj, show j < (n + 1) * 2 by omega]
    · rw [List.getElem?_append_right (by simp [hs]; omega)]
      simp only [Array.length_toList, hs]
      by_cases h2 : j < (n + 1) * 2
      · rcases (by omega : j = n * 2 ∨ j = n * 2 + 1) with rfl | rfl
        · simp [madeCells, sflat, z0, Sl.vals, Value.cells, show n * 2 < (n + 1) * 2 by omega, Nat.mul_mod_left]
        · have : (n * 2 + 1) % 2 = 1 := by omega
          simp [madeCells, sflat, z0, Sl.vals, Value.cells, show n * 2 + 1 < (n + 1) * 2 by omega, this]
      · rw [List.getElem?_eq_none (by simp [hs]; omega), List.getElem?_eq_none (by simp [sflat, z0, Sl.vals]; omega)]
/-- make([]api.Slot, n) -/
theorem wpList_mkSl {w : World} {ops : Array Oper} {rest : List Oper} {o : Oper} {a : Act} {Q : Exit → Act → World → Prop} (hg : o.guard = none) (l c : Operand) (hop : o.op = Op.makeSlice 28 l c) (L : Int) (n : Nat) (hl : a.eval l = .int .i64 L) (hc : a.eval c = .int .i64 L) (hL : L = (n : Int)) (hn : n ≤ 1000000)
    (hK : ∀ g w', w'.ownsRow 0 32 2 (.slice (some ⟨g, 0, none⟩) n n) n (sflat (List.replicate n z0)) → Keep (fun _ => False) w w' → g = w.heap.size → g < w'.heap.size → wpList Try.prog ops Q rest (a.put o.dst (.slice (some ⟨g, 0, none⟩) n n)) w') :
    wpList Try.prog ops Q (o :: rest) a w := by
  obtain ⟨hu, ⟨i, z, hi, hz, hsz, hb2, hzs⟩, hpos⟩ := E32
  have hz' : z = .agg #[.bool false, .int .i64 0] := by
    have h : (Try.prog.info? 32).map (fun i => i.zero) = some (some (.agg #[.bool false, .int .i64 0])) := by kernel_rfl
    rw [hi] at h
    simp only [Option.map_some, Option.some.injEq] at h
    rw [hz] at h
    exact Option.some.inj h
  subst hz'
  refine wpList_make_full w hg l c 28 hop 0 32 i _ 2 hu hi hz hsz .i64 .i64 L L n hl hc hL hL (by rw [hb2]; omega) (by unfold maxLen; omega) (Nat.zero_le _) ?_
  intro w' ho hgr
  rw [made_slots] at ho
  refine hK w.heap.size w' ho ((Keep.of_grown hgr).mono (fun i _ h => by cases h)) rfl ?_
  rcases own_cases ho with ⟨h, _⟩ | ⟨g, cap, h, _, hlt⟩
  · cases h
  · simp only [Value.slice.injEq, Option.some.injEq, Addr.mk.injEq, and_true] at h
    obtain ⟨rfl, _⟩ := h
    exact hlt
end Go.Proofs.Ytaklhkghjklkhaa
