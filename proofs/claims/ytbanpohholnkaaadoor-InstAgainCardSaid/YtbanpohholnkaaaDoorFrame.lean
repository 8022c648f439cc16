/-
  What each law of this seat needs around its walk: the listed tables, the witness, the row's last step. Conditions: none; plain lemmas.
-/
import Derived.Test.YtbanpohholnkaaaDoorGS
import Derived.Test.YtbanpohholnkaaaDoorOpen
import Derived.LaidMore
import Derived.Stop.Joined
import Derived.Stop.LaidErr
import Derived.Lib.LaidTab
namespace Go.Proofs.YtbanpohholnkaaaDoor
open Go.RowKit Go.ChangeShapes Go.WideShapes Go.ChangeAt

theorem ownP : ownKnob Tryd.prog.godebug = none := by kernel_rfl
theorem laidOut : laidOutB Tryd.prog = true := by kernel_rfl
section
variable {H : Type} {enc : TypeId × Value → H} {P : Program}
theorem trodAll_stays {W W' : World} (hl : laidOutB P = true) (hb : Below W.heap.size W W') : ∀ (ts : List TypeId) (vs : List Value) (ds : List (DataW H)) (ps : List MemPlace), (ts.all fun t => P.readableRec t && decide (t < P.types.size)) = true →
    (∀ x ∈ ps, x.block < W.heap.size) → DataW.TrodAll enc P W 0 (fun _ => true) true ts vs ds ps → DataW.TrodAll enc P W' 0 (fun b => decide (b < W.heap.size)) true ts vs ds ps
  | [], vs, ds, ps, _, _, h => by
    obtain ⟨rfl, rfl, rfl⟩ := trodAll_nil h
    exact trodAll_mk0
  | t :: ts, vs, ds, ps, hr, hlt, h => by
    obtain ⟨v, vs', d, ds', p, q, rfl, rfl, rfl, h1, h2⟩ := trodAll_cons h
    simp only [List.all_cons, Bool.and_eq_true, decide_eq_true_eq] at hr
    exact trodAll_cons_mk (Below.trod hl hr.1.1 hr.1.2 h1 hb (fun x hx => hlt x (by simp [hx]))) (trodAll_stays hl hb ts vs' ds' q hr.2 (fun x hx => hlt x (by simp [hx])) h2)
theorem law_post {f : Func} {s : ChangeSpec} {apart fresh handsOn : Bool} {W W' : World} {args : Array Value} {ds gs : List (DataW H)} {before : List MemPlace} {T : TypeId} (hl : laidOutB P = true)
    (hp : (f.params.toList.all fun t => P.readableRec t && decide (t < P.types.size)) = true) (hres : f.resultTypes = #[T]) (hT : P.underlying T = some .bool) (hvs : s.vars = [])
    (hW : DataW.Whole enc P f.params.toList s.vars apart W args.toList ds gs before) (h1 : (s.fn H (ds ++ gs)).results = [.lit (.bool true)]) (h2 : (s.fn H (ds ++ gs)).args = ds) (h3 : (s.fn H (ds ++ gs)).vars = [])
    (hk : Keep (fun _ => False) W W') : s.post enc P f apart fresh handsOn false W args (.bool true) W' := by
  have hb : Below W.heap.size W W' := hk.below (Nat.le_refl _) (fun _ x => x.elim)
  have hlt : ∀ x ∈ before, x.block < W.heap.size := fun x hx => hW.lt x hx
  have hW' := hW
  obtain ⟨p, q, hA, hV, rfl, _⟩ := hW
  rw [hvs] at hV
  refine ⟨ds, gs, p ++ q, [], p, [], hW', ?_, ?_, ?_, hb.frame _, fun h => nomatch h⟩
  · rw [h1, hres]
    exact trodAll_mk1 (shut_bool hT _)
  · rw [h2]
    exact trodAll_stays hl hb _ _ _ _ hp (fun x hx => hlt x (by simp [hx])) hA
  · rw [h3, hvs]
    rfl
end
def laids : List (String × DataW Unit) := [("unicode.White_Space", Rows.laid_unicode_White_Space), ("strings.asciiSpace", Rows.laid_strings_asciiSpace)]
def spTab : List Int := (List.range 256).map fun c => if Lib.isSp (UInt8.ofNat c) then 1 else 0
theorem laid_tab : (Rows.laid_strings_asciiSpace : DataW Unit) = Lib.tabData .u8 spTab := by kernel_rfl
theorem gSp : Tryd.prog.globalNamed "strings.asciiSpace" = some (Tryd.lays157_ren.g 0) := by kernel_rfl
theorem tSp : (Tryd.prog.globals[Tryd.lays157_ren.g 0]?).map (·.type) = some 128 := by kernel_rfl
theorem door_met (os : Os) (args : Array Value) : laidMetH Tryd.prog laids ((World.doorLaid Tryd.prog 400 os).forCall (fun _ _ => 0) ⟨#[], args, []⟩).memory :=
  laidMetH_of_parts3 (fuel := 8) (laidMet_of_run' 8 (by kernel_rfl) (by kernel_rfl)) (by kernel_rfl) (by kernel_rfl)
set_option maxRecDepth 100000 in
theorem tab_of_laid {W : World} (h : laidMetH Tryd.prog laids W) : Tab W := by
  rw [MakeChecks.laidMetH_plain _ _ _ (by kernel_rfl)] at h
  have h2 : laidMet Tryd.prog [("strings.asciiSpace", Lib.tabData .u8 spTab)] W := by
    have := h.tail
    rw [laid_tab] at this
    exact this
  have hT := Lib.tabIs_of_head gSp tSp Tryd.underlying128 Tryd.underlying5 (by kernel_rfl) (by kernel_rfl) h2
  intro c hc
  rw [hT.cell gSp c (by simpa [spTab] using hc)]
  simp [spTab, List.getD, hc]
set_option maxRecDepth 100000 in
/-- A parameter of the type api.Type. -/
theorem open_type {H : Type} {enc : TypeId × Value → H} {W : World} {base : Nat} {v : Value} {d : DataW H} {p : List MemPlace} (hv : Value.okWide Tryd.prog W .any base 25 v) (h : DataW.Trod enc Tryd.prog W 0 (fun _ => true) true 25 v d p)
    (hlt : ∀ x ∈ p, x.block < W.heap.size) (hw : Weighs Tryd.prog 25 d) : ∃ (r : Tv) (t : Ty), v = r.val ∧ TyV W nX r t := by
  obtain ⟨cs, rfl, hcs⟩ := okWide_struct Tryd.underlying25 hv
  obtain ⟨fuel, hf⟩ := h
  obtain ⟨r, t, hr, ht⟩ := open_ty fuel _ _ hf hlt hw
  refine ⟨r, t, ?_, ht⟩
  have e : Value.cells (.agg cs) = cs := rfl
  rw [e] at hr
  have : cs = r.vals.toArray := by rw [← hr]
  rw [this]
  rfl
theorem weighs_at {H : Type} {P : Program} {ts : List TypeId} {ds : List (DataW H)} (h : (DataW.weightsEach P ts ds).all (· ≤ reachBytes) = true) {j : Nat} {t : TypeId} {d : DataW H} (ht : ts[j]? = some t) (hd : ds[j]? = some d) : Weighs P t d := fun n hn => by
  have := List.all_eq_true.1 h n (DataW.weights_mem_each ht hd n hn)
  simpa using this
end Go.Proofs.YtbanpohholnkaaaDoor
