/-
  An argument of the type api.Type opened to cells. Conditions: none.
-/
import Derived.Test.YtbanpohholnkaaaDoorTy
import Derived.ProofKit
import Derived.OpenShut
import Derived.Deep.Strs
import Derived.Deep.Fields
import Derived.SizedLaws
namespace Go.Proofs.YtbanpohholnkaaaDoor
open Go.RowKit Go.ChangeShapes Go.WideShapes Go.ChangeAt Go.Deep

theorem addr_plain {W : World} {a : Addr} {k : Nat} {v : Value} (h : W.cell? (a.add k) = some v) (hk : k = 0) : ∃ b o, a = ⟨b, o, none⟩ := by
  subst hk
  obtain ⟨b, off, spot⟩ := a
  have hspot : spot = none := by simpa [Addr.add] using World.cell?_spot h
  subst hspot
  exact ⟨b, off, rfl⟩
def nX : Nat → Prop := fun _ => False
theorem reach_le {n m : Nat} (h : n * m ≤ reachBytes) (hm : 0 < m) : n ≤ 140737488355328 := by
  have h1 : n ≤ n * m := Nat.le_mul_of_pos_right n hm
  have h2 := reachBytes_lt
  have h3 : (2 : Nat) ^ 47 = 140737488355328 := by decide
  omega
section
variable {H : Type} {enc : TypeId × Value → H} {W : World}
def Weighs (P : Program) (t : TypeId) (d : DataW H) : Prop := ∀ n ∈ d.weights P t, n ≤ reachBytes
theorem weighs_all {P : Program} {e : TypeId} {l : List (DataW H)} {d : DataW H} (h : ∀ n ∈ DataW.weightsAll P e l, n ≤ reachBytes) (hd : d ∈ l) : Weighs P e d := by
  induction l with
  | nil => cases hd
  | cons x l ih =>
    simp only [DataW.weightsAll, List.mem_append] at h
    rcases List.mem_cons.1 hd with rfl | hd
    · exact fun n hn => h n (.inl hn)
    · exact ih (fun n hn => h n (.inr hn)) hd
theorem open_names {fuel : Nat} {v : Value} {y : DataW H × List MemPlace} (h : DataW.trod enc Tryd.prog W 0 (fun _ => true) true fuel 22 [v] = some y) (hlt : ∀ x ∈ y.2, x.block < W.heap.size) (hw : Weighs Tryd.prog 22 y.1) :
    ∃ (ss : List ByteArray) (A : Option Addr) (c : Nat), v = .slice A ss.length c ∧ ss.length ≤ 140737488355328 ∧ Rd W nX 1 (.slice A ss.length c) ss.length (strs ss) := by
  rcases open_strs Tryd.underlying22 Tryd.underlying9 (by kernel_rfl) h with ⟨hcs, hx⟩ | ⟨a, len, cap, m, Sx, hcs, _, hl, hm, hmm, hx, hcell⟩
  · simp only [List.cons.injEq, and_true] at hcs
    subst hcs
    exact ⟨[], none, 0, rfl, Nat.zero_le _, Rd.nil _ _ 1⟩
  · simp only [List.cons.injEq, and_true] at hcs
    subst hcs
    subst hx
    simp only [if_true] at hmm
    subst hmm
    have hb47 : len ≤ 140737488355328 := by
      have := hw ((((List.range len).map fun i => (.lit (.string (Sx i).data.toList) : DataW H)).length + ((List.range (m - len)).map fun j => (.lit (.string (Sx (len + j)).data.toList) : DataW H)).length) * Tryd.prog.bytesOf 9) (by simp only [DataW.weights, Tryd.underlying22]; exact List.mem_cons_self)
      have h2 := reach_le this (by rw [show Tryd.prog.bytesOf 9 = 16 by kernel_rfl]; omega)
      simp only [List.length_map, List.length_range] at h2
      omega
    refine ⟨(List.range len).map Sx, some a, m, by simp, by simpa using hb47, by simp [strs], some a, m, rfl, by simpa using hl, fun hn => ?_⟩
    have hn' : 0 < len := by simpa using hn
    obtain ⟨b, o, rfl⟩ := addr_plain (hcell 0 (by omega)).1 rfl
    have hb : b < W.heap.size := hlt (.cell b o) (MemPlace.mem_row.2 ⟨0, by omega, by simp⟩)
    refine ⟨b, o, rfl, hb, fun x => x, fun j hj => ?_⟩
    have hj' : j < len := by simpa using hj
    have := (hcell j (by omega)).1
    rw [add_plain] at this
    rw [this]
    simp [strs, hj']
set_option maxRecDepth 100000 in
set_option maxHeartbeats 1000000 in
theorem open_ty : ∀ (fuel : Nat) (cs : List Value) (y : DataW H × List MemPlace), DataW.trod enc Tryd.prog W 0 (fun _ => true) true fuel 25 cs = some y → (∀ x ∈ y.2, x.block < W.heap.size) → Weighs Tryd.prog 25 y.1 →
    ∃ (r : Tv) (t : Ty), cs = r.vals ∧ TyV W nX r t := by
  intro fuel
  induction fuel using Nat.strongRecOn with
  | _ fuel ih =>
    intro cs y h hlt hw
    obtain ⟨xs, k, hk, hxy, hcl, hxl, hfl⟩ := DataW.trod_struct Tryd.underlying25 h
    have hcl4 : cs.length = 4 := hcl.trans (by kernel_rfl)
    match xs, hxl, cs, hcl4 with
    | [y0, y1, y2, y3], _, [v0, v1, v2, v3], _ =>
      have g0 := hfl 0 _ rfl
      have g1 := hfl 1 _ rfl
      have g2 := hfl 2 _ rfl
      have g3 := hfl 3 _ rfl
      simp [show Tryd.prog.cellsOf 3 = 1 by kernel_rfl, show Tryd.prog.cellsOf 9 = 1 by kernel_rfl, show Tryd.prog.cellsOf 22 = 1 by kernel_rfl, show Tryd.prog.cellsOf 23 = 1 by kernel_rfl] at g0 g1 g2 g3
      subst hxy
      simp only [List.flatMap_cons, List.flatMap_nil, List.append_nil, List.mem_append] at hlt
      have hwe : ∀ n, (n ∈ y2.1.weights Tryd.prog 22 ∨ n ∈ y3.1.weights Tryd.prog 23) → n ≤ reachBytes := fun n hn => hw n (by
        simp only [DataW.weights, Tryd.underlying25, List.map_cons, List.map_nil, DataW.weightsEach, List.mem_append]
        rcases hn with hn | hn
        · exact .inr (.inr (.inl hn))
        · exact .inr (.inr (.inr (.inl hn))))
      obtain ⟨z, hz, _, _⟩ := DataW.trod_int Tryd.underlying3 g0
      obtain ⟨s, hs, _, _⟩ := DataW.trod_string Tryd.underlying9 g1
      simp only [List.cons.injEq, and_true] at hz hs
      subst hz hs
      obtain ⟨ns, An, cn, hv2, hnb, hrn⟩ := open_names g2 (fun x hx => hlt x (.inr (.inr (.inl hx)))) (fun n hn => hwe n (.inl hn))
      subst hv2
      rcases DataW.trod_slice Tryd.underlying23 g3 with ⟨hcs, hx⟩ | ⟨a, len, cap, elems, rest, n, hfn, hcs, hx, _, hl, hm, hlen, hel, _, _⟩
      · simp only [List.cons.injEq, and_true] at hcs
        subst hcs
        exact ⟨⟨z, s, An, ns.length, cn, none, 0, 0⟩, .mk z s ns [], rfl, TyV.mk (rs := []) ⟨rfl, hnb, Nat.zero_le _⟩ rfl rfl hrn rfl (Rd.nil _ _ 4) trivial⟩
      · simp only [List.cons.injEq, and_true] at hcs
        subst hcs
        rw [hx] at hlt hwe
        have ce : Tryd.prog.cellsOf 25 = 4 := by kernel_rfl
        rw [ce] at hel hlt
        have hkb : len ≤ 140737488355328 := by
          have := hwe (((elems.map (·.1)).length + (rest.map (·.1)).length) * Tryd.prog.bytesOf 25) (.inr (by simp only [DataW.weights, Tryd.underlying23]; exact List.mem_cons_self))
          have h2 := reach_le this (by rw [show Tryd.prog.bytesOf 25 = 72 by kernel_rfl]; omega)
          simp only [List.length_map] at h2
          omega
        have each : ∀ i, ∃ x : Tv × Ty, i < len → (W.cell? (a.add (i * 4)) = some (.int .i64 x.1.k) ∧ W.cell? (a.add (i * 4 + 1)) = some (.string x.1.nm) ∧ W.cell? (a.add (i * 4 + 2)) = some (.slice x.1.An x.1.nn x.1.cn) ∧ W.cell? (a.add (i * 4 + 3)) = some (.slice x.1.Ak x.1.nk x.1.ck)) ∧ TyV W nX x.1 x.2 := by
          intro i
          by_cases hi : i < len
          · have he := hel i hi
            obtain ⟨e, hee⟩ : ∃ e, elems[i]? = some e := ⟨_, List.getElem?_eq_getElem (by omega)⟩
            rw [hee] at he
            obtain ⟨cs', hc1, hc2⟩ := Option.bind_eq_some_iff.1 he
            obtain ⟨_, hcn, hcell⟩ := World.cells?_some hc1
            have hem : e ∈ elems := List.mem_of_getElem? hee
            obtain ⟨r, t, hr, ht⟩ := ih n (by omega) cs' e hc2 (fun x hx => hlt x (.inr (.inr (.inr (List.mem_append_right _ (List.mem_flatMap.2 ⟨e, List.mem_append_left _ hem, hx⟩)))))) (by
              refine weighs_all (l := elems.map (·.1)) (fun m hm => hwe m (.inr ?_)) (List.mem_map.2 ⟨e, hem, rfl⟩)
              simp only [DataW.weights, Tryd.underlying23]
              exact List.mem_cons_of_mem _ (List.mem_append_left _ hm))
            subst hr
            have e0 := hcell 0 (by omega)
            have e1 := hcell 1 (by omega)
            have e2 := hcell 2 (by omega)
            have e3 := hcell 3 (by omega)
            rw [Go.Deep.add_add] at e0 e1 e2 e3
            exact ⟨(r, t), fun _ => ⟨⟨by simpa [Tv.vals] using e0, by simpa [Tv.vals] using e1, by simpa [Tv.vals] using e2, by simpa [Tv.vals] using e3⟩, ht⟩⟩
          · exact ⟨(tv0, ty0), fun h => absurd h hi⟩
        obtain ⟨f, hf⟩ := Classical.axiomOfChoice each
        have hrd : Rd W nX 4 (.slice (some a) len cap) len (tflat ((List.range len).map fun i => (f i).1)) := by
          refine ⟨by rw [tflat_length]; simp, some a, cap, rfl, hl, fun hn => ?_⟩
          obtain ⟨b, o, rfl⟩ := addr_plain (hf 0 hn).1.1 rfl
          have hb : b < W.heap.size := hlt (.cell b o) (.inr (.inr (.inr (List.mem_append_left _ (MemPlace.mem_row.2 ⟨0, by omega, by simp⟩)))))
          refine ⟨b, o, rfl, hb, fun x => x, fun j hj => ?_⟩
          have hq : ((List.range len).map fun i => (f i).1)[j / 4]? = some (f (j / 4)).1 := by simp [show j / 4 < len by omega]
          obtain ⟨g0, g1, g2, g3⟩ := tflat_get _ _ _ hq
          obtain ⟨⟨c0, c1, c2, c3⟩, _⟩ := hf (j / 4) (by omega)
          rw [add_plain] at c0 c1 c2 c3
          have hmod : j % 4 = 0 ∨ j % 4 = 1 ∨ j % 4 = 2 ∨ j % 4 = 3 := by omega
          rcases hmod with h4 | h4 | h4 | h4
          · rw [show j / 4 * 4 = j by omega] at g0 c0
            rw [g0, c0]
          · rw [show j / 4 * 4 + 1 = j by omega] at g1 c1
            rw [g1, c1]
          · rw [show j / 4 * 4 + 2 = j by omega] at g2 c2
            rw [g2, c2]
          · rw [show j / 4 * 4 + 3 = j by omega] at g3 c3
            rw [g3, c3]
        refine ⟨⟨z, s, An, ns.length, cn, some a, len, cap⟩, .mk z s ns ((List.range len).map fun i => (f i).2), rfl, TyV.mk (rs := (List.range len).map fun i => (f i).1) ⟨rfl, hnb, hkb⟩ rfl rfl hrn (by simp [Ty.kids]) hrd ?_⟩
        refine TysV.of_get (by simp [Ty.kids]) fun i r t hr ht => ?_
        have hil : i < len := by
          have := (List.getElem?_eq_some_iff.1 hr).1
          simpa using this
        simp [hil] at hr
        simp [Ty.kids, hil] at ht
        subst hr ht
        exact (hf i hil).2
end
end Go.Proofs.YtbanpohholnkaaaDoor
