/-
  append, its memory counted in bytes; a parameter that is a list of types. Conditions: plain lemmas.
-/
import Derived.Test.YtbanpohholnkaaaDoorOpen
import Derived.Test.YtbanpohholnkaaaDoorWMap
namespace Go.Proofs.YtbanpohholnkaaaDoor
open Go.RowKit Go.ChangeShapes Go.WideShapes Go.ChangeAt Go.Deep

theorem run_app_by {P : Program} {w : World} (t ty : TypeId) {e : TypeId} {size bytes : Nat} (E : Elem P t e size bytes) (v : Value) (n : Nat) (xs : List Value) (hown : w.ownsRow 0 e size v n xs)
    {X : Nat → Prop} (x : Value) (m : Nat) (ys : List Value) (hx : Rd w X size x m ys) (h1 : ∀ u ∈ ys, u.oneCell' = true) (hm63 : n + m ≤ 9223372036854775807) (hbytes : (n + m) * bytes ≤ 140737488355328) :
    ∃ v' w', (Builtin.append_ #[t, t] ty #[v, x]).run P w = .ok v' w' ∧ w'.ownsRow 0 e size v' (n + m) (xs ++ ys) ∧ Keep (fun k => v.ownBlock = some k) w w' ∧ ∀ g, v'.ownBlock = some g → v.ownBlock = some g ∨ w.heap.size ≤ g := by
  obtain ⟨hu, ⟨i, z, hi, hz, hsz, hb2, hzs⟩, hpos⟩ := E
  obtain ⟨hl, A, cap, rfl, hc, hr⟩ := hx
  rcases A with _ | ad
  · have hm : m = 0 := by
      rcases Nat.eq_zero_or_pos m with h0 | h0
      · exact h0
      · obtain ⟨b, o, hA, _⟩ := hr h0
        cases hA
    subst hm
    have hy : ys = [] := List.eq_nil_of_length_eq_zero (by simpa using hl)
    subst hy
    refine ⟨v, w, ?_, by simpa using hown, Keep.refl _ _, fun g hg => .inl hg⟩
    rcases hown.2 with ⟨rfl, rfl⟩ | ⟨g, cap', cur, rfl, _, _, hnc, _⟩
    · simp [Builtin.append_, run_underlying hu, sizeOf, typeInfo, hi, Builtin.lenOf, Builtin.firstCells]
    · simp [Builtin.append_, run_underlying hu, sizeOf, typeInfo, hi, Builtin.lenOf, Builtin.firstCells, hnc, storeCells]
  · have hcells : ∀ j u, ys[j]? = some u → w.cell? (ad.add j) = some u := by
      intro j u hu'
      have hj : j < ys.length := (List.getElem?_eq_some_iff.1 hu').1
      have hm : 0 < m := by
        rcases Nat.eq_zero_or_pos m with h0 | h0
        · subst h0; omega
        · exact h0
      obtain ⟨b, o, hA, _, _, hcell⟩ := hr hm
      simp only [Option.some.injEq] at hA
      subst hA
      rw [Addr_lit, hcell j (by omega)]
      exact hu'
    obtain ⟨v', w', hrun, h2, h3, _, h5⟩ := run_append_own_at (P := P) w 0 t ty e i z size bytes hu hi hz hsz hb2 hzs hpos v n xs hown ad m cap ys hl hcells h1 (by unfold maxLen; omega) hbytes (Nat.zero_le _)
    refine ⟨v', w', hrun, h2, Keep.of_grown h3, fun g hg => ?_⟩
    rcases h5 with h5 | h5
    · exact .inl (by rw [← h5]; exact hg)
    · rw [h5] at hg
      simp only [Option.some.injEq] at hg
      exact .inr (by omega)
theorem wpList_app_by {P : Program} {w : World} {ops : Array Oper} {rest : List Oper} {o : Oper} {a : Act} {Q : Exit → Act → World → Prop} (hgd : o.guard = none) (s x : Operand) (t : TypeId)
    (ho : o.op = .call { callee := .builtin .append, args := #[s, x], argTypes := #[t, t] }) {e : TypeId} {size bytes : Nat} (E : Elem P t e size bytes)
    (v : Value) (n : Nat) (xs : List Value) (hs : a.eval s = v) (hown : w.ownsRow 0 e size v n xs)
    {X : Nat → Prop} (xv : Value) (m : Nat) (ys : List Value) (hx : a.eval x = xv) (hr : Rd w X size xv m ys) (h1 : ∀ u ∈ ys, u.oneCell' = true) (hm63 : n + m ≤ 9223372036854775807) (hbytes : (n + m) * bytes ≤ 140737488355328)
    (h : ∀ v' w', w'.ownsRow 0 e size v' (n + m) (xs ++ ys) → Keep (fun k => v.ownBlock = some k) w w' → (∀ g, v'.ownBlock = some g → v.ownBlock = some g ∨ w.heap.size ≤ g) → wpList P ops Q rest (a.put o.dst v') w') : wpList P ops Q (o :: rest) a w := by
  refine wpList_plain hgd fun K hK => ?_
  obtain ⟨v', w', hrun, h2, h3, h4⟩ := run_app_by (P := P) t o.type E v n xs hown xv m ys hr h1 hm63 hbytes
  unfold Oper.wp execOp
  simp only [ho, resolve, invoke, builtin, Sem.run_bind, Sem.run_pure, Result.andThen_ok, List.map_toArray, List.map_cons, List.map_nil, hs, hx, hrun]
  exact hK _ _ (h v' w' h2 h3 h4)
set_option maxRecDepth 100000 in
set_option maxHeartbeats 1000000 in
theorem open_tys {H : Type} {enc : TypeId × Value → H} {W : World} {fuel : Nat} {v : Value} {y : DataW H × List MemPlace} (h : DataW.trod enc Tryd.prog W 0 (fun _ => true) true fuel 23 [v] = some y) (hlt : ∀ x ∈ y.2, x.block < W.heap.size) (hwe : Weighs Tryd.prog 23 y.1) :
    ∃ (A : Option Addr) (n c : Nat) (rs : List Tv) (ts : List Ty), v = .slice A n c ∧ n * 72 ≤ 140737488351232 ∧ Rd W nX 4 (.slice A n c) n (tflat rs) ∧ TysV W nX rs ts := by
  rcases DataW.trod_slice Tryd.underlying23 h with ⟨hcs, hx⟩ | ⟨a, len, cap, elems, rest, n, hfn, hcs, hx, _, hl, hm, hlen, hel, _, _⟩
  · simp only [List.cons.injEq, and_true] at hcs
    subst hcs
    exact ⟨none, 0, 0, [], [], rfl, by decide, Rd.nil _ _ 4, trivial⟩
  · simp only [List.cons.injEq, and_true] at hcs
    subst hcs
    rw [hx] at hlt hwe
    have ce : Tryd.prog.cellsOf 25 = 4 := by kernel_rfl
    rw [ce] at hel hlt
    have hb72 : len * 72 ≤ 140737488351232 := by
      have := hwe (((elems.map (·.1)).length + (rest.map (·.1)).length) * Tryd.prog.bytesOf 25) (by simp only [DataW.weights, Tryd.underlying23]; exact List.mem_cons_self)
      rw [show Tryd.prog.bytesOf 25 = 72 by kernel_rfl] at this
      simp only [List.length_map] at this
      unfold reachBytes at this
      omega
    have each : ∀ i, ∃ x : Tv × Ty, i < len → (W.cell? (a.add (i * 4)) = some (.int .i64 x.1.k) ∧ W.cell? (a.add (i * 4 + 1)) = some (.string x.1.nm) ∧ W.cell? (a.add (i * 4 + 2)) = some (.slice x.1.An x.1.nn x.1.cn) ∧ W.cell? (a.add (i * 4 + 3)) = some (.slice x.1.Ak x.1.nk x.1.ck)) ∧ TyV W nX x.1 x.2 := by
      intro i
      by_cases hi : i < len
      · have he := hel i hi
        obtain ⟨e, hee⟩ : ∃ e, elems[i]? = some e := ⟨_, List.getElem?_eq_getElem (by omega)⟩
        rw [hee] at he
        obtain ⟨cs', hc1, hc2⟩ := Option.bind_eq_some_iff.1 he
        obtain ⟨_, hcn, hcell⟩ := World.cells?_some hc1
        have hem : e ∈ elems := List.mem_of_getElem? hee
        obtain ⟨r, t, hr, ht⟩ := open_ty n cs' e hc2 (fun x hx => hlt x (List.mem_append_right _ (List.mem_flatMap.2 ⟨e, List.mem_append_left _ hem, hx⟩))) (by
          refine weighs_all (l := elems.map (·.1)) (fun m hm => hwe m ?_) (List.mem_map.2 ⟨e, hem, rfl⟩)
          simp only [DataW.weights, Tryd.underlying23]
          exact List.mem_cons_of_mem _ (List.mem_append_left _ hm))
        subst hr
        have e0 := hcell 0 (by omega)
        have e1 := hcell 1 (by omega)
        have e2 := hcell 2 (by omega)
        have e3 := hcell 3 (by omega)
        rw [Go.Deep.add_add] at e0 e1 e2 e3
        exact ⟨(r, t), fun _ => ⟨⟨by simpa [Tv.vals] using e0, by simpa [Tv.vals] using e1, by simpa [Tv.vals] using e2, by simpa [Tv.vals] using e3⟩, ht⟩⟩
      · exact ⟨(tv0, ty0), fun h => absurd h hi⟩
    obtain ⟨f, hf⟩ := Classical.axiomOfChoice each
    have hrd : Rd W nX 4 (.slice (some a) len cap) len (tflat ((List.range len).map fun i => (f i).1)) := by
      refine ⟨by rw [tflat_length]; simp, some a, cap, rfl, hl, fun hn => ?_⟩
      obtain ⟨b, o, rfl⟩ := addr_plain (hf 0 hn).1.1 rfl
      have hb : b < W.heap.size := hlt (.cell b o) (List.mem_append_left _ (MemPlace.mem_row.2 ⟨0, by omega, by simp⟩))
      refine ⟨b, o, rfl, hb, fun x => x, fun j hj => ?_⟩
      have hq : ((List.range len).map fun i => (f i).1)[j / 4]? = some (f (j / 4)).1 := by simp [show j / 4 < len by omega]
      obtain ⟨g0, g1, g2, g3⟩ := tflat_get _ _ _ hq
      obtain ⟨⟨c0, c1, c2, c3⟩, _⟩ := hf (j / 4) (by omega)
      rw [add_plain] at c0 c1 c2 c3
      have hmod : j % 4 = 0 ∨ j % 4 = 1 ∨ j % 4 = 2 ∨ j % 4 = 3 := by omega
      rcases hmod with h4 | h4 | h4 | h4
      · rw [show j / 4 * 4 = j by omega] at g0 c0
        rw [g0, c0]
      · rw [show j / 4 * 4 + 1 = j by omega] at g1 c1
        rw [g1, c1]
      · rw [show j / 4 * 4 + 2 = j by omega] at g2 c2
        rw [g2, c2]
      · rw [show j / 4 * 4 + 3 = j by omega] at g3 c3
        rw [g3, c3]
    exact ⟨some a, len, cap, (List.range len).map fun i => (f i).1, (List.range len).map fun i => (f i).2, rfl, hb72, hrd, TysV.of_get (by simp) fun i r t hr ht => by
      have hil : i < len := by
        have := (List.getElem?_eq_some_iff.1 hr).1
        simpa using this
      simp [hil] at hr
      simp [hil] at ht
      subst hr ht
      exact (hf i hil).2⟩
end Go.Proofs.YtbanpohholnkaaaDoor
