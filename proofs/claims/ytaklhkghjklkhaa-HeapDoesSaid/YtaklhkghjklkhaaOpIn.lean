/-
  Arguments opened to cells: a list of slots; a list of calls. Conditions: none.
-/
import Derived.Test.YtaklhkghjklkhaaOps
import Derived.Deep.SlicePairs
import Derived.Deep.Fields
namespace Go.Proofs.Ytaklhkghjklkhaa
open Go.RowKit Go.ChangeShapes Go.WideShapes Go.ChangeAt Go.Deep

theorem addr_plain {W : World} {a : Addr} {k : Nat} {v : Value} (h : W.cell? (a.add k) = some v) (hk : k = 0) : ∃ b o, a = ⟨b, o, none⟩ := by
  subst hk
  obtain ⟨b, off, spot⟩ := a
  have hspot : spot = none := by simpa [Addr.add] using World.cell?_spot h
  subst hspot
  exact ⟨b, off, rfl⟩
section
variable {H : Type} {enc : TypeId × Value → H} {W : World}
theorem open_slots {fuel : Nat} {v : Value} {y : DataW H × List MemPlace} (h : DataW.trod enc Try.prog W 0 (fun _ => true) true fuel 28 [v] = some y) (hlt : ∀ x ∈ y.2, x.block < W.heap.size) :
    ∃ ss : List Sl, Rd W (fun k => W.heap.size ≤ k) 2 v ss.length (sflat ss) := by
  rcases open_slice_pairs Try.underlying28 Try.underlying32 (by kernel_rfl) rfl rfl (by kernel_rfl) (by kernel_rfl) h with ⟨hcs, hx⟩ | ⟨a, len, cap, m, n, V0, V1, D0, D1, P0, P1, hcs, _, hl, hm, hmm, rfl, hcell⟩
  · simp only [List.cons.injEq, and_true] at hcs
    subst hcs
    exact ⟨[], Rd.nil _ _ 2⟩
  · simp only [List.cons.injEq, and_true] at hcs
    subst hcs
    simp only [if_true] at hmm
    subst hmm
    have each : ∀ i, ∃ s : Sl, i < m → W.cell? (a.add (i * 2)) = some (.bool s.ref) ∧ W.cell? (a.add (i * 2 + 1)) = some (.int .i64 s.n) := by
      intro i
      by_cases hi : i < m
      · obtain ⟨c0, c1, t0, t1⟩ := hcell i hi
        obtain ⟨b, hb, _⟩ := DataW.trod_bool Try.underlying4 t0
        obtain ⟨z, hz, _, _⟩ := DataW.trod_int Try.underlying3 t1
        simp only [List.cons.injEq, and_true] at hb hz
        exact ⟨⟨b, z⟩, fun _ => ⟨by rw [c0, hb], by rw [c1, hz]⟩⟩
      · exact ⟨z0, fun h => absurd h hi⟩
    obtain ⟨f, hf⟩ := Classical.axiomOfChoice each
    refine ⟨(List.range len).map f, by rw [sflat_length], a, m, by simp, by simpa using hl, fun hn => ?_⟩
    have hn' : 0 < len := by simpa using hn
    obtain ⟨b, o, rfl⟩ := addr_plain (hf 0 (by omega)).1 rfl
    have hb : b < W.heap.size := hlt (.cell b o) (List.mem_append_left _ (MemPlace.mem_row.2 ⟨0, by omega, by simp⟩))
    refine ⟨b, o, rfl, hb, by omega, fun j hj => ?_⟩
    have hj' : j < len * 2 := by simpa using hj
    have hg : ((List.range len).map f)[j / 2]? = some (f (j / 2)) := by simp [show j / 2 < len by omega]
    obtain ⟨g0, g1⟩ := sflat_get _ _ _ hg
    obtain ⟨c0, c1⟩ := hf (j / 2) (by omega)
    rw [add_plain] at c0 c1
    rcases Nat.mod_two_eq_zero_or_one j with h2 | h2
    · rw [show j / 2 * 2 = j by omega] at g0 c0
      rw [g0, c0]
    · rw [show j / 2 * 2 + 1 = j by omega] at g1 c1
      rw [g1, c1]
theorem open_ints' {fuel : Nat} {v : Value} {y : DataW H × List MemPlace} (h : DataW.trod enc Try.prog W 0 (fun _ => true) true fuel 27 [v] = some y) (hlt : ∀ x ∈ y.2, x.block < W.heap.size) :
    ∃ zs : List Int, Rd W (fun k => W.heap.size ≤ k) 1 v zs.length (ints zs) := by
  rcases open_ints Try.underlying27 Try.underlying3 (by kernel_rfl) h with ⟨hcs, hx⟩ | ⟨a, len, cap, zs, hcs, _, hl, hm, hz, hx, hcell, hwz⟩
  · simp only [List.cons.injEq, and_true] at hcs
    subst hcs
    exact ⟨[], Rd.nil _ _ 1⟩
  · simp only [List.cons.injEq, and_true] at hcs
    subst hcs
    subst hx
    simp only [if_true] at hz
    have hlen : (zs.take len).length = len := by simp; omega
    refine ⟨zs.take len, by simp [ints], a, cap, by rw [hlen], by rw [hlen]; exact hl, fun hn => ?_⟩
    rw [hlen] at hn
    obtain ⟨b, off, rfl, hc⟩ := ints_at hcell (by omega)
    have hb : b < W.heap.size := hlt (.cell b off) (MemPlace.mem_row.2 ⟨0, by omega, by simp⟩)
    refine ⟨b, off, rfl, hb, by omega, fun j hj => ?_⟩
    rw [hlen] at hj
    rw [hc j (by omega)]
    have : j < zs.length := by omega
    simp [ints, show j < len by omega, List.getD, this]

theorem open_ops {base : Nat} {v : Value} {d : DataW H} {p : List MemPlace} (hv : Value.okWide Try.prog W .any base 22 v) (h : DataW.Trod enc Try.prog W 0 (fun _ => true) true 22 v d p) (hlt : ∀ x ∈ p, x.block < W.heap.size) :
    ∃ A n c l, v = .slice A n c ∧ OpsR W (fun k => W.heap.size ≤ k) A n l := by
  obtain ⟨a0, len, cap, rfl⟩ := okWide_slice Try.underlying22 hv
  obtain ⟨fuel, hf⟩ := h
  rcases open_slice Try.underlying22 hf with ⟨hcs, hx⟩ | ⟨a, len', cap', m, n, D, Pl, hcs, _, hl, hm, hmm, hx, hi⟩
  · simp only [Value.cells, List.cons.injEq, Value.slice.injEq, and_true] at hcs
    obtain ⟨rfl, rfl, rfl⟩ := hcs
    exact ⟨none, 0, 0, [], rfl, rfl, fun h => absurd h (by omega)⟩
  · simp only [Value.cells, List.cons.injEq, Value.slice.injEq, and_true] at hcs
    obtain ⟨rfl, rfl, rfl⟩ := hcs
    simp only [Prod.mk.injEq] at hx
    obtain ⟨rfl, rfl⟩ := hx
    simp only [if_true] at hmm
    subst hmm
    have ce : Try.prog.cellsOf 30 = 3 := by kernel_rfl
    rw [ce] at hi hlt
    have each : ∀ i, ∃ x : Ope, i < m → ∃ sv rv, W.cell? (a.add (i * 3)) = some (.bool x.coll) ∧ W.cell? (a.add (i * 3 + 1)) = some sv ∧ W.cell? (a.add (i * 3 + 2)) = some rv ∧ Rd W (fun k => W.heap.size ≤ k) 2 sv x.slots.length (sflat x.slots) ∧ Rd W (fun k => W.heap.size ≤ k) 1 rv x.roots.length (ints x.roots) := by
      intro i
      by_cases him : i < m
      · obtain ⟨cs', h1, h2⟩ := hi i him
        obtain ⟨_, hlen, hcell⟩ := World.cells?_some h1
        obtain ⟨xs, k, hk, hxy, _, hxl, hfl⟩ := DataW.trod_struct Try.underlying30 h2
        match xs, hxl, cs', hlen with
        | [y0, y1, y2], _, [v0, v1, v2], _ =>
          have g0 := hfl 0 _ rfl
          have g1 := hfl 1 _ rfl
          have g2 := hfl 2 _ rfl
          simp [show Try.prog.cellsOf 4 = 1 by kernel_rfl, show Try.prog.cellsOf 28 = 1 by kernel_rfl, show Try.prog.cellsOf 27 = 1 by kernel_rfl] at g0 g1 g2
          have e0 := hcell 0 (by omega)
          have e1 := hcell 1 (by omega)
          have e2 := hcell 2 (by omega)
          rw [Go.Deep.add_add] at e0 e1 e2
          simp only [Prod.mk.injEq] at hxy
          have hpl : ∀ x ∈ Pl i, x.block < W.heap.size := fun x hx => hlt x (List.mem_append_right _ (List.mem_flatMap.2 ⟨i, List.mem_range.2 him, hx⟩))
          rw [hxy.2] at hpl
          obtain ⟨b, hb, _⟩ := DataW.trod_bool Try.underlying4 g0
          obtain ⟨ss, hss⟩ := open_slots g1 (fun x hx => hpl x (by simp [hx]))
          obtain ⟨zs, hzs⟩ := open_ints' g2 (fun x hx => hpl x (by simp [hx]))
          simp only [List.cons.injEq, and_true] at hb
          subst hb
          exact ⟨⟨b, ss, zs⟩, fun _ => ⟨v1, v2, by simpa using e0, by simpa using e1, by simpa using e2, hss, hzs⟩⟩
      · exact ⟨⟨true, [], []⟩, fun h => absurd h him⟩
    obtain ⟨f, hf'⟩ := Classical.axiomOfChoice each
    refine ⟨_, _, _, (List.range len).map f, rfl, by simp, fun hn => ?_⟩
    obtain ⟨sv, rv, h0, _⟩ := hf' 0 (by omega)
    obtain ⟨b, o, rfl⟩ := addr_plain h0 rfl
    have hb : b < W.heap.size := hlt (.cell b o) (List.mem_append_left _ (MemPlace.mem_row.2 ⟨0, by omega, by simp⟩))
    refine ⟨b, o, rfl, hb, by omega, fun i x hx => ?_⟩
    have hil : i < len := by
      have := (List.getElem?_eq_some_iff.1 hx).1
      simpa using this
    have hxf : x = f i := by
      simp [hil] at hx
      exact hx.symm
    subst hxf
    obtain ⟨sv, rv, c0, c1, c2, h3, h4⟩ := hf' i (by omega)
    rw [add_plain] at c0 c1 c2
    exact ⟨sv, rv, c0, by rw [Nat.add_assoc]; exact c1, by rw [Nat.add_assoc]; exact c2, h3, h4⟩
end
end Go.Proofs.Ytaklhkghjklkhaa
