/-
  Walks: (*Arena).is, take, Used, Objects. Conditions: the arena lies in memory as ArV says; counts below 2^40.
-/
import Derived.Test.YtaklhkghjklkhaaArena
namespace Go.Proofs.Ytaklhkghjklkhaa
open Go.RowKit

theorem E59 : Elem Try.prog 53 59 5 32 := Elem.mk' Try.underlying53 (z := .agg #[.bool false, .int .i64 0, .int .i64 0, .bool false, .bool false]) (by kernel_rfl) rfl (by decide)
theorem E32 : Elem Try.prog 28 32 2 16 := Elem.mk' Try.underlying28 (z := .agg #[.bool false, .int .i64 0]) (by kernel_rfl) rfl (by decide)
theorem E3 : Elem Try.prog 27 3 1 8 := Elem.mk' Try.underlying27 (z := .int .i64 0) (by kernel_rfl) rfl (by decide)

set_option maxHeartbeats 400000 in
theorem is_neg (p : Addr) (r : Int) (w : World) (h : r < 0) :
    Calls Try.prog 21 #[.pointer (some p), .int .i64 r] w fun e w' => e = .returned (.bool false) ∧ w = w' := by
  go_enter Try.func21, Try.ntmps21
  go_wp2
  go_ret
  exact ⟨rfl, rfl⟩
set_option maxHeartbeats 400000 in
theorem is_out (p : Nat) (r n cap : Nat) (A : Option Addr) (w : World) (h0 : w.cell? ⟨p, 0, none⟩ = some (.slice A n cap)) (h : n ≤ r) :
    Calls Try.prog 21 #[.pointer (some ⟨p, 0, none⟩), .int .i64 r] w fun e w' => e = .returned (.bool false) ∧ w = w' := by
  have hd : decide ((r : Int) < (n : Int)) = false := by simp; omega
  go_enter Try.func21, Try.ntmps21
  go_wp2
  go_ret
  exact ⟨rfl, rfl⟩
set_option maxHeartbeats 400000 in
theorem is_in (p g r n cap : Nat) (f : Bool) (w : World) (h0 : w.cell? ⟨p, 0, none⟩ = some (.slice (some ⟨g, 0, none⟩) n cap)) (hr : r < n) (h : w.cell? ⟨g, r * 5 + 3, none⟩ = some (.bool f)) :
    Calls Try.prog 21 #[.pointer (some ⟨p, 0, none⟩), .int .i64 r] w fun e w' => e = .returned (.bool f) ∧ w = w' := by
  go_enter Try.func21, Try.ntmps21
  go_wp2
  go_ret
  exact ⟨rfl, rfl⟩
/-- is -/
theorem is_any {p : Nat} {v : Value} {S : Ar} {w : World} (h : ArV w p v S) (r : Int) :
    Calls Try.prog 21 #[.pointer (some ⟨p, 0, none⟩), .int .i64 r] w fun e w' => e = .returned (.bool (isB S r)) ∧ w = w' := by
  by_cases hr : r < 0
  · rw [isB_neg hr]; exact is_neg _ r w hr
  · obtain ⟨k, rfl⟩ : ∃ k : Nat, r = k := ⟨r.toNat, by omega⟩
    by_cases hk : S.cs.length ≤ k
    · obtain ⟨A, cap, rfl⟩ := h.val
      rw [isB_out hk]
      exact is_out p k _ cap A w h.lens.1 hk
    · obtain ⟨g, cap, rfl, _, _, _, _, hc⟩ := h.form (i := k) (by omega)
      have hkk : S.cs[k]? = some S.cs[k] := List.getElem?_eq_getElem (by omega)
      rw [isB_at hkk]
      exact is_in p g k _ cap _ w h.lens.1 (by omega) (hc k _ hkk).2.2.2.1

set_option maxHeartbeats 400000 in
theorem used_any {p : Nat} {v : Value} {S : Ar} {w : World} (h : ArV w p v S) :
    Calls Try.prog 13 #[.pointer (some ⟨p, 0, none⟩)] w fun e w' => e = .returned (.int .i64 S.used) ∧ w = w' := by
  have h3 := h.lens.2.2.2.1
  clear h
  go_enter Try.func13, Try.ntmps13
  go_wp2
  go_ret
  exact ⟨rfl, rfl⟩
set_option maxHeartbeats 400000 in
theorem objects_any {p : Nat} {v : Value} {S : Ar} {w : World} (h : ArV w p v S) :
    Calls Try.prog 20 #[.pointer (some ⟨p, 0, none⟩)] w fun e w' => e = .returned (.int .i64 S.objects) ∧ w = w' := by
  have h3 := h.lens.2.2.2.2
  clear h
  go_enter Try.func20, Try.ntmps20
  go_wp2
  go_ret
  exact ⟨rfl, rfl⟩

def cellv (c : Ce) : Value := .agg #[.bool c.ref, .int .i64 c.n, .int .i64 c.next, .bool c.first, .bool c.mark]

set_option maxHeartbeats 1000000 in
theorem take_old {p g cap f : Nat} {S : Ar} {d : Ce} (c : Ce) {w : World} (h : ArV w p (.slice (some ⟨g, 0, none⟩) S.cs.length cap) S) (hfree : S.free = f) (hd : S.cs[f]? = some d)
    (hu0 : 0 ≤ S.used) (hu1 : S.used < 1099511627776) :
    Calls Try.prog 22 #[.pointer (some ⟨p, 0, none⟩), cellv c] w fun e w' => e = .returned (.int .i64 f) ∧ ArV w' p (.slice (some ⟨g, 0, none⟩) S.cs.length cap) (takeOld S f d.next c) ∧ Keep (fp p (.slice (some ⟨g, 0, none⟩) S.cs.length cap)) w w' := by
  have hf : f < S.cs.length := (List.getElem?_eq_some_iff.1 hd).1
  obtain ⟨g', cap', hv, hc, hg, hpg, fg, hcell⟩ := h.form hf
  simp only [Value.slice.injEq, Option.some.injEq, Addr.mk.injEq, and_true, true_and] at hv
  obtain ⟨rfl, rfl⟩ := hv
  obtain ⟨h0, h1, h2, h3, h4⟩ := h.lens
  obtain ⟨c0, c1, c2, c3, c4⟩ := hcell f d hd
  rw [hfree] at h2
  have fr : ∀ o, w.frozen? ⟨p, o, none⟩ = false := h.head.frozen
  have hp := h.head.lt
  have hne : ((f : Int) == -1) = false := by simp
  have H := Lib.hid h
  have Hd := Lib.hid hd
  have Hf := Lib.hid hfree
  clear h hd hfree hcell h1 h4
  unfold cellv
  go_enter Try.func22, Try.ntmps22
  go_wp2
  go_region
  go_wp2
  go_ret
  refine ⟨rfl, ?_, ?_⟩
  · have h := H.out
    have hd := Hd.out
    have o1 := ownsRow_setCell_ne h.own (a := ⟨p, 2, none⟩) (by simpa [Value.ownBlock] using hpg.symm) (.int .i64 d.next)
    have o2 := (((((o1.stored (f * 5) (.bool c.ref)).1.stored (f * 5 + 1) (.int .i64 c.n)).1.stored (f * 5 + 2) (.int .i64 c.next)).1.stored (f * 5 + 3) (.bool c.first)).1.stored (f * 5 + 4) (.bool c.mark)).1
    rw [← flat_set S.cs f c d hd] at o2
    have o3 := ownsRow_setCell_ne o2 (a := ⟨p, 3, none⟩) (by simpa [Value.ownBlock] using hpg.symm) (.int .i64 (S.used + 1))
    refine ⟨?_, ?_⟩
    · have b1 := (h.head.set 2 (.int .i64 d.next))
      have b2 := ((((b1.far (p := ⟨g, f * 5, none⟩) hpg (.bool c.ref)).far (p := ⟨g, f * 5 + 1, none⟩) hpg (.int .i64 c.n)).far (p := ⟨g, f * 5 + 2, none⟩) hpg (.int .i64 c.next)).far (p := ⟨g, f * 5 + 3, none⟩) hpg (.bool c.first)).far (p := ⟨g, f * 5 + 4, none⟩) hpg (.bool c.mark)
      exact ((b2.set 3 (.int .i64 (S.used + 1))).alloc _).drew
    · simp only [takeOld, List.length_set]
      exact (o3.alloc _).drew
  · refine ((((((((Keep.refl _ _).setCell ?_ _).setCell ?_ _).setCell ?_ _).setCell ?_ _).setCell ?_ _).setCell ?_ _).setCell ?_ _).alloc _ |>.drew
    all_goals simp [fp, Value.ownBlock]

set_option maxHeartbeats 1000000 in
theorem take_new {p : Nat} {v : Value} {S : Ar} (c : Ce) {w : World} (h : ArV w p v S) (hfree : S.free = -1)
    (hu0 : 0 ≤ S.used) (hu1 : S.used < 1099511627776) (hn : S.cs.length < 1099511627776) :
    Calls Try.prog 22 #[.pointer (some ⟨p, 0, none⟩), cellv c] w fun e w' => e = .returned (.int .i64 S.cs.length) ∧ ∃ v', ArV w' p v' (takeNew S c) ∧ Keep (fp p v) w w' ∧ ∀ i, fp p v' i → fp p v i ∨ w.heap.size ≤ i := by
  obtain ⟨A, cap, rfl⟩ := h.val
  obtain ⟨h0, h1, h2, h3, h4⟩ := h.lens
  have fr : ∀ o, w.frozen? ⟨p, o, none⟩ = false := h.head.frozen
  have hp := h.head.lt
  rw [hfree] at h2
  have H := Lib.hid h
  have Hf := Lib.hid hfree
  clear h hfree h1 h4
  unfold cellv
  go_enter Try.func22, Try.ntmps22
  go_wp2
  go_region_law (refine step_app rfl (.tmp 21) (.tmp 23) 53 rfl E59 (.slice A S.cs.length cap) S.cs.length (flat S.cs) rfl (((H.out.own.alloc _).alloc _).drew) (w.heap.size + 1) 1 1 #[.bool c.ref, .int .i64 c.n, .int .i64 c.next, .bool c.first, .bool c.mark] rfl ((At.new_at (by simp)).drew) rfl (by simp [Value.oneCell']) (by decide) (by omega) (by decide) ?_; intro g cap' w' ho hk hg hgl; have ha := hk.at_ (((H.out.head.alloc _).alloc _).drew) (own_at H.out.own H.out.head (by decide)); have hz3 : w'.cell? ⟨p, 3, none⟩ = some (.int .i64 S.used) := ha.cell 3; have hz0 : w'.cell? ⟨p, 0, none⟩ = some (.slice A S.cs.length cap) := ha.cell 0; have hzf := ha.frozen)
  all_goals
    go_wp2
    go_ret
    have hgp : g ≠ p := own_ne_at ho ha (by decide)
    refine ⟨rfl, _, ⟨(ha.set 0 _).set 3 _, ?_⟩, ?_, ?_⟩
    · have e : flat (takeNew S c).cs = flat S.cs ++ [.bool c.ref, .int .i64 c.n, .int .i64 c.next, .bool c.first, .bool c.mark] := by simp [takeNew, flat, Ce.vals]
      have el : (takeNew S c).cs.length = S.cs.length + 1 := by simp [takeNew]
      rw [e, el]
      exact ownsRow_setCell_ne (ownsRow_setCell_ne ho (a := ⟨p, 0, none⟩) (by simpa [Value.ownBlock] using hgp) _) (a := ⟨p, 3, none⟩) (by simpa [Value.ownBlock] using hgp) _
    · refine Keep.setCell (Keep.setCell (((((Keep.refl (fp p (.slice A S.cs.length cap)) w).alloc _).alloc _).drew).trans hk (fun i _ hi => .inr hi)) ?_ _) ?_ _
      all_goals simp [fp]
    · intro i hi
      rcases hi with hi | hi
      · exact .inl (.inl hi)
      · have : g = i := by simpa [Value.ownBlock] using hi
        subst this
        rcases hg with hg | hg
        · exact .inl (.inr hg)
        · right; simp at hg; omega
end Go.Proofs.Ytaklhkghjklkhaa
