/-
  Walks: what marks hands to each; (*Arena).Get. Conditions: the arena lies in memory, the object's cells form a chain.
-/
import Derived.Test.YtaklhkghjklkhaaWEach
namespace Go.Proofs.Ytaklhkghjklkhaa
open Go.RowKit

def ints (l : List Int) : List Value := l.map (Value.int .i64)
theorem ints_append (l m : List Int) : ints (l ++ m) = ints l ++ ints m := by simp [ints]
/-- what marks' function value adds -/
def adds (s : Sl) : List Int := if s.ref then [s.n] else []

set_option maxHeartbeats 1000000 in
theorem mk1_yes {q g o n : Nat} {lv : Value} {xs : List Int} {sn : Int} {w : World} (hq : At w q 27 #[lv]) (ho : w.ownsRow 0 3 1 lv n (ints xs)) (c0 : w.cell? ⟨g, o, none⟩ = some (.bool true)) (c1 : w.cell? ⟨g, o + 1, none⟩ = some (.int .i64 sn)) (hn : n < 1099511627775) :
    Calls Try.prog 30 #[.pointer (some ⟨g, o, none⟩), .pointer (some ⟨q, 0, none⟩)] w fun e w' => e = .returned (.tuple #[]) ∧ ∃ lv', At w' q 27 #[lv'] ∧ w'.ownsRow 0 3 1 lv' (n + 1) (ints (xs ++ [sn])) ∧ Keep (fun k => k = q ∨ lv.ownBlock = some k) w w' ∧ ∀ i, lv'.ownBlock = some i → lv.ownBlock = some i ∨ w.heap.size ≤ i := by
  obtain ⟨A, cap, rfl⟩ : ∃ A cap, lv = .slice A n cap := by
    rcases own_cases ho with ⟨rfl, rfl, _⟩ | ⟨g, cap, rfl, _⟩
    · exact ⟨none, 0, rfl⟩
    · exact ⟨_, cap, rfl⟩
  have q0 : w.cell? ⟨q, 0, none⟩ = some (.slice A n cap) := hq.cell 0
  have hqz := hq.lt
  have hgz := World.block_lt_of_cell? _ _ c0
  have HQ := Lib.hid hq
  have HO := Lib.hid ho
  clear hq ho
  go_enter Try.func30, Try.ntmps30
  go_wp2
  go_region_law (refine step_app rfl (.tmp 8) (.tmp 14) 27 rfl E3 (.slice A n cap) n (ints xs) rfl ((HO.out.alloc _).drew) w.heap.size 1 1 #[.int .i64 sn] rfl ((At.new_at (by simp)).drew) rfl (by simp [Value.oneCell']) (by decide) (by omega) (by decide) ?_; intro g' cap' w' ho' hk hg hgl; have ha := hk.at_ ((HQ.out.alloc _).drew) (own_at HO.out HQ.out (by decide)); have hz0 : w'.cell? ⟨q, 0, none⟩ = some (.slice A n cap) := ha.cell 0; have hzf := ha.frozen)
  all_goals
    go_end0
    have hgp : g' ≠ q := own_ne_at ho' ha (by decide)
    refine ⟨rfl, _, ha.set 0 _, ?_, ?_, ?_⟩
    · have e : ints (xs ++ [sn]) = ints xs ++ [.int .i64 sn] := by simp [ints]
      rw [e]
      exact ownsRow_setCell_ne ho' (a := ⟨q, 0, none⟩) (by simpa [Value.ownBlock] using hgp) _
    · refine Keep.setCell ((((Keep.refl (fun k => k = q ∨ Value.ownBlock (.slice A n cap) = some k) w).alloc _).drew).trans hk (fun i _ hi => .inr hi)) (.inl (.inl rfl)) _
    · intro i hi
      have : g' = i := by simpa [Value.ownBlock] using hi
      subst this
      rcases hg with hg | hg
      · exact .inl hg
      · right; simp at hg; omega
set_option maxHeartbeats 1000000 in
theorem mk1_no {q g o : Nat} {w : World} (c0 : w.cell? ⟨g, o, none⟩ = some (.bool false)) :
    Calls Try.prog 30 #[.pointer (some ⟨g, o, none⟩), .pointer (some ⟨q, 0, none⟩)] w fun e w' => e = .returned (.tuple #[]) ∧ w = w' := by
  go_enter Try.func30, Try.ntmps30
  go_wp2
  go_end0
  exact ⟨rfl, rfl⟩
theorem mk1_any {q g o n : Nat} {lv : Value} {xs : List Int} {s : Sl} {w : World} (hq : At w q 27 #[lv]) (ho : w.ownsRow 0 3 1 lv n (ints xs)) (c0 : w.cell? ⟨g, o, none⟩ = some (.bool s.ref)) (c1 : w.cell? ⟨g, o + 1, none⟩ = some (.int .i64 s.n)) (hn : n < 1099511627775) :
    Calls Try.prog 30 #[.pointer (some ⟨g, o, none⟩), .pointer (some ⟨q, 0, none⟩)] w fun e w' => e = .returned (.tuple #[]) ∧ ∃ lv', At w' q 27 #[lv'] ∧ w'.ownsRow 0 3 1 lv' (n + (adds s).length) (ints (xs ++ adds s)) ∧ Keep (fun k => k = q ∨ lv.ownBlock = some k) w w' ∧ ∀ i, lv'.ownBlock = some i → lv.ownBlock = some i ∨ w.heap.size ≤ i := by
  cases hs : s.ref with
  | true => rw [hs] at c0; simpa [adds, hs] using mk1_yes hq ho c0 c1 hn
  | false =>
    rw [hs] at c0
    refine (mk1_no c0).mono ?_
    rintro e w' ⟨rfl, rfl⟩
    exact ⟨rfl, lv, hq, by simpa [adds, hs] using ho, Keep.refl _ _, fun i hi => .inl hi⟩

/-- The slots of cells. -/
def slotsOf (cs : List Ce) (l : List Nat) : List Sl := l.map fun k => ((cs[k]?).map Ce.sl).getD ⟨false, 0⟩
theorem slotsOf_take {cs : List Ce} {l : List Nat} {k j : Nat} {c : Ce} (h : l[k]? = some j) (hc : cs[j]? = some c) : slotsOf cs (l.take (k + 1)) = slotsOf cs (l.take k) ++ [c.sl] := by
  simp [slotsOf, List.take_add_one, h, hc]

def GetI (w : World) (p : Nat) (v : Value) (S : Ar) (q : Nat) (l : List Nat) (k : Nat) (W : World) : Prop :=
  ArV W p v S ∧ ∃ lv, At W q 28 #[lv] ∧ W.ownsRow 0 32 2 lv (l.take k).length (sflat (slotsOf S.cs (l.take k))) ∧ Keep (fun _ => False) w W ∧ ∀ i, lv.ownBlock = some i → w.heap.size ≤ i

theorem call29 (args : Array Value) (W : World) : (callFunc 29 args).run Try.prog W = .ok (.enter 29 args) W := by kernel_rfl
theorem call30 (args : Array Value) (W : World) : (callFunc 30 args).run Try.prog W = .ok (.enter 30 args) W := by kernel_rfl

theorem get_step {p q : Nat} {v : Value} {S : Ar} {l : List Nat} {i : Int} {w : World} (hp : p < w.heap.size) (hv : ∀ k, v.ownBlock = some k → k < w.heap.size) (hq : w.heap.size ≤ q) (hch : chain S.cs i l) (hl : l.length < 1099511627775) :
    EachStep Try.prog 29 #[.pointer (some ⟨q, 0, none⟩)] v S l (GetI w p v S q l) := by
  intro k j g cap hvv hlk W ⟨ha, lv, hq1, ho, hk, hf⟩
  have hkl := (List.getElem?_eq_some_iff.1 hlk).1
  have hj : j < S.cs.length := chain_lt hch j (List.mem_of_getElem? hlk)
  have hjc : S.cs[j]? = some S.cs[j] := List.getElem?_eq_getElem hj
  obtain ⟨g', cap', hv', _, _, _, _, hcell⟩ := ha.form hj
  rw [hvv] at hv'
  simp only [Value.slice.injEq, Option.some.injEq, Addr.mk.injEq, and_true, true_and] at hv'
  obtain ⟨rfl, rfl⟩ := hv'
  obtain ⟨c0, c1, _⟩ := hcell j _ hjc
  have hlen : (l.take k).length = k := by simp; omega
  rw [hlen] at ho
  refine (get1_any (s := (S.cs[j]).sl) hq1 ho c0 c1 (by omega)).mono ?_
  rintro e W' ⟨rfl, lv', hq', ho', hk', hf'⟩
  refine ⟨rfl, ha.keep hk' ?_, lv', hq', ?_, hk.trans hk' ?_, ?_⟩
  · intro i hi hx
    have hlt : i < w.heap.size := by
      rcases hi with rfl | hi
      · exact hp
      · exact hv i hi
    rcases hx with rfl | hx
    · omega
    · have := hf i hx; omega
  · rw [slotsOf_take hlk hjc]
    have : (l.take (k + 1)).length = k + 1 := by simp; omega
    rw [this]
    exact ho'
  · intro i hi hx
    rcases hx with rfl | hx
    · omega
    · have := hf i hx; omega
  · intro i hi
    rcases hf' i hi with h | h
    · exact hf i h
    · have := hk.size; omega

set_option maxHeartbeats 1000000 in
theorem get_no {p : Nat} {v : Value} {S : Ar} {w : World} {r : Int} (h : ArV w p v S) (hr : isB S r = false) :
    Calls Try.prog 19 #[.pointer (some ⟨p, 0, none⟩), .int .i64 r] w fun e w' => e = .returned (.tuple #[.slice none 0 0, .bool false]) ∧ w = w' := by
  have HI := is_any h r
  rw [hr] at HI
  clear h hr
  go_enter Try.func19, Try.ntmps19
  go_wp2_with (go_at_call 21; refine HI.mono ?_; rintro e w' ⟨rfl, rfl⟩)
  go_ret2
  exact ⟨rfl, rfl⟩
set_option maxHeartbeats 1000000 in
theorem get_yes {p r : Nat} {v : Value} {S : Ar} {c : Ce} {l : List Nat} {w : World} (h : ArV w p v S) (hc : S.cs[r]? = some c) (hfi : c.first = true) (hch : chain S.cs c.next l) (hl : l.length < 1099511627775) :
    Calls Try.prog 19 #[.pointer (some ⟨p, 0, none⟩), .int .i64 r] w fun e w' => ∃ lv, e = .returned (.tuple #[lv, .bool true]) ∧ w'.ownsRow 0 32 2 lv l.length (sflat (slotsOf S.cs l)) ∧ Keep (fun _ => False) w w' ∧ ∀ i, lv.ownBlock = some i → w.heap.size ≤ i := by
  have HI := is_any h r
  rw [isB_at hc, hfi] at HI
  have hp := h.head.lt
  have HE := each_any (p := p) (r := r) (v := v) (w := w.alloc (.cells #[.slice none 0 0] 28)) (f := 29) (capt := #[.pointer (some ⟨w.heap.size, 0, none⟩)]) (GetI w p v S w.heap.size l) (fun k W hi => hi.1)
    ⟨h.keep ((Keep.refl (fun _ => False) w).alloc _) (fun i hi hx => hx), .slice none 0 0, At.new w _ _, by simpa [slotsOf, sflat] using World.ownsRow_nil _ 0 32 2, (Keep.refl _ w).alloc _, fun i hi => by simp [Value.ownBlock] at hi⟩ hc hch
    (get_step hp (fun k hk => own_lt h.own hk) (Nat.le_refl _) hch hl) call29
  have hr : r < S.cs.length := (List.getElem?_eq_some_iff.1 hc).1
  clear h hc hfi hch
  go_enter Try.func19, Try.ntmps19
  go_wp2_with (first | (go_at_call 21; refine HI.mono ?_; rintro e w' ⟨rfl, rfl⟩) | (go_at_call 28; refine HE.mono ?_; rintro e w' ⟨rfl, hi⟩; obtain ⟨_, lv, hq, ho, hk, hf⟩ := hi; have hq0 : w'.cell? ⟨w.heap.size, 0, none⟩ = some lv := hq.cell 0; have HX := Lib.hid (And.intro ho (And.intro hk hf)); clear ho hk hf hq))
  go_ret2
  obtain ⟨ho, hk, hf⟩ := HX.out
  rw [List.take_length] at ho
  exact ⟨_, rfl, ho, hk, hf⟩
end Go.Proofs.Ytaklhkghjklkhaa
