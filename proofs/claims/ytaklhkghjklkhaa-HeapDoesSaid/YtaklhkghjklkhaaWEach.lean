/-
  Walks: (*Arena).each, and the two function values that are handed to it. Conditions: the arena lies in memory, the object's cells form a chain.
-/
import Derived.Test.YtaklhkghjklkhaaWDrop
namespace Go.Proofs.Ytaklhkghjklkhaa
open Go.RowKit

def EachInv (S : Ar) (l : List Nat) (I : Nat → World → Prop) (k : Nat) (a : Value) (wr : World) : Prop :=
  ∃ j i, a = .int .i64 i ∧ j ≤ l.length ∧ k = l.length - j ∧ chain S.cs i (l.drop j) ∧ I j wr
def EachStep (P : Program) (f : FuncId) (capt : Array Value) (v : Value) (S : Ar) (l : List Nat) (I : Nat → World → Prop) : Prop :=
  ∀ k j g cap, v = .slice (some ⟨g, 0, none⟩) S.cs.length cap → l[k]? = some j → ∀ W, I k W → Calls P f (#[.pointer (some ⟨g, j * 5, none⟩)] ++ capt) W (fun e W' => e = .returned (.tuple #[]) ∧ I (k + 1) W')

set_option maxHeartbeats 1000000 in
theorem each_any {p r : Nat} {v : Value} {S : Ar} {l : List Nat} {c : Ce} {w : World} {f : FuncId} {capt : Array Value} (I : Nat → World → Prop) (hI : ∀ k W, I k W → ArV W p v S) (h0 : I 0 w) (hc : S.cs[r]? = some c) (hch : chain S.cs c.next l)
    (hstep : EachStep Try.prog f capt v S l I) (hf : ∀ args W, (callFunc f args).run Try.prog W = .ok (.enter f args) W) :
    Calls Try.prog 28 #[.pointer (some ⟨p, 0, none⟩), .int .i64 r, .func (.func f) #[] capt] w fun e w' => e = .returned (.tuple #[]) ∧ I l.length w' := by
  have HI := Lib.hid hI
  have HS := Lib.hid hstep
  have h := hI 0 w h0
  have hr : r < S.cs.length := (List.getElem?_eq_some_iff.1 hc).1
  obtain ⟨g, cap, rfl, hcc, hg, hpg, fg, hcell⟩ := h.form hr
  obtain ⟨z0, _⟩ := h.lens
  have z2 := (hcell r c hc).2.2.1
  have H0 : Hid (EachInv S l I l.length (.int .i64 c.next) w) := ⟨0, c.next, rfl, Nat.zero_le _, rfl, hch, h0⟩
  clear hI hstep h h0 hc hch hcell
  go_enter Try.func28, Try.ntmps28
  go_wp2
  go_loopg [6] l.length (EachInv S l I)
  case atStart => exact H0.out
  case round =>
    clear H0 z0 z2
    obtain ⟨j, i, rfl, hj, rfl, hch, hi⟩ := hrel
    have h := HI.out j wr hi
    obtain ⟨z0, _⟩ := h.lens
    cases hl : l.drop j with
    | nil =>
      rw [hl] at hch
      have hi' : i = -1 := hch
      subst hi'
      have hjl : j = l.length := by have := congrArg List.length hl; simp at this; omega
      subst hjl
      clear hch hl h
      have HX := Lib.hid hi
      clear hi
      go_wp2
      go_end0
      exact ⟨rfl, HX.out⟩
    | cons k rest =>
      rw [hl] at hch
      obtain ⟨rfl, d, hd, hch2⟩ := hch
      have hkl : k < S.cs.length := (List.getElem?_eq_some_iff.1 hd).1
      have hlk : l[j]? = some k := by
        have := congrArg (·[0]?) hl
        simpa using this
      have hrest : l.drop (j + 1) = rest := by
        have := congrArg (List.drop 1) hl
        simpa [List.drop_drop, Nat.add_comm] using this
      have hjl : j < l.length := (List.getElem?_eq_some_iff.1 hlk).1
      have hne : ((k : Int) != -1) = true := by simp
      have HC := HS.out j k g cap rfl hlk wr hi
      have HH := Lib.hid (And.intro hd (And.intro hch2 (And.intro hrest hi)))
      have HCC := Lib.hid HC
      have hp := h.head.lt
      clear hd hch2 hrest hi HC hl hlk h
      go_wp2_with fail
      refine HCC.out.mono ?_
      rintro e W' ⟨rfl, hi'⟩
      obtain ⟨hd, hch2, hrest, hi⟩ := HH.out
      have h' := HI.out _ W' hi'
      obtain ⟨y0, _⟩ := h'.lens
      obtain ⟨g', cap', hv', _, _, _, _, hcell'⟩ := h'.form hkl
      simp only [Value.slice.injEq, Option.some.injEq, Addr.mk.injEq, and_true, true_and] at hv'
      obtain ⟨rfl, rfl⟩ := hv'
      have y2 := (hcell' k d hd).2.2.1
      have HH' := Lib.hid (And.intro hch2 (And.intro hrest hi'))
      clear hd hch2 hrest hi hi' h' hcell' z0
      go_wp2
      go_roundg (l.length - (j + 1))
      case measure => omega
      case rel =>
        obtain ⟨hch2, hrest, hi'⟩ := HH'.out
        exact ⟨j + 1, d.next, rfl, hjl, rfl, by rw [hrest]; exact hch2, hi'⟩

set_option maxHeartbeats 1000000 in
theorem get1_any {q g o n : Nat} {lv : Value} {xs : List Sl} {s : Sl} {w : World} (hq : At w q 28 #[lv]) (ho : w.ownsRow 0 32 2 lv n (sflat xs)) (c0 : w.cell? ⟨g, o, none⟩ = some (.bool s.ref)) (c1 : w.cell? ⟨g, o + 1, none⟩ = some (.int .i64 s.n)) (hn : n < 1099511627775) :
    Calls Try.prog 29 #[.pointer (some ⟨g, o, none⟩), .pointer (some ⟨q, 0, none⟩)] w fun e w' => e = .returned (.tuple #[]) ∧ ∃ lv', At w' q 28 #[lv'] ∧ w'.ownsRow 0 32 2 lv' (n + 1) (sflat (xs ++ [s])) ∧ Keep (fun k => k = q ∨ lv.ownBlock = some k) w w' ∧ ∀ i, lv'.ownBlock = some i → lv.ownBlock = some i ∨ w.heap.size ≤ i := by
  obtain ⟨A, cap, rfl⟩ : ∃ A cap, lv = .slice A n cap := by
    rcases own_cases ho with ⟨rfl, rfl, _⟩ | ⟨g, cap, rfl, _⟩
    · exact ⟨none, 0, rfl⟩
    · exact ⟨_, cap, rfl⟩
  have q0 : w.cell? ⟨q, 0, none⟩ = some (.slice A n cap) := hq.cell 0
  have hqz := hq.lt
  have hgz := World.block_lt_of_cell? _ _ c0
  have HQ := Lib.hid hq
  have HO := Lib.hid ho
  clear hq ho
  go_enter Try.func29, Try.ntmps29
  go_wp2
  go_region_law (refine step_app rfl (.tmp 3) (.tmp 8) 28 rfl E32 (.slice A n cap) n (sflat xs) rfl ((HO.out.alloc _).drew) w.heap.size 1 1 #[.bool s.ref, .int .i64 s.n] rfl ((At.new_at (by simp)).drew) rfl (by simp [Value.oneCell']) (by decide) (by omega) (by decide) ?_; intro g' cap' w' ho' hk hg hgl; have ha := hk.at_ ((HQ.out.alloc _).drew) (own_at HO.out HQ.out (by decide)); have hz0 : w'.cell? ⟨q, 0, none⟩ = some (.slice A n cap) := ha.cell 0; have hzf := ha.frozen)
  all_goals
    go_end0
    have hgp : g' ≠ q := own_ne_at ho' ha (by decide)
    refine ⟨rfl, _, ha.set 0 _, ?_, ?_, ?_⟩
    · have e : sflat (xs ++ [s]) = sflat xs ++ [.bool s.ref, .int .i64 s.n] := by simp [sflat, Sl.vals]
      rw [e]
      exact ownsRow_setCell_ne ho' (a := ⟨q, 0, none⟩) (by simpa [Value.ownBlock] using hgp) _
    · refine Keep.setCell ((((Keep.refl (fun k => k = q ∨ Value.ownBlock (.slice A n cap) = some k) w).alloc _).drew).trans hk (fun i _ hi => .inr hi)) (.inl (.inl rfl)) _
    · intro i hi
      have : g' = i := by simpa [Value.ownBlock] using hi
      subst this
      rcases hg with hg | hg
      · exact .inl hg
      · right; simp at hg; omega
end Go.Proofs.Ytaklhkghjklkhaa
