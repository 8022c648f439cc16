/-
  Walks: named, slots. Conditions: as many names as there are objects in the world.
-/
import Derived.Test.YtaklhkghjklkhaaWorld
namespace Go.Proofs.Ytaklhkghjklkhaa
open Go.RowKit

def nmv (ws : List Wo) (refs : List Int) (k : Int) : Int := if isW ws k then refs.getD k.toNat 0 else -1
def mpS (ws : List Wo) (refs : List Int) (s : Sl) : Sl := if s.ref then ⟨true, nmv ws refs s.n⟩ else s

section
variable {w : World} {Z : Nat → Prop} {p : Nat} {c : Int} {lv : Value} {es : List (Value × Wo)}
set_option maxHeartbeats 1000000 in
theorem named_any {X : Nat → Prop} {A : Option Addr} {n cap : Nat} {refs : List Int} (h : WV w Z p c lv es) (hn : n = es.length) (hr : Rd w X 1 (.slice A n cap) n (ints refs)) (k : Int) :
    Calls Try.prog 14 #[.slice A n cap, .pointer (some ⟨p, 0, none⟩), .int .i64 k] w fun e w' => e = .returned (.int .i64 (nmv (worlds es) refs k)) ∧ w = w' := by
  have hi := wis_any h k
  unfold nmv
  cases hk : isW (worlds es) k with
  | false =>
    rw [hk] at hi
    clear h hr hk hn
    go_enter Try.func14, Try.ntmps14
    go_wp2_with (go_at_call 25; refine hi.mono ?_; rintro e w' ⟨rfl, rfl⟩)
    go_ret
    exact ⟨rfl, rfl⟩
  | true =>
    rw [hk] at hi
    obtain ⟨i, o, rfl, ho, _⟩ := isW_nat hk
    have hil : i < n := by
      have := (List.getElem?_eq_some_iff.1 ho).1
      simp only [worlds, List.length_map] at this
      omega
    obtain ⟨hl, A', c', hv, _, hrr⟩ := hr
    simp only [Value.slice.injEq, true_and] at hv
    obtain ⟨rfl, rfl⟩ := hv
    obtain ⟨b, of, rfl, hb, _, hc⟩ := hrr (by omega)
    have hlr : refs.length = n := by simpa [ints] using hl
    obtain ⟨t, ht⟩ : ∃ t, refs[i]? = some t := ⟨_, List.getElem?_eq_getElem (by omega)⟩
    have c0 : w.cell? ⟨b, of + i, none⟩ = some (.int .i64 t) := by rw [hc i (by omega)]; simp [ints, ht]
    have e : refs.getD ((i : Int).toNat) 0 = t := by simp [List.getD, ht]
    simp only [if_true, e]
    clear h hk hn ho hl hrr hc hlr ht e
    go_enter Try.func14, Try.ntmps14
    go_wp2_with (go_at_call 25; refine hi.mono ?_; rintro e w' ⟨rfl, rfl⟩)
    go_ret
    exact ⟨rfl, rfl⟩

def SlA (w : World) (ws : List Wo) (refs : List Int) (l : List Sl) (n : Nat) (k : Nat) (a b : Value) (wr : World) : Prop :=
  ∃ (i : Nat) (lv : Value), a = lv ∧ b = .int .i64 i ∧ i ≤ n ∧ k = n - i ∧ wr.ownsRow 0 32 2 lv i (sflat ((l.map (mpS ws refs)).take i)) ∧ Keep (fun _ => False) w wr ∧ ∀ g, lv.ownBlock = some g → w.heap.size ≤ g
set_option maxRecDepth 20000 in
set_option maxHeartbeats 2000000 in
theorem slots_any {X Y : Nat → Prop} {A Al : Option Addr} {n cap m cl : Nat} {refs : List Int} {l : List Sl} (h : WV w Z p c lv es) (hn : n = es.length) (hr : Rd w X 1 (.slice A n cap) n (ints refs)) (hm : m = l.length) (hm1 : m ≤ 1000) (hl : Rd w Y 2 (.slice Al m cl) m (sflat l)) :
    Calls Try.prog 16 #[.slice A n cap, .pointer (some ⟨p, 0, none⟩), .slice Al m cl] w fun e w' => ∃ lv', e = .returned lv' ∧ w'.ownsRow 0 32 2 lv' m (sflat (l.map (mpS (worlds es) refs))) ∧ Keep (fun _ => False) w w' ∧ ∀ g, lv'.ownBlock = some g → w.heap.size ≤ g := by
  have HW := Lib.hid (And.intro h (And.intro hn hr))
  have HL := Lib.hid (And.intro hm hl)
  have h0 : Hid (SlA w (worlds es) refs l m m (.slice none 0 0) (.int .i64 0) w) := ⟨0, _, rfl, rfl, Nat.zero_le _, rfl, World.ownsRow_nil w 0 32 2, Keep.refl _ _, fun g hg => by simp [Value.ownBlock] at hg⟩
  clear h hn hr hm hl
  go_enter Try.func16, Try.ntmps16
  go_wp2
  go_loopg [7, 8] m (SlA w (worlds es) refs l m)
  case atStart => exact h0.out
  case round =>
    clear h0
    obtain ⟨i, sv, rfl, rfl, hi, rfl, ho, hk, ha⟩ := hrel
    obtain ⟨As, cs, rfl⟩ := own_slice ho
    by_cases hlt : i < m
    · obtain ⟨hm, hl⟩ := HL.out
      obtain ⟨_, A', c', hv, _, hrr⟩ := hl
      simp only [Value.slice.injEq, true_and] at hv
      obtain ⟨rfl, rfl⟩ := hv
      obtain ⟨b, of, rfl, hb, _, hc⟩ := hrr (by omega)
      obtain ⟨s, hs⟩ : ∃ s, l[i]? = some s := ⟨_, List.getElem?_eq_getElem (by omega)⟩
      obtain ⟨g0, g1⟩ := sflat_get _ _ _ hs
      have c0 : wr.cell? ⟨b, of + i * 2, none⟩ = some (.bool s.ref) := hk.cell (p := ⟨b, of + i * 2, none⟩) (by rw [hc _ (by omega)]; exact g0) (fun x => x)
      have c1 : wr.cell? ⟨b, of + i * 2 + 1, none⟩ = some (.int .i64 s.n) := hk.cell (p := ⟨b, of + i * 2 + 1, none⟩) (by rw [Nat.add_assoc, hc _ (by omega)]; exact g1) (fun x => x)
      have hbz : b < wr.heap.size := Nat.lt_of_lt_of_le hb hk.size
      have hbig : i + 1 ≤ 1099511627776 := by omega
      have HG := Lib.hid (And.intro ho (And.intro hk (And.intro ha hs)))
      clear hm hrr hc hs g0 g1 ho hk ha hb
      cases hsr : s.ref with
      | false =>
        rw [hsr] at c0
        have HSR := Lib.hid hsr
        clear hsr
        go_wp2_with (at_builtin; refine wpList_app rfl (.tmp 28) (.tmp 30) 28 rfl E32 (.slice As i cs) i (sflat ((l.map (mpS (worlds es) refs)).take i)) rfl ((HG.out.1.alloc _).alloc _) (wr.heap.size + 1) 1 1 #[.bool false, .int .i64 s.n] rfl (At.new_at (by simp)) rfl (by simp [Value.oneCell']) (by decide) hbig (by decide) ?_)
        intro g cap5 w5 ho5 hk5 hg5 hgl5
        have H5 := Lib.hid (And.intro ho5 (And.intro hk5 hg5))
        clear ho5 hk5 hg5
        go_wp2_with fail
        go_roundg (m - (i + 1))
        case measure => omega
        case rel =>
          obtain ⟨ho5, hk5, hg5⟩ := H5.out
          obtain ⟨ho, hk, ha, hs⟩ := HG.out
          refine ⟨i + 1, _, rfl, by go_num, by omega, rfl, ?_, ((hk.alloc _).alloc _).trans hk5 (fun j hj hx => by have := ha j hx; omega), fun j hj => ?_⟩
          · rw [List.take_add_one, List.getElem?_map, hs, sflat_append]
            have e : sflat (Option.map (mpS (worlds es) refs) (some s)).toList = [.bool false, .int .i64 s.n] := by simp [sflat, mpS, HSR.out, Sl.vals]
            rw [e]
            exact ho5
          · simp only [Value.ownBlock, Option.some.injEq] at hj
            subst hj
            rcases hg5 with hg5 | hg5
            · exact ha _ hg5
            · have := hk.size; first | omega | (simp at hg5; omega)
      | true =>
        rw [hsr] at c0
        have HSR := Lib.hid hsr
        clear hsr
        obtain ⟨h, hn, hr⟩ := HW.out
        have hnm := named_any ((h.step HG.out.2.1).step ((Keep.refl _ wr).alloc (.cells #[.bool true, .int .i64 s.n] 32))) hn ((hr.keep HG.out.2.1 (fun _ x => x.elim)).keep ((Keep.refl (fun _ => False) wr).alloc (.cells #[.bool true, .int .i64 s.n] 32)) (fun _ x => x.elim)) s.n
        generalize hz : nmv (worlds es) refs s.n = z at *
        have HZ := Lib.hid hz
        clear h hn hr hz
        go_wp2_with (first | (go_at_call 14; refine hnm.mono ?_; rintro e w' ⟨rfl, rfl⟩) | (at_builtin; refine wpList_app rfl (.tmp 28) (.tmp 30) 28 rfl E32 (.slice As i cs) i (sflat ((l.map (mpS (worlds es) refs)).take i)) rfl ((HG.out.1.alloc _).alloc _) (wr.heap.size + 1) 1 1 #[.bool true, .int .i64 z] rfl (At.new_at (by simp)) rfl (by simp [Value.oneCell']) (by decide) hbig (by decide) ?_))
        intro g cap5 w5 ho5 hk5 hg5 hgl5
        have H5 := Lib.hid (And.intro ho5 (And.intro hk5 hg5))
        clear ho5 hk5 hg5 hnm
        go_wp2_with fail
        go_roundg (m - (i + 1))
        case measure => omega
        case rel =>
          obtain ⟨ho5, hk5, hg5⟩ := H5.out
          obtain ⟨ho, hk, ha, hs⟩ := HG.out
          refine ⟨i + 1, _, rfl, by go_num, by omega, rfl, ?_, ((hk.alloc _).alloc _).trans hk5 (fun j hj hx => by have := ha j hx; omega), fun j hj => ?_⟩
          · rw [List.take_add_one, List.getElem?_map, hs, sflat_append]
            have e : sflat (Option.map (mpS (worlds es) refs) (some s)).toList = [.bool true, .int .i64 z] := by simp [sflat, mpS, HSR.out, Sl.vals, HZ.out]
            rw [e]
            exact ho5
          · simp only [Value.ownBlock, Option.some.injEq] at hj
            subst hj
            rcases hg5 with hg5 | hg5
            · exact ha _ hg5
            · have := hk.size; first | omega | (simp at hg5; omega)
    · have hie : i = m := by omega
      subst hie
      have hml := HL.out.1
      rw [List.take_of_length_le (by simp; omega)] at ho
      have HG := Lib.hid (And.intro ho (And.intro hk ha))
      clear ho hk ha hml
      go_wp2_with fail
      go_ret
      exact ⟨_, rfl, HG.out⟩
end
end Go.Proofs.Ytaklhkghjklkhaa
