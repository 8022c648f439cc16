/-
  A list of calls as it lies in memory; few. Conditions: none.
-/
import Derived.Test.YtaklhkghjklkhaaLGone
namespace Go.Proofs.Ytaklhkghjklkhaa
open Go.RowKit Go.ChangeShapes Go.WideShapes Go.ChangeAt

structure Ope where
  coll : Bool
  slots : List Sl
  roots : List Int
/-- One call, at block b from o on. -/
def OpAt (w : World) (X : Nat → Prop) (b o : Nat) (x : Ope) : Prop :=
  ∃ sv rv, w.cell? ⟨b, o, none⟩ = some (.bool x.coll) ∧ w.cell? ⟨b, o + 1, none⟩ = some sv ∧ w.cell? ⟨b, o + 2, none⟩ = some rv ∧ Rd w X 2 sv x.slots.length (sflat x.slots) ∧ Rd w X 1 rv x.roots.length (ints x.roots)
def OpsR (w : World) (X : Nat → Prop) (A : Option Addr) (n : Nat) (l : List Ope) : Prop :=
  n = l.length ∧ (0 < n → ∃ b o, A = some ⟨b, o, none⟩ ∧ b < w.heap.size ∧ ¬ X b ∧ ∀ i x, l[i]? = some x → OpAt w X b (o + i * 3) x)
theorem OpAt.keep {w w' : World} {X : Nat → Prop} {b o : Nat} {x : Ope} (h : OpAt w X b o x) (k : Keep (fun _ => False) w w') : OpAt w' X b o x := by
  obtain ⟨sv, rv, h1, h2, h3, h4, h5⟩ := h
  exact ⟨sv, rv, k.cell h1 (fun x => x), k.cell h2 (fun x => x), k.cell h3 (fun x => x), h4.keep k (fun _ x => x.elim), h5.keep k (fun _ x => x.elim)⟩
def fewB (l : List Ope) : Bool := decide (l.length ≤ 60) && l.all fun x => decide (x.slots.length ≤ 40) && decide (x.roots.length ≤ 40)

set_option maxHeartbeats 1000000 in
theorem few_any {A : Option Addr} {n c : Nat} {l : List Ope} {w : World} {X : Nat → Prop} (hr : OpsR w X A n l) : Calls Try.prog 9 #[.slice A n c] w fun e w' => e = .returned (.bool (fewB l)) ∧ w = w' := by
  have hn := hr.1
  by_cases h60 : 60 < n
  · have e : fewB l = false := by
      have : decide (l.length ≤ 60) = false := by simp; omega
      simp [fewB, this]
    rw [e]
    clear hr hn
    go_enter Try.func9, Try.ntmps9
    go_wp2
    go_ret
    exact ⟨rfl, rfl⟩
  · have HR := Lib.hid hr
    have HN := Lib.hid hn
    have h60' : decide (60 < (n : Int)) = false := by simp; omega
    have e60 : decide (l.length ≤ 60) = true := by simp; omega
    have E60 := Lib.hid e60
    clear hr hn e60
    go_enter Try.func9, Try.ntmps9
    go_wp2
    go_loop [3] (fun v => ∃ i : Nat, v = .int .i64 i ∧ i ≤ n ∧ Hid (∀ x ∈ l.take i, x.slots.length ≤ 40 ∧ x.roots.length ≤ 40)) (fun v => n - (intOf v).toNat)
    case atStart => exact ⟨0, rfl, Nat.zero_le _, fun x hx => by simp at hx⟩
    case round =>
      obtain ⟨i, rfl, hi, HG⟩ := hrel
      by_cases hlt : i < n
      · obtain ⟨b, o, rfl, hb, _, hop⟩ := HR.out.2 (by omega)
        obtain ⟨x, hx⟩ : ∃ x, l[i]? = some x := ⟨_, List.getElem?_eq_getElem (by have := HN.out; omega)⟩
        obtain ⟨sv, rv, c0, c1, c2, ⟨_, As, cs, rfl, _⟩, ⟨_, Ar, cr, rfl, _⟩⟩ := hop i x hx
        have HX := Lib.hid hx
        have gen : x.slots.length ≤ 40 → x.roots.length ≤ 40 → Hid (∀ y ∈ l.take (i + 1), y.slots.length ≤ 40 ∧ y.roots.length ≤ 40) := by
          intro h1 h2 y hy
          rw [List.take_add_one, hx] at hy
          rcases List.mem_append.1 hy with hy | hy
          · exact HG.out y hy
          · have : y = x := by simpa using hy
            subst this
            exact ⟨h1, h2⟩
        have GG := Lib.hid gen
        have bad : ¬ (x.slots.length ≤ 40 ∧ x.roots.length ≤ 40) → fewB l = false := by
          intro h
          have : (l.all fun x => decide (x.slots.length ≤ 40) && decide (x.roots.length ≤ 40)) = false := by
            rw [List.all_eq_false]
            refine ⟨x, List.mem_of_getElem? hx, ?_⟩
            simp only [Bool.and_eq_true, decide_eq_true_eq]
            exact h
          simp [fewB, this]
        have BB := Lib.hid bad
        clear hx gen bad hop
        by_cases h1 : 40 < x.slots.length
        · go_wp2
          go_ret
          exact ⟨ret_bool (BB.out (by omega)).symm, rfl⟩
        · by_cases h2 : 40 < x.roots.length
          · go_wp2
            go_ret
            exact ⟨ret_bool (BB.out (by omega)).symm, rfl⟩
          · go_wp2
            go_round
            case rel => exact ⟨i + 1, by go_num, by omega, GG.out (by omega) (by omega)⟩
            case measure => simp [intOf]; omega
      · have hie : i = l.length := by have := HN.out; omega
        have ok : fewB l = true := by
          have : (l.all fun x => decide (x.slots.length ≤ 40) && decide (x.roots.length ≤ 40)) = true := by
            rw [List.all_eq_true]
            intro x hx
            have := HG.out x (by rw [hie, List.take_length]; exact hx)
            simp [this]
          simp [fewB, this, E60.out]
        have OK := Lib.hid ok
        clear ok hie
        go_wp2
        go_ret
        exact ⟨ret_bool OK.out.symm, rfl⟩
theorem fewB_spec {l : List Ope} (h : fewB l = true) : l.length ≤ 60 ∧ ∀ x ∈ l, x.slots.length ≤ 40 ∧ x.roots.length ≤ 40 := by
  simp only [fewB, Bool.and_eq_true, decide_eq_true_eq, List.all_eq_true] at h
  exact h
end Go.Proofs.Ytaklhkghjklkhaa
