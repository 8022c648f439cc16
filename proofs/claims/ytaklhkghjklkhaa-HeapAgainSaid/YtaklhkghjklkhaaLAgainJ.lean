/-
  HeapAgain: for every number of cells, list of calls and integer the law returns true; nothing that was there is changed. Conditions: none.
-/
import Derived.Test.YtaklhkghjklkhaaLAgain
import Derived.Test.YtaklhkghjklkhaaOpIn
namespace Go.Proofs.Ytaklhkghjklkhaa
open Go.RowKit Go.ChangeShapes Go.WideShapes Go.ChangeAt

theorem again_law (cells : Int) (A : Option Addr) (n c : Nat) (ro : Int) (l : List Ope) (w : World) (hc : cells ≤ 9223372036854775807) (hr : OpsR w (fun k => w.heap.size ≤ k) A n l) :
    Calls Try.prog 3 #[.int .i64 cells, .slice A n c, .int .i64 ro] w fun e w' => e = .returned (.bool true) ∧ Keep (fun _ => False) w w' := by
  by_cases h : fewB l = false ∨ 1000 < cells ∨ cells < 0
  · exact again_out cells A n c ro l w hc hr h
  · obtain ⟨m, rfl⟩ : ∃ m : Nat, cells = m := ⟨cells.toNat, by omega⟩
    refine again_in m A n c ro l w (by omega) hr ?_
    cases hb : fewB l with
    | true => rfl
    | false => exact absurd (.inl hb) h

set_option maxRecDepth 100000 in
theorem again_lifted (os : Os) (started : os.Started) (H : Type) (enc : TypeId × Value → H) :
    ReturnsInHanded {} Try.checked os 3 .any (Rows.heapAgainSpec.pre6 enc Try.prog Try.f3 Rows.heapAgainRow.domain false) (Rows.heapAgainSpec.post enc Try.prog Try.f3 false true false false) := by
  refine returnsInHanded_of_change (C := Try.checked) ownP started (by kernel_rfl) Try.func3
    (ChangeSpec.witness6 (enc := enc) (C := Try.checked) false ⟨#[], #[.int .i64 0, .slice none 0 0, .int .i64 0], []⟩ 8 (by kernel_rfl) (by kernel_rfl) (by kernel_rfl) (by kernel_rfl)) ?_
  intro W base args ds gs before hval0 hW hcnd _
  have hval : ∀ (j : Nat) t v, Try.f3.params[j]? = some t → args[j]? = some v → Value.okWide Try.prog W .any base t v := hval0
  have hW' := hW
  obtain ⟨p, q, hA0, hV, rfl, hfz, hnd⟩ := hW
  have hA : DataW.TrodAll enc Try.prog W 0 (fun _ => true) true Try.f3.params.toList args.toList ds p := hA0
  rw [Try.params3] at hA hval
  obtain ⟨v0, v1, v2, d0, d1, d2, p0, p1, p2, rfl, rfl, rfl, h0, h1, h2⟩ := trodAll_three hA
  obtain ⟨rfl, rfl⟩ := trodVars_none hV
  obtain ⟨a, rfl, rfl, rfl, wa⟩ := open_int Try.underlying3 (hval 0 3 v0 rfl rfl) h0
  obtain ⟨A, n, c, l, rfl, hr⟩ := open_ops (hval 1 22 v1 rfl rfl) h1 (fun x hx => hW'.lt x (by simp [hx]))
  obtain ⟨b, rfl, rfl, rfl, wb⟩ := open_int Try.underlying3 (hval 2 3 v2 rfl rfl) h2
  refine (again_law a A n c b l W ((bounds_i64 wa).2) hr).mono fun e W' ⟨he, hk⟩ => ?_
  exact ⟨_, he, law_post laidOut (by kernel_rfl) (by kernel_rfl) Try.underlying4 rfl hW' rfl rfl rfl hk⟩

/-- THE STATEMENT. -/
theorem heapAgain_holds : Rows.HeapAgainSaid :=
  OpenClaim.holds_of_wide 3 Try.f3 rfl rfl rfl rfl rfl rfl rfl ⟨rfl, rfl, rfl, rfl, rfl⟩ rfl rfl rfl rfl rfl (by kernel_rfl) Try.func3 (by kernel_rfl)
    (of_decide_eq_true (by kernel_rfl)) (by unfold Func.isWrapper; first | (rw [if_pos (by decide +kernel)]; kernel_rfl) | (rw [if_neg (by decide +kernel)]; exact ⟨rfl, rfl⟩))
    (fun os started H enc _ => again_lifted os started H enc)
#print axioms heapAgain_holds
end Go.Proofs.Ytaklhkghjklkhaa
