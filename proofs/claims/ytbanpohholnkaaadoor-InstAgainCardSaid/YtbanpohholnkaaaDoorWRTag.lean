/-
  Walks: gradusref03's Tag, Same. Conditions: none.
-/
import Derived.Test.YtbanpohholnkaaaDoorWSame
namespace Go.Proofs.YtbanpohholnkaaaDoor
open Go.RowKit

set_option maxHeartbeats 1000000 in
theorem rTag_any {w : World} {X : Nat → Prop} {r : Tv} {t : Ty} (h : TyV w X r t) :
    Calls Tryd.prog 79 #[r.val] w fun e w' => e = .returned (.int .i64 (tagT t)) ∧ Keep (fun _ => False) w w' := by
  have hk := h.out.1.1
  obtain ⟨k, nm, An, nn, cn, Ak, nk, ck⟩ := r
  simp only at hk
  unfold Tv.val tagT
  rw [← hk]
  clear h hk
  simp only
  by_cases h1 : k < 1 ∨ 6 < k
  · rw [if_pos h1]
    have d1 : (k == 1) = false := by rw [beq_eq_false_iff_ne]; omega
    have d2 : (k == 2) = false := by rw [beq_eq_false_iff_ne]; omega
    have d3 : (k == 3) = false := by rw [beq_eq_false_iff_ne]; omega
    have d4 : (k == 4) = false := by rw [beq_eq_false_iff_ne]; omega
    have d5 : (k == 5) = false := by rw [beq_eq_false_iff_ne]; omega
    have d6 : (k == 6) = false := by rw [beq_eq_false_iff_ne]; omega
    go_enter Tryd.func79, Tryd.ntmps79
    go_wp2
    go_ret
    exact ⟨rfl, (Keep.refl _ w).alloc _⟩
  · rw [if_neg h1]
    have hc : k = 1 ∨ k = 2 ∨ k = 3 ∨ k = 4 ∨ k = 5 ∨ k = 6 := by omega
    clear h1
    rcases hc with rfl | rfl | rfl | rfl | rfl | rfl
    all_goals
      go_enter Tryd.func79, Tryd.ntmps79
      go_wp2
      go_ret
      exact ⟨rfl, (Keep.refl _ w).alloc _⟩
end Go.Proofs.YtbanpohholnkaaaDoor
