/-
  The examples of layer 6 in plain Lean. Conditions: none; no program.
-/
import Derived.Test.YtbanpohholnkaaaDoorRelQ
namespace Go.Proofs.YtbanpohholnkaaaDoor

def eQ : Ty := .mk 5 ⟨#[]⟩ [⟨#[97]⟩] [eI]
def eP : Ty := .mk 5 ⟨#[]⟩ [⟨#[97]⟩, ⟨#[98]⟩] [eI, eS]
def eG : Ty := funOf eI eI
theorem NF.normb {t : Ty} (h : NF t) (h1 : t.size ≤ 200) (h2 : t.ht ≤ 16) : normB t = true := by
  rw [normB_iff]
  unfold NormT
  rw [if_neg (by omega)]
  exact h.norm
theorem normb_I : normB eI = true := nf_I.normb (by decide) (by decide)
theorem normb_0 : normB ty0 = true := nf_0.normb (by decide) (by decide)
theorem nf_G : NF eG := .mk _ ⟨rfl, .inr (.inr (.inl ⟨rfl, rfl, rfl⟩))⟩ fun k hk => by
  simp only [eG, funOf, Ty.kids, List.mem_cons, List.not_mem_nil, or_false] at hk
  rcases hk with rfl | rfl
  · exact nf_I
  · exact nf_I
theorem normb_G : normB eG = true := nf_G.normb (by decide) (by decide)
theorem normb_P : normB eP = true := by
  rw [normB_iff]
  unfold NormT
  rw [if_neg (by simp [eP, eI, eS, Ty.ht, htL, Ty.size, sizeL]), normT_eq]
  have h1 : normL eP.kids = some eP.kids := normL_id fun k hk => by
    simp only [eP, Ty.kids, List.mem_cons, List.not_mem_nil, or_false] at hk
    rcases hk with rfl | rfl
    · exact nf_I.norm
    · exact nf_S.norm
  rw [h1]
  unfold headT
  rw [if_neg (by decide), if_pos (by decide), Option.bind_some]
  unfold recT
  rw [if_pos (by decide +kernel)]
  rfl
theorem normb_Q : normB eQ = true := by
  rw [normB_iff]
  unfold NormT
  rw [if_neg (by simp [eQ, eI, Ty.ht, htL, Ty.size, sizeL]), normT_eq]
  have h1 : normL eQ.kids = some eQ.kids := normL_id fun k hk => by
    simp only [eQ, Ty.kids, List.mem_cons, List.not_mem_nil, or_false] at hk
    rw [hk]
    exact nf_I.norm
  rw [h1]
  unfold headT
  rw [if_neg (by decide), if_pos (by decide), Option.bind_some]
  unfold recT
  rw [if_pos (by decide +kernel)]
  rfl
theorem aw_a1 : subT eP eQ = true := by unfold subT; rw [normb_P, normb_Q]; decide +kernel
theorem aw_a2 : fitsT eP eQ = true := by unfold fitsT; rw [normb_P, normb_Q]; decide +kernel
theorem aw_a3 : naiT eP eQ = false := by unfold naiT; rw [normb_P, normb_Q]; decide +kernel
theorem aw_a4 : posT eP eQ = true := by unfold posT; rw [normb_P, normb_Q]; decide +kernel
theorem aw_b1 : fitsT ty0 eI = true := by unfold fitsT; rw [normb_0, normb_I]; decide +kernel
theorem aw_b2 : negT ty0 eI = true := by unfold negT; rw [normb_0, normb_I]; decide +kernel
theorem aw_b3 : subT ty0 eI = false := by unfold subT; rw [normb_0, normb_I]; decide +kernel
theorem aw_b4 : posT ty0 eI = false := by unfold posT; rw [normb_0, normb_I]; decide +kernel
theorem aw_c1 : fitsT eG ty0 = true := by unfold fitsT; rw [normb_0, normb_G]; decide +kernel
theorem aw_c2 : naiT eG ty0 = true := by unfold naiT; rw [normb_0, normb_G]; decide +kernel
theorem aw_c3 : posT eG ty0 = true := by unfold posT; rw [normb_0, normb_G]; decide +kernel
theorem aw_c4 : negT eG ty0 = false := by unfold negT; rw [normb_0, normb_G]; decide +kernel
end Go.Proofs.YtbanpohholnkaaaDoor
