/-
  The chapter's examples in plain Lean. Conditions: none; no program.
-/
import Derived.Test.YtbanpohholnkaaaDoorNf
namespace Go.Proofs.YtbanpohholnkaaaDoor

theorem uniT_flat {kids K : List Ty} (hr : Rise K) (h : ∀ x, x ∈ flatU kids ↔ x ∈ K) : uniT kids = uniOf K := by
  have ho : OkTags (flatU kids) := ⟨fun x hx => hr.1 x ((h x).1 hx), fun x hx y hy => hr.ok.2 x ((h x).1 hx) y ((h y).1 hy)⟩
  obtain ⟨K', hr', hm, he⟩ := uniT_yes ho
  rw [he, Rise.unique hr' hr fun x => by rw [hm, h]]
def eI : Ty := .mk 3 ⟨#[]⟩ [] []
def eN : Ty := .mk 1 ⟨#[]⟩ [] []
def eS : Ty := .mk 4 ⟨#[]⟩ [] []
def eU2 : Ty := .mk 7 ⟨#[]⟩ [] [eN, eI]
def eU : Ty := .mk 7 ⟨#[]⟩ [] [eS, eU2]
def eF : Ty := .mk 6 ⟨#[]⟩ [] [eI, ty0]
def eR : Ty := .mk 5 ⟨#[]⟩ [⟨#[98]⟩, ⟨#[97]⟩] [eI, eF]
def eW : Ty := .mk 7 ⟨#[]⟩ [] [ty0, eI]
def eA : Ty := .mk 7 ⟨#[]⟩ [] [eN, eI, eS]
def eB : Ty := .mk 5 ⟨#[]⟩ [⟨#[97]⟩, ⟨#[98]⟩] [eF, eI]
theorem nf_base (k : Int) (h : 0 ≤ k ∧ k ≤ 4) : NF (.mk k ⟨#[]⟩ [] []) := .mk _ ⟨rfl, .inl ⟨h.1, h.2, rfl, rfl⟩⟩ fun x hx => by simp [Ty.kids] at hx
theorem nf_I : NF eI := nf_base 3 (by decide)
theorem nf_N : NF eN := nf_base 1 (by decide)
theorem nf_S : NF eS := nf_base 4 (by decide)
theorem nf_0 : NF ty0 := nf_base 0 (by decide)
theorem nf_U2 : NF eU2 := .mk _ ⟨rfl, .inr (.inr (.inr ⟨rfl, rfl, by decide, by simp [Rise, eU2, Ty.kids, tagT, eN, eI, Ty.kind]⟩))⟩ fun k hk => by
  simp only [eU2, Ty.kids, List.mem_cons, List.not_mem_nil, or_false] at hk
  rcases hk with rfl | rfl
  · exact nf_N
  · exact nf_I
theorem nf_F : NF eF := .mk _ ⟨rfl, .inr (.inr (.inl ⟨rfl, rfl, rfl⟩))⟩ fun k hk => by
  simp only [eF, Ty.kids, List.mem_cons, List.not_mem_nil, or_false] at hk
  rcases hk with rfl | rfl
  · exact nf_I
  · exact nf_0
theorem norm_U : NormT eU = some eA := by
  unfold NormT
  rw [if_neg (by simp [eU, eU2, eS, eN, eI, Ty.ht, htL, Ty.size, sizeL]), normT_eq]
  have h1 : normL eU.kids = some eU.kids := normL_id fun k hk => by
    simp only [eU, Ty.kids, List.mem_cons, List.not_mem_nil, or_false] at hk
    rcases hk with rfl | rfl
    · exact nf_S.norm
    · exact nf_U2.norm
  rw [h1]
  unfold headT
  rw [if_neg (by decide), if_neg (by decide), if_neg (by decide), if_pos (by decide), Option.bind_some]
  refine (uniT_flat (K := [eN, eI, eS]) (by simp [Rise, tagT, eN, eI, eS, Ty.kind]) fun x => ?_).trans rfl
  have hf : flatU eU.kids = [eS, eN, eI] := rfl
  rw [hf]
  simp only [List.mem_cons, List.not_mem_nil, or_false]
  constructor
  · rintro (h | h | h)
    · exact .inr (.inr h)
    · exact .inl h
    · exact .inr (.inl h)
  · rintro (h | h | h)
    · exact .inr (.inl h)
    · exact .inr (.inr h)
    · exact .inl h
theorem norm_W : NormT eW = none := by
  unfold NormT
  rw [if_neg (by simp [eW, ty0, eI, Ty.ht, htL, Ty.size, sizeL]), normT_eq]
  have h1 : normL eW.kids = some eW.kids := normL_id fun k hk => by
    simp only [eW, Ty.kids, List.mem_cons, List.not_mem_nil, or_false] at hk
    rcases hk with rfl | rfl
    · exact nf_0.norm
    · exact nf_I.norm
  rw [h1]
  unfold headT
  rw [if_neg (by decide), if_neg (by decide), if_neg (by decide), if_pos (by decide), Option.bind_some]
  refine uniT_no fun h => ?_
  have := h.1 ty0 (by simp [flatU, eW, Ty.kids, ty0, Ty.kind])
  simp [tagT, ty0, Ty.kind] at this
theorem norm_R : NormT eR = some eB := by
  unfold NormT
  rw [if_neg (by simp [eR, eF, ty0, eI, Ty.ht, htL, Ty.size, sizeL]), normT_eq]
  have h1 : normL eR.kids = some eR.kids := normL_id fun k hk => by
    simp only [eR, Ty.kids, List.mem_cons, List.not_mem_nil, or_false] at hk
    rcases hk with rfl | rfl
    · exact nf_I.norm
    · exact nf_F.norm
  rw [h1]
  unfold headT
  rw [if_neg (by decide), if_pos (by decide), Option.bind_some]
  unfold recT
  rw [if_pos (by decide +kernel)]
  rfl
theorem again_U : NormT eA = some eA := NormT_again norm_U
theorem again_R : NormT eB = some eB := NormT_again norm_R
theorem show_A : ShowS eA = ⟨#[110, 117, 108, 108, 32, 124, 32, 105, 110, 116, 32, 124, 32, 115, 116, 114]⟩ := by
  unfold ShowS
  rw [if_pos again_U]
  rfl
theorem show_B : ShowS eB = ⟨#[123, 97, 58, 32, 105, 110, 116, 32, 45, 62, 32, 97, 110, 121, 44, 32, 98, 58, 32, 105, 110, 116, 125]⟩ := by
  unfold ShowS
  rw [if_pos again_R]
  rfl
theorem show_U : ShowS eU = ⟨#[]⟩ := by
  unfold ShowS
  rw [if_neg]
  rw [norm_U]
  simp [eA, eU, eS, eU2]
end Go.Proofs.YtbanpohholnkaaaDoor
