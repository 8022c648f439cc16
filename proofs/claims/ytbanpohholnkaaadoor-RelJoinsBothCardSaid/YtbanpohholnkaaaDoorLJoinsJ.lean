/-
  RelJoinsBoth: for every input the law returns true; nothing that was there is changed. Conditions: the tables unicode.White_Space and strings.asciiSpace lie as the program's text lays them (the card ties them).
-/
import Derived.Test.YtbanpohholnkaaaDoorLJoins
import Derived.Test.YtbanpohholnkaaaDoorFrame
import Derived.Test.YtbanpohholnkaaaDoorCards
import Derived.Test.YtbanpohholnkaaaDoorTie
import Derived.SevenTiedAt
namespace Go.Proofs.YtbanpohholnkaaaDoor
open Go Go.RowKit Go.ChangeShapes Go.WideShapes Go.ChangeAt

set_option maxRecDepth 100000 in
theorem relJoinsBoth_lifted (os : Os) (started : os.Started) (H : Type) (enc : TypeId × Value → H) :
    ReturnsInHanded {} Tryd.checked os 10 .any (fun w args => (Rows.relJoinsBothSpec.pre enc Tryd.prog Tryd.f10 [] false w args ∧ laidMetH Tryd.prog laids w) ∧ sizedMet enc Tryd.prog Tryd.f10 (OpenSpec.ofChange Rows.relJoinsBothSpec) false w args)
      (Rows.relJoinsBothSpec.post enc Tryd.prog Tryd.f10 false true false false) := by
  refine returnsInHanded_of_change_and (C := Tryd.checked) (X := fun w _ => laidMetH Tryd.prog laids w) (fun _ _ _ hh h => h.of_heap hh) ownP started (by kernel_rfl) Tryd.func10
    (ChangeSpec.witness_shaped (enc := enc) (C := Tryd.checked) (os := os) (X := fun w _ => laidMetH Tryd.prog laids w) false (World.doorLaid Tryd.prog 400 os) #[.agg #[.int .i64 0, .string ⟨#[]⟩, .slice none 0 0, .slice none 0 0], .agg #[.int .i64 0, .string ⟨#[]⟩, .slice none 0 0, .slice none 0 0]] 8 rfl (World.shaped_of_RefB (by kernel_rfl) (by kernel_rfl)) (by kernel_rfl) (by kernel_rfl) (by kernel_rfl) (door_met os _)) ?_
  intro W base args ds gs before hval0 hW _ hsz hL _
  have hval : ∀ (j : Nat) t v, Tryd.f10.params[j]? = some t → args[j]? = some v → Value.okWide Tryd.prog W .any base t v := hval0
  have hW' := hW
  obtain ⟨p, q, hA0, hV, rfl, hfz, hnd⟩ := hW
  have hA : DataW.TrodAll enc Tryd.prog W 0 (fun _ => true) true Tryd.f10.params.toList args.toList ds p := hA0
  rw [Tryd.params10] at hA hval hsz
  obtain ⟨v0, v1, d0, d1, p0, p1, rfl, rfl, rfl, h0, h1⟩ := trodAll_two hA
  obtain ⟨rfl, rfl⟩ := trodVars_none hV
  obtain ⟨r0, t0, rfl, hr0⟩ := open_type (hval 0 25 v0 rfl rfl) h0 (fun x hx => hW'.lt x (by simp [hx])) (weighs_at hsz (j := 0) rfl rfl)
  obtain ⟨r1, t1, rfl, hr1⟩ := open_type (hval 1 25 v1 rfl rfl) h1 (fun x hx => hW'.lt x (by simp [hx])) (weighs_at hsz (j := 1) rfl rfl)
  refine (joins_law (tab_of_laid hL) hr0 hr1).mono fun e W' ⟨he, hk⟩ => ?_
  exact ⟨_, he, law_post laidOut (by kernel_rfl) (by kernel_rfl) Tryd.underlying4 rfl hW' rfl rfl rfl hk⟩
theorem relJoinsBoth_row : Rows.RelJoinsBothSaid :=
  OpenClaim.holds_of_wide 10 Tryd.f10 rfl rfl rfl rfl rfl rfl rfl ⟨rfl, rfl, rfl, rfl, rfl⟩ rfl rfl rfl rfl rfl (by kernel_rfl) Tryd.func10 (by kernel_rfl)
    (of_decide_eq_true (by kernel_rfl)) (by unfold Func.isWrapper; first | (rw [if_pos (by decide +kernel)]; kernel_rfl) | (rw [if_neg (by decide +kernel)]; exact ⟨rfl, rfl⟩))
    (fun os started H enc _ => relJoinsBoth_lifted os started H enc)
/-- THE STATEMENT. -/
theorem relJoinsBoth_holds : Rows.RelJoinsBothCardSaid :=
  Claim7.holds_tied_plain_at .later [] [.listed, .data] true Rows.relJoinsBothCard.stood.harness Rows.relJoinsBothCard.stood.looks
    relJoinsBoth_row (fun _ h => by cases h) (by kernel_rfl) (fun _ h => by cases h) relJoinsBoth_row_tie rfl ⟨rfl, rfl⟩ (by kernel_rfl) rfl
    (fun f fn hf hfn => by
      obtain rfl : f = 10 := Option.some.inj ((show Tryd.prog.funcNamed Rows.relJoinsBothRow.func = some 10 by kernel_rfl).symm.trans hf) |>.symm
      obtain rfl : fn = Tryd.f10 := (Option.some.inj (Tryd.func10.symm.trans hfn)).symm
      exact ⟨by kernel_rfl, fun j t ht => by
        rw [Tryd.params10] at ht
        have hm : t ∈ [25, 25] := by simpa using Array.mem_of_getElem? ht
        have hall : ([25, 25].all fun u => !Tryd.prog.wantsStandIn u) = true := by kernel_rfl
        exact (show Tryd.prog.wantsStandIn t = false by simpa using List.all_eq_true.1 hall t hm)⟩)
    (by kernel_rfl)
#print axioms relJoinsBoth_holds
end Go.Proofs.YtbanpohholnkaaaDoor
