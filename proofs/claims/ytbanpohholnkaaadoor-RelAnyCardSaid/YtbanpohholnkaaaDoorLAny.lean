/-
  Walk: graduslaw06.RelAny. Conditions: the table strings.asciiSpace lies as the program lays it.
-/
import Derived.Test.YtbanpohholnkaaaDoorWRAwake
namespace Go.Proofs.YtbanpohholnkaaaDoor
open Go.RowKit

set_option maxRecDepth 100000 in
set_option maxHeartbeats 8000000 in
theorem rany_law {w : World} {ra : Tv} {ta : Ty} (hT : Tab w) (ha : TyV w nX ra ta) :
    Calls Tryd.prog 7 #[ra.val] w fun e w' => e = .returned (.bool true) ∧ Keep (fun _ => False) w w' := by
  obtain ⟨ak, anm, aAn, ann, acn, aAk, ank, ack⟩ := ra
  have kw : Keep (fun _ => False) w (w.alloc (.cells #[.int .i64 ak, .string anm, .slice aAn ann acn, .slice aAk ank ack] 25)) := (Keep.refl _ w).alloc _
  have ata : At (w.alloc (.cells #[.int .i64 ak, .string anm, .slice aAn ann acn, .slice aAk ank ack] 25)) (w.heap.size) 25 #[.int .i64 ak, .string anm, .slice aAn ann acn, .slice aAk ank ack] := by repeat (first | exact At.new _ _ _ | exact At.new_at (by simp) | refine At.alloc ?_ _)
  have H := Lib.hid (And.intro kw (And.intro ata (And.intro (hT.step kw) (ha.step kw))))
  clear hT kw ha ata
  unfold Tv.val
  simp only
  go_enter Tryd.func7, Tryd.ntmps7
  go_upto_region 1 with fail
  generalize (w.alloc (.cells #[.int .i64 ak, .string anm, .slice aAn ann acn, .slice aAk ank ack] 25)) = w1 at *
  generalize w.heap.size = bx at *
  have HC : Hid (∀ w', Keep (fun _ => False) w1 w' → (bx < w'.heap.size ∧ w'.cell? ⟨bx, 0, none⟩ = some (.int .i64 ak) ∧ w'.cell? ⟨bx, 1, none⟩ = some (.string anm) ∧ w'.cell? ⟨bx, 2, none⟩ = some (.slice aAn ann acn) ∧ w'.cell? ⟨bx, 3, none⟩ = some (.slice aAk ank ack))) := fun w' hk => (hk.at_ H.out.2.1 (fun x => x)).tcells
  have KC : Hid (Keep (fun _ => False) w1 w1) := Keep.refl _ _
  obtain ⟨xal, xa0, xa1, xa2, xa3⟩ := HC.out w1 KC.out
  have HAw : Hid (∀ w', Keep (fun _ => False) w1 w' → Calls Tryd.prog 12 #[] w' fun e w'' => e = .returned (.bool true) ∧ Keep (fun _ => False) w' w'') := fun w' hk => rawake_any (H.out.2.2.1.step hk)
  have HSma : Hid (∀ w', Keep (fun _ => False) w1 w' → Calls Tryd.prog 13 #[.agg #[.int .i64 ak, .string anm, .slice aAn ann acn, .slice aAk ank ack]] w' fun e w'' => (∃ z : Bool, e = .returned (.bool z)) ∧ Keep (fun _ => False) w' w'') := fun w' hk => (smallB_any (r := ⟨ak, anm, aAn, ann, acn, aAk, ank, ack⟩) (H.out.2.2.2.step hk)).mono fun e w'' ⟨z, he, hh⟩ => ⟨⟨z, he⟩, hh⟩
  go_upto_region 4 with (first | (go_at_call 12; (with_reducible refine (HAw.out _ KC.out).mono ?_); rintro e w2 ⟨rfl, hk⟩; have KN := Lib.hid (KC.out.trans hk (fun _ _ x => x)); clear KC hk xal xa0 xa1 xa2 xa3; have KC := KN; clear KN; obtain ⟨xal, xa0, xa1, xa2, xa3⟩ := HC.out _ KC.out) | (go_at_call_of 13 (Value.agg #[Value.int IntKind.i64 ak, Value.string anm, Value.slice aAn ann acn, Value.slice aAk ank ack]); (with_reducible refine (HSma.out _ KC.out).mono ?_); rintro e w2 ⟨⟨za, rfl⟩, hk⟩; have KN := Lib.hid (KC.out.trans hk (fun _ _ x => x)); clear KC hk xal xa0 xa1 xa2 xa3; have KC := KN; clear KN; obtain ⟨xal, xa0, xa1, xa2, xa3⟩ := HC.out _ KC.out))
  refine gen_world ?_
  intro W2 hW2
  have k2 : Keep (fun _ => False) w1 W2 := by rw [hW2]; exact KC.out.alloc _
  have ad : At W2 w2.heap.size 25 #[.int .i64 0, .string ⟨#[]⟩, .slice none 0 0, .slice none 0 0] := by rw [hW2]; exact At.new _ _ _
  clear hW2
  generalize w2.heap.size = dx at *
  have HD := Lib.hid (And.intro k2 ad)
  clear KC xal xa0 xa1 xa2 xa3 HAw HSma k2 ad HC
  have HC : Hid (∀ w', Keep (fun _ => False) W2 w' → (bx < w'.heap.size ∧ w'.cell? ⟨bx, 0, none⟩ = some (.int .i64 ak) ∧ w'.cell? ⟨bx, 1, none⟩ = some (.string anm) ∧ w'.cell? ⟨bx, 2, none⟩ = some (.slice aAn ann acn) ∧ w'.cell? ⟨bx, 3, none⟩ = some (.slice aAk ank ack)) ∧ (dx < w'.heap.size ∧ w'.cell? ⟨dx, 0, none⟩ = some (.int .i64 0) ∧ w'.cell? ⟨dx, 1, none⟩ = some (.string ⟨#[]⟩) ∧ w'.cell? ⟨dx, 2, none⟩ = some (.slice none 0 0) ∧ w'.cell? ⟨dx, 3, none⟩ = some (.slice none 0 0))) := fun w' hk => ⟨((HD.out.1.trans hk (fun _ _ x => x)).at_ H.out.2.1 (fun x => x)).tcells, (hk.at_ HD.out.2 (fun x => x)).tcells⟩
  have KC : Hid (Keep (fun _ => False) W2 W2) := Keep.refl _ _
  obtain ⟨⟨xal, xa0, xa1, xa2, xa3⟩, ⟨xdl, xd0, xd1, xd2, xd3⟩⟩ := HC.out W2 KC.out
  have HSu : Hid (∀ w', Keep (fun _ => False) W2 w' → Calls Tryd.prog 16 #[.agg #[.int .i64 ak, .string anm, .slice aAn ann acn, .slice aAk ank ack], .agg #[.int .i64 ak, .string anm, .slice aAn ann acn, .slice aAk ank ack]] w' fun e w'' => e = .returned (.bool (subT ta ta)) ∧ Keep (fun _ => False) w' w'') := fun w' hk => rsub_any (r := ⟨ak, anm, aAn, ann, acn, aAk, ank, ack⟩) (r' := ⟨ak, anm, aAn, ann, acn, aAk, ank, ack⟩) (H.out.2.2.1.step (HD.out.1.trans hk (fun _ _ x => x))) (H.out.2.2.2.step (HD.out.1.trans hk (fun _ _ x => x))) (H.out.2.2.2.step (HD.out.1.trans hk (fun _ _ x => x)))
  have HFi : Hid (∀ w', Keep (fun _ => False) W2 w' → Calls Tryd.prog 15 #[.agg #[.int .i64 ak, .string anm, .slice aAn ann acn, .slice aAk ank ack], .agg #[.int .i64 0, .string ⟨#[]⟩, .slice none 0 0, .slice none 0 0]] w' fun e w'' => e = .returned (.bool (fitsT ta ty0)) ∧ Keep (fun _ => False) w' w'') := fun w' hk => rfits_any (r := ⟨ak, anm, aAn, ann, acn, aAk, ank, ack⟩) (r' := ⟨0, ⟨#[]⟩, none, 0, 0, none, 0, 0⟩) (H.out.2.2.1.step (HD.out.1.trans hk (fun _ _ x => x))) (H.out.2.2.2.step (HD.out.1.trans hk (fun _ _ x => x))) (tv_base 0)
  have HFj : Hid (∀ w', Keep (fun _ => False) W2 w' → Calls Tryd.prog 15 #[.agg #[.int .i64 0, .string ⟨#[]⟩, .slice none 0 0, .slice none 0 0], .agg #[.int .i64 ak, .string anm, .slice aAn ann acn, .slice aAk ank ack]] w' fun e w'' => e = .returned (.bool (fitsT ty0 ta)) ∧ Keep (fun _ => False) w' w'') := fun w' hk => rfits_any (r := ⟨0, ⟨#[]⟩, none, 0, 0, none, 0, 0⟩) (r' := ⟨ak, anm, aAn, ann, acn, aAk, ank, ack⟩) (H.out.2.2.1.step (HD.out.1.trans hk (fun _ _ x => x))) (tv_base 0) (H.out.2.2.2.step (HD.out.1.trans hk (fun _ _ x => x)))
  have HNa : Hid (∀ w', Keep (fun _ => False) W2 w' → Calls Tryd.prog 19 #[.agg #[.int .i64 ak, .string anm, .slice aAn ann acn, .slice aAk ank ack], .agg #[.int .i64 0, .string ⟨#[]⟩, .slice none 0 0, .slice none 0 0]] w' fun e w'' => e = .returned (.bool (naiT ta ty0)) ∧ Keep (fun _ => False) w' w'') := fun w' hk => rnaive_any (r := ⟨ak, anm, aAn, ann, acn, aAk, ank, ack⟩) (r' := ⟨0, ⟨#[]⟩, none, 0, 0, none, 0, 0⟩) (H.out.2.2.1.step (HD.out.1.trans hk (fun _ _ x => x))) (H.out.2.2.2.step (HD.out.1.trans hk (fun _ _ x => x))) (tv_base 0)
  have HPo : Hid (∀ w', Keep (fun _ => False) W2 w' → Calls Tryd.prog 17 #[.agg #[.int .i64 ak, .string anm, .slice aAn ann acn, .slice aAk ank ack], .agg #[.int .i64 0, .string ⟨#[]⟩, .slice none 0 0, .slice none 0 0]] w' fun e w'' => e = .returned (.bool (posT ta ty0)) ∧ Keep (fun _ => False) w' w'') := fun w' hk => rpos_any (r := ⟨ak, anm, aAn, ann, acn, aAk, ank, ack⟩) (r' := ⟨0, ⟨#[]⟩, none, 0, 0, none, 0, 0⟩) (H.out.2.2.1.step (HD.out.1.trans hk (fun _ _ x => x))) (H.out.2.2.2.step (HD.out.1.trans hk (fun _ _ x => x))) (tv_base 0)
  have HNe : Hid (∀ w', Keep (fun _ => False) W2 w' → Calls Tryd.prog 18 #[.agg #[.int .i64 0, .string ⟨#[]⟩, .slice none 0 0, .slice none 0 0], .agg #[.int .i64 ak, .string anm, .slice aAn ann acn, .slice aAk ank ack]] w' fun e w'' => e = .returned (.bool (negT ty0 ta)) ∧ Keep (fun _ => False) w' w'') := fun w' hk => rneg_any (r := ⟨0, ⟨#[]⟩, none, 0, 0, none, 0, 0⟩) (r' := ⟨ak, anm, aAn, ann, acn, aAk, ank, ack⟩) (H.out.2.2.1.step (HD.out.1.trans hk (fun _ _ x => x))) (tv_base 0) (H.out.2.2.2.step (HD.out.1.trans hk (fun _ _ x => x)))
  have hkey : subT ta ta = true → fitsT ta ty0 = true ∧ fitsT ty0 ta = true ∧ naiT ta ty0 = true ∧ posT ta ty0 = true ∧ negT ty0 ta = true := fun hs => by
    rw [subT_refl] at hs
    have h1 := any_both ta (normB_nf hs)
    have e1 : belowT true ta ty0 = true := by rw [belowT_eq, if_pos (.inr rfl)]; rfl
    have e2 : belowT true ty0 ta = true := by rw [belowT_eq, if_pos (.inl rfl)]; rfl
    have e3 : naiveT ta ty0 = true := by rw [naiveT_eq, if_pos (.inr rfl)]; rfl
    unfold fitsT naiT posT negT
    simp [hs, normb_0, h1, e1, e2, e3]
  have HK := Lib.hid hkey
  clear hkey
  cases hsa : subT ta ta
  · rw [hsa] at HSu
    clear hsa HK
    go_wp2_with (first
      | (go_at_call_of 16 (Value.agg #[Value.int IntKind.i64 ak, Value.string anm, Value.slice aAn ann acn, Value.slice aAk ank ack]); (with_reducible refine (HSu.out _ KC.out).mono ?_); rintro e w3 ⟨rfl, hk⟩; have KN := Lib.hid (KC.out.trans hk (fun _ _ x => x)); clear KC hk xal xa0 xa1 xa2 xa3 xdl xd0 xd1 xd2 xd3; have KC := KN; clear KN; obtain ⟨⟨xal, xa0, xa1, xa2, xa3⟩, ⟨xdl, xd0, xd1, xd2, xd3⟩⟩ := HC.out _ KC.out)
      | (go_at_call_of 15 (Value.agg #[Value.int IntKind.i64 ak, Value.string anm, Value.slice aAn ann acn, Value.slice aAk ank ack]); (with_reducible refine (HFi.out _ KC.out).mono ?_); rintro e w3 ⟨rfl, hk⟩; have KN := Lib.hid (KC.out.trans hk (fun _ _ x => x)); clear KC hk xal xa0 xa1 xa2 xa3 xdl xd0 xd1 xd2 xd3; have KC := KN; clear KN; obtain ⟨⟨xal, xa0, xa1, xa2, xa3⟩, ⟨xdl, xd0, xd1, xd2, xd3⟩⟩ := HC.out _ KC.out)
      | (go_at_call_of 15 (Value.agg #[Value.int IntKind.i64 0, Value.string { data := #[] }, Value.slice none 0 0, Value.slice none 0 0]); (with_reducible refine (HFj.out _ KC.out).mono ?_); rintro e w3 ⟨rfl, hk⟩; have KN := Lib.hid (KC.out.trans hk (fun _ _ x => x)); clear KC hk xal xa0 xa1 xa2 xa3 xdl xd0 xd1 xd2 xd3; have KC := KN; clear KN; obtain ⟨⟨xal, xa0, xa1, xa2, xa3⟩, ⟨xdl, xd0, xd1, xd2, xd3⟩⟩ := HC.out _ KC.out)
      | (go_at_call_of 19 (Value.agg #[Value.int IntKind.i64 ak, Value.string anm, Value.slice aAn ann acn, Value.slice aAk ank ack]); (with_reducible refine (HNa.out _ KC.out).mono ?_); rintro e w3 ⟨rfl, hk⟩; have KN := Lib.hid (KC.out.trans hk (fun _ _ x => x)); clear KC hk xal xa0 xa1 xa2 xa3 xdl xd0 xd1 xd2 xd3; have KC := KN; clear KN; obtain ⟨⟨xal, xa0, xa1, xa2, xa3⟩, ⟨xdl, xd0, xd1, xd2, xd3⟩⟩ := HC.out _ KC.out)
      | (go_at_call_of 17 (Value.agg #[Value.int IntKind.i64 ak, Value.string anm, Value.slice aAn ann acn, Value.slice aAk ank ack]); (with_reducible refine (HPo.out _ KC.out).mono ?_); rintro e w3 ⟨rfl, hk⟩; have KN := Lib.hid (KC.out.trans hk (fun _ _ x => x)); clear KC hk xal xa0 xa1 xa2 xa3 xdl xd0 xd1 xd2 xd3; have KC := KN; clear KN; obtain ⟨⟨xal, xa0, xa1, xa2, xa3⟩, ⟨xdl, xd0, xd1, xd2, xd3⟩⟩ := HC.out _ KC.out)
      | (go_at_call_of 18 (Value.agg #[Value.int IntKind.i64 0, Value.string { data := #[] }, Value.slice none 0 0, Value.slice none 0 0]); (with_reducible refine (HNe.out _ KC.out).mono ?_); rintro e w3 ⟨rfl, hk⟩; have KN := Lib.hid (KC.out.trans hk (fun _ _ x => x)); clear KC hk xal xa0 xa1 xa2 xa3 xdl xd0 xd1 xd2 xd3; have KC := KN; clear KN; obtain ⟨⟨xal, xa0, xa1, xa2, xa3⟩, ⟨xdl, xd0, xd1, xd2, xd3⟩⟩ := HC.out _ KC.out))
    all_goals go_ret
    all_goals exact ⟨rfl, (H.out.1.trans HD.out.1 (fun _ _ x => x)).trans KC.out (fun _ _ x => x)⟩
  · rw [hsa] at HSu
    obtain ⟨e1, e2, e3, e4, e5⟩ := HK.out hsa
    rw [e1] at HFi
    rw [e2] at HFj
    rw [e3] at HNa
    rw [e4] at HPo
    rw [e5] at HNe
    clear hsa e1 e2 e3 e4 e5 HK
    go_wp2_with (first
      | (go_at_call_of 16 (Value.agg #[Value.int IntKind.i64 ak, Value.string anm, Value.slice aAn ann acn, Value.slice aAk ank ack]); (with_reducible refine (HSu.out _ KC.out).mono ?_); rintro e w3 ⟨rfl, hk⟩; have KN := Lib.hid (KC.out.trans hk (fun _ _ x => x)); clear KC hk xal xa0 xa1 xa2 xa3 xdl xd0 xd1 xd2 xd3; have KC := KN; clear KN; obtain ⟨⟨xal, xa0, xa1, xa2, xa3⟩, ⟨xdl, xd0, xd1, xd2, xd3⟩⟩ := HC.out _ KC.out)
      | (go_at_call_of 15 (Value.agg #[Value.int IntKind.i64 ak, Value.string anm, Value.slice aAn ann acn, Value.slice aAk ank ack]); (with_reducible refine (HFi.out _ KC.out).mono ?_); rintro e w3 ⟨rfl, hk⟩; have KN := Lib.hid (KC.out.trans hk (fun _ _ x => x)); clear KC hk xal xa0 xa1 xa2 xa3 xdl xd0 xd1 xd2 xd3; have KC := KN; clear KN; obtain ⟨⟨xal, xa0, xa1, xa2, xa3⟩, ⟨xdl, xd0, xd1, xd2, xd3⟩⟩ := HC.out _ KC.out)
      | (go_at_call_of 15 (Value.agg #[Value.int IntKind.i64 0, Value.string { data := #[] }, Value.slice none 0 0, Value.slice none 0 0]); (with_reducible refine (HFj.out _ KC.out).mono ?_); rintro e w3 ⟨rfl, hk⟩; have KN := Lib.hid (KC.out.trans hk (fun _ _ x => x)); clear KC hk xal xa0 xa1 xa2 xa3 xdl xd0 xd1 xd2 xd3; have KC := KN; clear KN; obtain ⟨⟨xal, xa0, xa1, xa2, xa3⟩, ⟨xdl, xd0, xd1, xd2, xd3⟩⟩ := HC.out _ KC.out)
      | (go_at_call_of 19 (Value.agg #[Value.int IntKind.i64 ak, Value.string anm, Value.slice aAn ann acn, Value.slice aAk ank ack]); (with_reducible refine (HNa.out _ KC.out).mono ?_); rintro e w3 ⟨rfl, hk⟩; have KN := Lib.hid (KC.out.trans hk (fun _ _ x => x)); clear KC hk xal xa0 xa1 xa2 xa3 xdl xd0 xd1 xd2 xd3; have KC := KN; clear KN; obtain ⟨⟨xal, xa0, xa1, xa2, xa3⟩, ⟨xdl, xd0, xd1, xd2, xd3⟩⟩ := HC.out _ KC.out)
      | (go_at_call_of 17 (Value.agg #[Value.int IntKind.i64 ak, Value.string anm, Value.slice aAn ann acn, Value.slice aAk ank ack]); (with_reducible refine (HPo.out _ KC.out).mono ?_); rintro e w3 ⟨rfl, hk⟩; have KN := Lib.hid (KC.out.trans hk (fun _ _ x => x)); clear KC hk xal xa0 xa1 xa2 xa3 xdl xd0 xd1 xd2 xd3; have KC := KN; clear KN; obtain ⟨⟨xal, xa0, xa1, xa2, xa3⟩, ⟨xdl, xd0, xd1, xd2, xd3⟩⟩ := HC.out _ KC.out)
      | (go_at_call_of 18 (Value.agg #[Value.int IntKind.i64 0, Value.string { data := #[] }, Value.slice none 0 0, Value.slice none 0 0]); (with_reducible refine (HNe.out _ KC.out).mono ?_); rintro e w3 ⟨rfl, hk⟩; have KN := Lib.hid (KC.out.trans hk (fun _ _ x => x)); clear KC hk xal xa0 xa1 xa2 xa3 xdl xd0 xd1 xd2 xd3; have KC := KN; clear KN; obtain ⟨⟨xal, xa0, xa1, xa2, xa3⟩, ⟨xdl, xd0, xd1, xd2, xd3⟩⟩ := HC.out _ KC.out))
    all_goals go_ret
    all_goals exact ⟨rfl, (H.out.1.trans HD.out.1 (fun _ _ x => x)).trans KC.out (fun _ _ x => x)⟩
end Go.Proofs.YtbanpohholnkaaaDoor
