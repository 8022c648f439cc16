/-
  Walk: graduslaw06.RelLoose. Conditions: the table strings.asciiSpace lies as the program lays it.
-/
import Derived.Test.YtbanpohholnkaaaDoorWRAwake
namespace Go.Proofs.YtbanpohholnkaaaDoor
open Go.RowKit

set_option maxRecDepth 100000 in
set_option maxHeartbeats 8000000 in
theorem loose_law {w : World} {ra rb : Tv} {ta tb : Ty} (hT : Tab w) (ha : TyV w nX ra ta) (hb : TyV w nX rb tb) :
    Calls Tryd.prog 4 #[ra.val, rb.val] w fun e w' => e = .returned (.bool true) ∧ Keep (fun _ => False) w w' := by
  obtain ⟨ak, anm, aAn, ann, acn, aAk, ank, ack⟩ := ra
  obtain ⟨bk, bnm, bAn, bnn, bcn, bAk, bnk, bck⟩ := rb
  have kw : Keep (fun _ => False) w ((w.alloc (.cells #[.int .i64 ak, .string anm, .slice aAn ann acn, .slice aAk ank ack] 25)).alloc (.cells #[.int .i64 bk, .string bnm, .slice bAn bnn bcn, .slice bAk bnk bck] 25)) := ((Keep.refl _ w).alloc _).alloc _
  have ata : At ((w.alloc (.cells #[.int .i64 ak, .string anm, .slice aAn ann acn, .slice aAk ank ack] 25)).alloc (.cells #[.int .i64 bk, .string bnm, .slice bAn bnn bcn, .slice bAk bnk bck] 25)) (w.heap.size) 25 #[.int .i64 ak, .string anm, .slice aAn ann acn, .slice aAk ank ack] := by repeat (first | exact At.new _ _ _ | exact At.new_at (by simp) | refine At.alloc ?_ _)
  have atb : At ((w.alloc (.cells #[.int .i64 ak, .string anm, .slice aAn ann acn, .slice aAk ank ack] 25)).alloc (.cells #[.int .i64 bk, .string bnm, .slice bAn bnn bcn, .slice bAk bnk bck] 25)) (w.heap.size + 1) 25 #[.int .i64 bk, .string bnm, .slice bAn bnn bcn, .slice bAk bnk bck] := by repeat (first | exact At.new _ _ _ | exact At.new_at (by simp) | refine At.alloc ?_ _)
  have H := Lib.hid (And.intro kw (And.intro ata (And.intro atb (And.intro (hT.step kw) (And.intro (ha.step kw) (hb.step kw))))))
  clear hT kw ha ata hb atb
  unfold Tv.val
  simp only
  go_enter Tryd.func4, Tryd.ntmps4
  go_upto_region 1 with fail
  generalize ((w.alloc (.cells #[.int .i64 ak, .string anm, .slice aAn ann acn, .slice aAk ank ack] 25)).alloc (.cells #[.int .i64 bk, .string bnm, .slice bAn bnn bcn, .slice bAk bnk bck] 25)) = w1 at *
  generalize w.heap.size + 1 = b1_ at *
  generalize w.heap.size = bx at *
  have HC : Hid (∀ w', Keep (fun _ => False) w1 w' → (bx < w'.heap.size ∧ w'.cell? ⟨bx, 0, none⟩ = some (.int .i64 ak) ∧ w'.cell? ⟨bx, 1, none⟩ = some (.string anm) ∧ w'.cell? ⟨bx, 2, none⟩ = some (.slice aAn ann acn) ∧ w'.cell? ⟨bx, 3, none⟩ = some (.slice aAk ank ack)) ∧ (b1_ < w'.heap.size ∧ w'.cell? ⟨b1_, 0, none⟩ = some (.int .i64 bk) ∧ w'.cell? ⟨b1_, 1, none⟩ = some (.string bnm) ∧ w'.cell? ⟨b1_, 2, none⟩ = some (.slice bAn bnn bcn) ∧ w'.cell? ⟨b1_, 3, none⟩ = some (.slice bAk bnk bck))) := fun w' hk => ⟨(hk.at_ H.out.2.1 (fun x => x)).tcells, (hk.at_ H.out.2.2.1 (fun x => x)).tcells⟩
  have KC : Hid (Keep (fun _ => False) w1 w1) := Keep.refl _ _
  obtain ⟨⟨xal, xa0, xa1, xa2, xa3⟩, ⟨xbl, xb0, xb1, xb2, xb3⟩⟩ := HC.out w1 KC.out
  have HAw : Hid (∀ w', Keep (fun _ => False) w1 w' → Calls Tryd.prog 12 #[] w' fun e w'' => e = .returned (.bool true) ∧ Keep (fun _ => False) w' w'') := fun w' hk => rawake_any (H.out.2.2.2.1.step hk)
  have HSma : Hid (∀ w', Keep (fun _ => False) w1 w' → Calls Tryd.prog 13 #[.agg #[.int .i64 ak, .string anm, .slice aAn ann acn, .slice aAk ank ack]] w' fun e w'' => (∃ z : Bool, e = .returned (.bool z)) ∧ Keep (fun _ => False) w' w'') := fun w' hk => (smallB_any (r := ⟨ak, anm, aAn, ann, acn, aAk, ank, ack⟩) (H.out.2.2.2.2.1.step hk)).mono fun e w'' ⟨z, he, hh⟩ => ⟨⟨z, he⟩, hh⟩
  have HSmb : Hid (∀ w', Keep (fun _ => False) w1 w' → Calls Tryd.prog 13 #[.agg #[.int .i64 bk, .string bnm, .slice bAn bnn bcn, .slice bAk bnk bck]] w' fun e w'' => (∃ z : Bool, e = .returned (.bool z)) ∧ Keep (fun _ => False) w' w'') := fun w' hk => (smallB_any (r := ⟨bk, bnm, bAn, bnn, bcn, bAk, bnk, bck⟩) (H.out.2.2.2.2.2.step hk)).mono fun e w'' ⟨z, he, hh⟩ => ⟨⟨z, he⟩, hh⟩
  have HNa : Hid (∀ w', Keep (fun _ => False) w1 w' → Calls Tryd.prog 19 #[.agg #[.int .i64 ak, .string anm, .slice aAn ann acn, .slice aAk ank ack], .agg #[.int .i64 bk, .string bnm, .slice bAn bnn bcn, .slice bAk bnk bck]] w' fun e w'' => e = .returned (.bool (naiT ta tb)) ∧ Keep (fun _ => False) w' w'') := fun w' hk => rnaive_any (r := ⟨ak, anm, aAn, ann, acn, aAk, ank, ack⟩) (r' := ⟨bk, bnm, bAn, bnn, bcn, bAk, bnk, bck⟩) (H.out.2.2.2.1.step hk) (H.out.2.2.2.2.1.step hk) (H.out.2.2.2.2.2.step hk)
  have HFi : Hid (∀ w', Keep (fun _ => False) w1 w' → Calls Tryd.prog 15 #[.agg #[.int .i64 ak, .string anm, .slice aAn ann acn, .slice aAk ank ack], .agg #[.int .i64 bk, .string bnm, .slice bAn bnn bcn, .slice bAk bnk bck]] w' fun e w'' => e = .returned (.bool (fitsT ta tb)) ∧ Keep (fun _ => False) w' w'') := fun w' hk => rfits_any (r := ⟨ak, anm, aAn, ann, acn, aAk, ank, ack⟩) (r' := ⟨bk, bnm, bAn, bnn, bcn, bAk, bnk, bck⟩) (H.out.2.2.2.1.step hk) (H.out.2.2.2.2.1.step hk) (H.out.2.2.2.2.2.step hk)
  have HFj : Hid (∀ w', Keep (fun _ => False) w1 w' → Calls Tryd.prog 15 #[.agg #[.int .i64 bk, .string bnm, .slice bAn bnn bcn, .slice bAk bnk bck], .agg #[.int .i64 ak, .string anm, .slice aAn ann acn, .slice aAk ank ack]] w' fun e w'' => e = .returned (.bool (fitsT tb ta)) ∧ Keep (fun _ => False) w' w'') := fun w' hk => rfits_any (r := ⟨bk, bnm, bAn, bnn, bcn, bAk, bnk, bck⟩) (r' := ⟨ak, anm, aAn, ann, acn, aAk, ank, ack⟩) (H.out.2.2.2.1.step hk) (H.out.2.2.2.2.2.step hk) (H.out.2.2.2.2.1.step hk)
  have HPo : Hid (∀ w', Keep (fun _ => False) w1 w' → Calls Tryd.prog 17 #[.agg #[.int .i64 ak, .string anm, .slice aAn ann acn, .slice aAk ank ack], .agg #[.int .i64 bk, .string bnm, .slice bAn bnn bcn, .slice bAk bnk bck]] w' fun e w'' => e = .returned (.bool (posT ta tb)) ∧ Keep (fun _ => False) w' w'') := fun w' hk => rpos_any (r := ⟨ak, anm, aAn, ann, acn, aAk, ank, ack⟩) (r' := ⟨bk, bnm, bAn, bnn, bcn, bAk, bnk, bck⟩) (H.out.2.2.2.1.step hk) (H.out.2.2.2.2.1.step hk) (H.out.2.2.2.2.2.step hk)
  have HNe : Hid (∀ w', Keep (fun _ => False) w1 w' → Calls Tryd.prog 18 #[.agg #[.int .i64 bk, .string bnm, .slice bAn bnn bcn, .slice bAk bnk bck], .agg #[.int .i64 ak, .string anm, .slice aAn ann acn, .slice aAk ank ack]] w' fun e w'' => e = .returned (.bool (negT tb ta)) ∧ Keep (fun _ => False) w' w'') := fun w' hk => rneg_any (r := ⟨bk, bnm, bAn, bnn, bcn, bAk, bnk, bck⟩) (r' := ⟨ak, anm, aAn, ann, acn, aAk, ank, ack⟩) (H.out.2.2.2.1.step hk) (H.out.2.2.2.2.2.step hk) (H.out.2.2.2.2.1.step hk)
  have hkey : naiT ta tb = true → fitsT ta tb = true ∧ fitsT tb ta = true ∧ posT ta tb = true ∧ negT tb ta = true := fun hf => by
    unfold naiT at hf
    simp only [Bool.and_eq_true] at hf
    have hs := loose_all ta tb (normB_nf hf.1.1) (normB_nf hf.1.2) hf.2
    unfold fitsT posT negT
    simp [hf.1.1, hf.1.2, hs]
  have HK := Lib.hid hkey
  clear hkey
  cases hsa : naiT ta tb
  · rw [hsa] at HNa
    clear hsa HK
    go_wp2_with (first
      | (go_at_call 12; (with_reducible refine (HAw.out _ KC.out).mono ?_); rintro e w2 ⟨rfl, hk⟩; have KN := Lib.hid (KC.out.trans hk (fun _ _ x => x)); clear KC hk xal xa0 xa1 xa2 xa3 xbl xb0 xb1 xb2 xb3; have KC := KN; clear KN; obtain ⟨⟨xal, xa0, xa1, xa2, xa3⟩, ⟨xbl, xb0, xb1, xb2, xb3⟩⟩ := HC.out _ KC.out)
      | (go_at_call_of 13 (Value.agg #[Value.int IntKind.i64 ak, Value.string anm, Value.slice aAn ann acn, Value.slice aAk ank ack]); (with_reducible refine (HSma.out _ KC.out).mono ?_); rintro e w2 ⟨⟨za, rfl⟩, hk⟩; have KN := Lib.hid (KC.out.trans hk (fun _ _ x => x)); clear KC hk xal xa0 xa1 xa2 xa3 xbl xb0 xb1 xb2 xb3; have KC := KN; clear KN; obtain ⟨⟨xal, xa0, xa1, xa2, xa3⟩, ⟨xbl, xb0, xb1, xb2, xb3⟩⟩ := HC.out _ KC.out)
      | (go_at_call_of 13 (Value.agg #[Value.int IntKind.i64 bk, Value.string bnm, Value.slice bAn bnn bcn, Value.slice bAk bnk bck]); (with_reducible refine (HSmb.out _ KC.out).mono ?_); rintro e w2 ⟨⟨zb, rfl⟩, hk⟩; have KN := Lib.hid (KC.out.trans hk (fun _ _ x => x)); clear KC hk xal xa0 xa1 xa2 xa3 xbl xb0 xb1 xb2 xb3; have KC := KN; clear KN; obtain ⟨⟨xal, xa0, xa1, xa2, xa3⟩, ⟨xbl, xb0, xb1, xb2, xb3⟩⟩ := HC.out _ KC.out)
      | (go_at_call_of 19 (Value.agg #[Value.int IntKind.i64 ak, Value.string anm, Value.slice aAn ann acn, Value.slice aAk ank ack]); (with_reducible refine (HNa.out _ KC.out).mono ?_); rintro e w2 ⟨rfl, hk⟩; have KN := Lib.hid (KC.out.trans hk (fun _ _ x => x)); clear KC hk xal xa0 xa1 xa2 xa3 xbl xb0 xb1 xb2 xb3; have KC := KN; clear KN; obtain ⟨⟨xal, xa0, xa1, xa2, xa3⟩, ⟨xbl, xb0, xb1, xb2, xb3⟩⟩ := HC.out _ KC.out)
      | (go_at_call_of 15 (Value.agg #[Value.int IntKind.i64 ak, Value.string anm, Value.slice aAn ann acn, Value.slice aAk ank ack]); (with_reducible refine (HFi.out _ KC.out).mono ?_); rintro e w2 ⟨rfl, hk⟩; have KN := Lib.hid (KC.out.trans hk (fun _ _ x => x)); clear KC hk xal xa0 xa1 xa2 xa3 xbl xb0 xb1 xb2 xb3; have KC := KN; clear KN; obtain ⟨⟨xal, xa0, xa1, xa2, xa3⟩, ⟨xbl, xb0, xb1, xb2, xb3⟩⟩ := HC.out _ KC.out)
      | (go_at_call_of 15 (Value.agg #[Value.int IntKind.i64 bk, Value.string bnm, Value.slice bAn bnn bcn, Value.slice bAk bnk bck]); (with_reducible refine (HFj.out _ KC.out).mono ?_); rintro e w2 ⟨rfl, hk⟩; have KN := Lib.hid (KC.out.trans hk (fun _ _ x => x)); clear KC hk xal xa0 xa1 xa2 xa3 xbl xb0 xb1 xb2 xb3; have KC := KN; clear KN; obtain ⟨⟨xal, xa0, xa1, xa2, xa3⟩, ⟨xbl, xb0, xb1, xb2, xb3⟩⟩ := HC.out _ KC.out)
      | (go_at_call_of 17 (Value.agg #[Value.int IntKind.i64 ak, Value.string anm, Value.slice aAn ann acn, Value.slice aAk ank ack]); (with_reducible refine (HPo.out _ KC.out).mono ?_); rintro e w2 ⟨rfl, hk⟩; have KN := Lib.hid (KC.out.trans hk (fun _ _ x => x)); clear KC hk xal xa0 xa1 xa2 xa3 xbl xb0 xb1 xb2 xb3; have KC := KN; clear KN; obtain ⟨⟨xal, xa0, xa1, xa2, xa3⟩, ⟨xbl, xb0, xb1, xb2, xb3⟩⟩ := HC.out _ KC.out)
      | (go_at_call_of 18 (Value.agg #[Value.int IntKind.i64 bk, Value.string bnm, Value.slice bAn bnn bcn, Value.slice bAk bnk bck]); (with_reducible refine (HNe.out _ KC.out).mono ?_); rintro e w2 ⟨rfl, hk⟩; have KN := Lib.hid (KC.out.trans hk (fun _ _ x => x)); clear KC hk xal xa0 xa1 xa2 xa3 xbl xb0 xb1 xb2 xb3; have KC := KN; clear KN; obtain ⟨⟨xal, xa0, xa1, xa2, xa3⟩, ⟨xbl, xb0, xb1, xb2, xb3⟩⟩ := HC.out _ KC.out))
    all_goals go_ret
    all_goals exact ⟨rfl, H.out.1.trans KC.out (fun _ _ x => x)⟩
  · rw [hsa] at HNa
    obtain ⟨e1, e2, e3, e4⟩ := HK.out hsa
    rw [e1] at HFi
    rw [e2] at HFj
    rw [e3] at HPo
    rw [e4] at HNe
    clear hsa e1 e2 e3 e4 HK
    go_wp2_with (first
      | (go_at_call 12; (with_reducible refine (HAw.out _ KC.out).mono ?_); rintro e w2 ⟨rfl, hk⟩; have KN := Lib.hid (KC.out.trans hk (fun _ _ x => x)); clear KC hk xal xa0 xa1 xa2 xa3 xbl xb0 xb1 xb2 xb3; have KC := KN; clear KN; obtain ⟨⟨xal, xa0, xa1, xa2, xa3⟩, ⟨xbl, xb0, xb1, xb2, xb3⟩⟩ := HC.out _ KC.out)
      | (go_at_call_of 13 (Value.agg #[Value.int IntKind.i64 ak, Value.string anm, Value.slice aAn ann acn, Value.slice aAk ank ack]); (with_reducible refine (HSma.out _ KC.out).mono ?_); rintro e w2 ⟨⟨za, rfl⟩, hk⟩; have KN := Lib.hid (KC.out.trans hk (fun _ _ x => x)); clear KC hk xal xa0 xa1 xa2 xa3 xbl xb0 xb1 xb2 xb3; have KC := KN; clear KN; obtain ⟨⟨xal, xa0, xa1, xa2, xa3⟩, ⟨xbl, xb0, xb1, xb2, xb3⟩⟩ := HC.out _ KC.out)
      | (go_at_call_of 13 (Value.agg #[Value.int IntKind.i64 bk, Value.string bnm, Value.slice bAn bnn bcn, Value.slice bAk bnk bck]); (with_reducible refine (HSmb.out _ KC.out).mono ?_); rintro e w2 ⟨⟨zb, rfl⟩, hk⟩; have KN := Lib.hid (KC.out.trans hk (fun _ _ x => x)); clear KC hk xal xa0 xa1 xa2 xa3 xbl xb0 xb1 xb2 xb3; have KC := KN; clear KN; obtain ⟨⟨xal, xa0, xa1, xa2, xa3⟩, ⟨xbl, xb0, xb1, xb2, xb3⟩⟩ := HC.out _ KC.out)
      | (go_at_call_of 19 (Value.agg #[Value.int IntKind.i64 ak, Value.string anm, Value.slice aAn ann acn, Value.slice aAk ank ack]); (with_reducible refine (HNa.out _ KC.out).mono ?_); rintro e w2 ⟨rfl, hk⟩; have KN := Lib.hid (KC.out.trans hk (fun _ _ x => x)); clear KC hk xal xa0 xa1 xa2 xa3 xbl xb0 xb1 xb2 xb3; have KC := KN; clear KN; obtain ⟨⟨xal, xa0, xa1, xa2, xa3⟩, ⟨xbl, xb0, xb1, xb2, xb3⟩⟩ := HC.out _ KC.out)
      | (go_at_call_of 15 (Value.agg #[Value.int IntKind.i64 ak, Value.string anm, Value.slice aAn ann acn, Value.slice aAk ank ack]); (with_reducible refine (HFi.out _ KC.out).mono ?_); rintro e w2 ⟨rfl, hk⟩; have KN := Lib.hid (KC.out.trans hk (fun _ _ x => x)); clear KC hk xal xa0 xa1 xa2 xa3 xbl xb0 xb1 xb2 xb3; have KC := KN; clear KN; obtain ⟨⟨xal, xa0, xa1, xa2, xa3⟩, ⟨xbl, xb0, xb1, xb2, xb3⟩⟩ := HC.out _ KC.out)
      | (go_at_call_of 15 (Value.agg #[Value.int IntKind.i64 bk, Value.string bnm, Value.slice bAn bnn bcn, Value.slice bAk bnk bck]); (with_reducible refine (HFj.out _ KC.out).mono ?_); rintro e w2 ⟨rfl, hk⟩; have KN := Lib.hid (KC.out.trans hk (fun _ _ x => x)); clear KC hk xal xa0 xa1 xa2 xa3 xbl xb0 xb1 xb2 xb3; have KC := KN; clear KN; obtain ⟨⟨xal, xa0, xa1, xa2, xa3⟩, ⟨xbl, xb0, xb1, xb2, xb3⟩⟩ := HC.out _ KC.out)
      | (go_at_call_of 17 (Value.agg #[Value.int IntKind.i64 ak, Value.string anm, Value.slice aAn ann acn, Value.slice aAk ank ack]); (with_reducible refine (HPo.out _ KC.out).mono ?_); rintro e w2 ⟨rfl, hk⟩; have KN := Lib.hid (KC.out.trans hk (fun _ _ x => x)); clear KC hk xal xa0 xa1 xa2 xa3 xbl xb0 xb1 xb2 xb3; have KC := KN; clear KN; obtain ⟨⟨xal, xa0, xa1, xa2, xa3⟩, ⟨xbl, xb0, xb1, xb2, xb3⟩⟩ := HC.out _ KC.out)
      | (go_at_call_of 18 (Value.agg #[Value.int IntKind.i64 bk, Value.string bnm, Value.slice bAn bnn bcn, Value.slice bAk bnk bck]); (with_reducible refine (HNe.out _ KC.out).mono ?_); rintro e w2 ⟨rfl, hk⟩; have KN := Lib.hid (KC.out.trans hk (fun _ _ x => x)); clear KC hk xal xa0 xa1 xa2 xa3 xbl xb0 xb1 xb2 xb3; have KC := KN; clear KN; obtain ⟨⟨xal, xa0, xa1, xa2, xa3⟩, ⟨xbl, xb0, xb1, xb2, xb3⟩⟩ := HC.out _ KC.out))
    all_goals go_ret
    all_goals exact ⟨rfl, H.out.1.trans KC.out (fun _ _ x => x)⟩
end Go.Proofs.YtbanpohholnkaaaDoor
