/-
  Walk: graduslaw06.RelFuns. Conditions: the table strings.asciiSpace lies as the program lays it.
-/
import Derived.Test.YtbanpohholnkaaaDoorWRAwake
import Derived.Test.YtbanpohholnkaaaDoorPLaw
namespace Go.Proofs.YtbanpohholnkaaaDoor
open Go.RowKit

theorem normB_kid {t k : Ty} (h : normB t = true) (hk : k ∈ t.kids) : normB k = true := normB_iff.2 (NormT_kid (normB_iff.1 h) hk)
theorem fun_laws {a b c d : Ty} (h1 : normB (funOf a b) = true) (h2 : normB (funOf c d) = true) : subT (funOf a b) (funOf c d) = (subT c a && subT b d) ∧ fitsT (funOf a b) (funOf c d) = (fitsT c a && fitsT b d) := by
  have ha := normB_kid h1 (k := a) (by simp [funOf, Ty.kids])
  have hb := normB_kid h1 (k := b) (by simp [funOf, Ty.kids])
  have hc := normB_kid h2 (k := c) (by simp [funOf, Ty.kids])
  have hd := normB_kid h2 (k := d) (by simp [funOf, Ty.kids])
  unfold subT fitsT
  rw [below_funs (normB_nf h1) (normB_nf h2), below_funs (normB_nf h1) (normB_nf h2), h1, h2, ha, hb, hc, hd]
  simp
set_option maxRecDepth 100000 in
set_option maxHeartbeats 8000000 in
theorem funs_law {w : World} {ra rb rc rd : Tv} {ta tb tc td : Ty} (hT : Tab w) (ha : TyV w nX ra ta) (hb : TyV w nX rb tb) (hc : TyV w nX rc tc) (hd : TyV w nX rd td) :
    Calls Tryd.prog 5 #[ra.val, rb.val, rc.val, rd.val] w fun e w' => e = .returned (.bool true) ∧ Keep (fun _ => False) w w' := by
  obtain ⟨ak, anm, aAn, ann, acn, aAk, ank, ack⟩ := ra
  obtain ⟨bk, bnm, bAn, bnn, bcn, bAk, bnk, bck⟩ := rb
  obtain ⟨ck, cnm, cAn, cnn, ccn, cAk, cnk, cck⟩ := rc
  obtain ⟨dk, dnm, dAn, dnn, dcn, dAk, dnk, dck⟩ := rd
  have kw : Keep (fun _ => False) w ((((w.alloc (.cells #[.int .i64 ak, .string anm, .slice aAn ann acn, .slice aAk ank ack] 25)).alloc (.cells #[.int .i64 bk, .string bnm, .slice bAn bnn bcn, .slice bAk bnk bck] 25)).alloc (.cells #[.int .i64 ck, .string cnm, .slice cAn cnn ccn, .slice cAk cnk cck] 25)).alloc (.cells #[.int .i64 dk, .string dnm, .slice dAn dnn dcn, .slice dAk dnk dck] 25)) := ((((Keep.refl _ w).alloc _).alloc _).alloc _).alloc _
  have ata : At ((((w.alloc (.cells #[.int .i64 ak, .string anm, .slice aAn ann acn, .slice aAk ank ack] 25)).alloc (.cells #[.int .i64 bk, .string bnm, .slice bAn bnn bcn, .slice bAk bnk bck] 25)).alloc (.cells #[.int .i64 ck, .string cnm, .slice cAn cnn ccn, .slice cAk cnk cck] 25)).alloc (.cells #[.int .i64 dk, .string dnm, .slice dAn dnn dcn, .slice dAk dnk dck] 25)) (w.heap.size) 25 #[.int .i64 ak, .string anm, .slice aAn ann acn, .slice aAk ank ack] := by repeat (first | exact At.new _ _ _ | exact At.new_at (by simp) | refine At.alloc ?_ _)
  have atb : At ((((w.alloc (.cells #[.int .i64 ak, .string anm, .slice aAn ann acn, .slice aAk ank ack] 25)).alloc (.cells #[.int .i64 bk, .string bnm, .slice bAn bnn bcn, .slice bAk bnk bck] 25)).alloc (.cells #[.int .i64 ck, .string cnm, .slice cAn cnn ccn, .slice cAk cnk cck] 25)).alloc (.cells #[.int .i64 dk, .string dnm, .slice dAn dnn dcn, .slice dAk dnk dck] 25)) (w.heap.size + 1) 25 #[.int .i64 bk, .string bnm, .slice bAn bnn bcn, .slice bAk bnk bck] := by repeat (first | exact At.new _ _ _ | exact At.new_at (by simp) | refine At.alloc ?_ _)
  have atc : At ((((w.alloc (.cells #[.int .i64 ak, .string anm, .slice aAn ann acn, .slice aAk ank ack] 25)).alloc (.cells #[.int .i64 bk, .string bnm, .slice bAn bnn bcn, .slice bAk bnk bck] 25)).alloc (.cells #[.int .i64 ck, .string cnm, .slice cAn cnn ccn, .slice cAk cnk cck] 25)).alloc (.cells #[.int .i64 dk, .string dnm, .slice dAn dnn dcn, .slice dAk dnk dck] 25)) (w.heap.size + 1 + 1) 25 #[.int .i64 ck, .string cnm, .slice cAn cnn ccn, .slice cAk cnk cck] := by repeat (first | exact At.new _ _ _ | exact At.new_at (by simp) | refine At.alloc ?_ _)
  have atd : At ((((w.alloc (.cells #[.int .i64 ak, .string anm, .slice aAn ann acn, .slice aAk ank ack] 25)).alloc (.cells #[.int .i64 bk, .string bnm, .slice bAn bnn bcn, .slice bAk bnk bck] 25)).alloc (.cells #[.int .i64 ck, .string cnm, .slice cAn cnn ccn, .slice cAk cnk cck] 25)).alloc (.cells #[.int .i64 dk, .string dnm, .slice dAn dnn dcn, .slice dAk dnk dck] 25)) (w.heap.size + 1 + 1 + 1) 25 #[.int .i64 dk, .string dnm, .slice dAn dnn dcn, .slice dAk dnk dck] := by repeat (first | exact At.new _ _ _ | exact At.new_at (by simp) | refine At.alloc ?_ _)
  have H := Lib.hid (And.intro kw (And.intro ata (And.intro atb (And.intro atc (And.intro atd (And.intro (hT.step kw) (And.intro (ha.step kw) (And.intro (hb.step kw) (And.intro (hc.step kw) (hd.step kw))))))))))
  clear hT kw ha ata hb atb hc atc hd atd
  unfold Tv.val
  simp only
  go_enter Tryd.func5, Tryd.ntmps5
  go_upto_region 1 with fail
  generalize ((((w.alloc (.cells #[.int .i64 ak, .string anm, .slice aAn ann acn, .slice aAk ank ack] 25)).alloc (.cells #[.int .i64 bk, .string bnm, .slice bAn bnn bcn, .slice bAk bnk bck] 25)).alloc (.cells #[.int .i64 ck, .string cnm, .slice cAn cnn ccn, .slice cAk cnk cck] 25)).alloc (.cells #[.int .i64 dk, .string dnm, .slice dAn dnn dcn, .slice dAk dnk dck] 25)) = w1 at *
  generalize w.heap.size + 1 + 1 + 1 = b3_ at *
  generalize w.heap.size + 1 + 1 = b2_ at *
  generalize w.heap.size + 1 = b1_ at *
  generalize w.heap.size = bx at *
  have HC : Hid (∀ w', Keep (fun _ => False) w1 w' → (bx < w'.heap.size ∧ w'.cell? ⟨bx, 0, none⟩ = some (.int .i64 ak) ∧ w'.cell? ⟨bx, 1, none⟩ = some (.string anm) ∧ w'.cell? ⟨bx, 2, none⟩ = some (.slice aAn ann acn) ∧ w'.cell? ⟨bx, 3, none⟩ = some (.slice aAk ank ack)) ∧ (b1_ < w'.heap.size ∧ w'.cell? ⟨b1_, 0, none⟩ = some (.int .i64 bk) ∧ w'.cell? ⟨b1_, 1, none⟩ = some (.string bnm) ∧ w'.cell? ⟨b1_, 2, none⟩ = some (.slice bAn bnn bcn) ∧ w'.cell? ⟨b1_, 3, none⟩ = some (.slice bAk bnk bck)) ∧ (b2_ < w'.heap.size ∧ w'.cell? ⟨b2_, 0, none⟩ = some (.int .i64 ck) ∧ w'.cell? ⟨b2_, 1, none⟩ = some (.string cnm) ∧ w'.cell? ⟨b2_, 2, none⟩ = some (.slice cAn cnn ccn) ∧ w'.cell? ⟨b2_, 3, none⟩ = some (.slice cAk cnk cck)) ∧ (b3_ < w'.heap.size ∧ w'.cell? ⟨b3_, 0, none⟩ = some (.int .i64 dk) ∧ w'.cell? ⟨b3_, 1, none⟩ = some (.string dnm) ∧ w'.cell? ⟨b3_, 2, none⟩ = some (.slice dAn dnn dcn) ∧ w'.cell? ⟨b3_, 3, none⟩ = some (.slice dAk dnk dck))) := fun w' hk => ⟨(hk.at_ H.out.2.1 (fun x => x)).tcells, (hk.at_ H.out.2.2.1 (fun x => x)).tcells, (hk.at_ H.out.2.2.2.1 (fun x => x)).tcells, (hk.at_ H.out.2.2.2.2.1 (fun x => x)).tcells⟩
  have KC : Hid (Keep (fun _ => False) w1 w1) := Keep.refl _ _
  obtain ⟨⟨xal, xa0, xa1, xa2, xa3⟩, ⟨xbl, xb0, xb1, xb2, xb3⟩, ⟨xcl, xc0, xc1, xc2, xc3⟩, ⟨xdl, xd0, xd1, xd2, xd3⟩⟩ := HC.out w1 KC.out
  have HAw : Hid (∀ w', Keep (fun _ => False) w1 w' → Calls Tryd.prog 12 #[] w' fun e w'' => e = .returned (.bool true) ∧ Keep (fun _ => False) w' w'') := fun w' hk => rawake_any (H.out.2.2.2.2.2.1.step hk)
  have HSma : Hid (∀ w', Keep (fun _ => False) w1 w' → Calls Tryd.prog 13 #[.agg #[.int .i64 ak, .string anm, .slice aAn ann acn, .slice aAk ank ack]] w' fun e w'' => (∃ z : Bool, e = .returned (.bool z)) ∧ Keep (fun _ => False) w' w'') := fun w' hk => (smallB_any (r := ⟨ak, anm, aAn, ann, acn, aAk, ank, ack⟩) (H.out.2.2.2.2.2.2.1.step hk)).mono fun e w'' ⟨z, he, hh⟩ => ⟨⟨z, he⟩, hh⟩
  have HSmb : Hid (∀ w', Keep (fun _ => False) w1 w' → Calls Tryd.prog 13 #[.agg #[.int .i64 bk, .string bnm, .slice bAn bnn bcn, .slice bAk bnk bck]] w' fun e w'' => (∃ z : Bool, e = .returned (.bool z)) ∧ Keep (fun _ => False) w' w'') := fun w' hk => (smallB_any (r := ⟨bk, bnm, bAn, bnn, bcn, bAk, bnk, bck⟩) (H.out.2.2.2.2.2.2.2.1.step hk)).mono fun e w'' ⟨z, he, hh⟩ => ⟨⟨z, he⟩, hh⟩
  have HSmc : Hid (∀ w', Keep (fun _ => False) w1 w' → Calls Tryd.prog 13 #[.agg #[.int .i64 ck, .string cnm, .slice cAn cnn ccn, .slice cAk cnk cck]] w' fun e w'' => (∃ z : Bool, e = .returned (.bool z)) ∧ Keep (fun _ => False) w' w'') := fun w' hk => (smallB_any (r := ⟨ck, cnm, cAn, cnn, ccn, cAk, cnk, cck⟩) (H.out.2.2.2.2.2.2.2.2.1.step hk)).mono fun e w'' ⟨z, he, hh⟩ => ⟨⟨z, he⟩, hh⟩
  have HSmd : Hid (∀ w', Keep (fun _ => False) w1 w' → Calls Tryd.prog 13 #[.agg #[.int .i64 dk, .string dnm, .slice dAn dnn dcn, .slice dAk dnk dck]] w' fun e w'' => (∃ z : Bool, e = .returned (.bool z)) ∧ Keep (fun _ => False) w' w'') := fun w' hk => (smallB_any (r := ⟨dk, dnm, dAn, dnn, dcn, dAk, dnk, dck⟩) (H.out.2.2.2.2.2.2.2.2.2.step hk)).mono fun e w'' ⟨z, he, hh⟩ => ⟨⟨z, he⟩, hh⟩
  have HFa : Hid (∀ w', Keep (fun _ => False) w1 w' → Calls Tryd.prog 20 #[.agg #[.int .i64 ak, .string anm, .slice aAn ann acn, .slice aAk ank ack], .agg #[.int .i64 bk, .string bnm, .slice bAn bnn bcn, .slice bAk bnk bck]] w' fun e w'' => (∃ q : Tv, e = .returned q.val ∧ TyV w'' nX q (funOf ta tb)) ∧ Keep (fun _ => False) w' w'') := fun w' hk => fun_any (r := ⟨ak, anm, aAn, ann, acn, aAk, ank, ack⟩) (r' := ⟨bk, bnm, bAn, bnn, bcn, bAk, bnk, bck⟩) (H.out.2.2.2.2.2.2.1.step hk) (H.out.2.2.2.2.2.2.2.1.step hk)
  have HFc : Hid (∀ w', Keep (fun _ => False) w1 w' → Calls Tryd.prog 20 #[.agg #[.int .i64 ck, .string cnm, .slice cAn cnn ccn, .slice cAk cnk cck], .agg #[.int .i64 dk, .string dnm, .slice dAn dnn dcn, .slice dAk dnk dck]] w' fun e w'' => (∃ q : Tv, e = .returned q.val ∧ TyV w'' nX q (funOf tc td)) ∧ Keep (fun _ => False) w' w'') := fun w' hk => fun_any (r := ⟨ck, cnm, cAn, cnn, ccn, cAk, cnk, cck⟩) (r' := ⟨dk, dnm, dAn, dnn, dcn, dAk, dnk, dck⟩) (H.out.2.2.2.2.2.2.2.2.1.step hk) (H.out.2.2.2.2.2.2.2.2.2.step hk)
  go_upto_region 6 with (first | (go_at_call 12; (with_reducible refine (HAw.out _ KC.out).mono ?_); rintro e w2 ⟨rfl, hk⟩; have KN := Lib.hid (KC.out.trans hk (fun _ _ x => x)); clear KC hk xal xa0 xa1 xa2 xa3 xbl xb0 xb1 xb2 xb3 xcl xc0 xc1 xc2 xc3 xdl xd0 xd1 xd2 xd3; have KC := KN; clear KN; obtain ⟨⟨xal, xa0, xa1, xa2, xa3⟩, ⟨xbl, xb0, xb1, xb2, xb3⟩, ⟨xcl, xc0, xc1, xc2, xc3⟩, ⟨xdl, xd0, xd1, xd2, xd3⟩⟩ := HC.out _ KC.out) | (go_at_call_of 13 (Value.agg #[Value.int IntKind.i64 ak, Value.string anm, Value.slice aAn ann acn, Value.slice aAk ank ack]); (with_reducible refine (HSma.out _ KC.out).mono ?_); rintro e w2 ⟨⟨za, rfl⟩, hk⟩; have KN := Lib.hid (KC.out.trans hk (fun _ _ x => x)); clear KC hk xal xa0 xa1 xa2 xa3 xbl xb0 xb1 xb2 xb3 xcl xc0 xc1 xc2 xc3 xdl xd0 xd1 xd2 xd3; have KC := KN; clear KN; obtain ⟨⟨xal, xa0, xa1, xa2, xa3⟩, ⟨xbl, xb0, xb1, xb2, xb3⟩, ⟨xcl, xc0, xc1, xc2, xc3⟩, ⟨xdl, xd0, xd1, xd2, xd3⟩⟩ := HC.out _ KC.out) | (go_at_call_of 13 (Value.agg #[Value.int IntKind.i64 bk, Value.string bnm, Value.slice bAn bnn bcn, Value.slice bAk bnk bck]); (with_reducible refine (HSmb.out _ KC.out).mono ?_); rintro e w2 ⟨⟨zb, rfl⟩, hk⟩; have KN := Lib.hid (KC.out.trans hk (fun _ _ x => x)); clear KC hk xal xa0 xa1 xa2 xa3 xbl xb0 xb1 xb2 xb3 xcl xc0 xc1 xc2 xc3 xdl xd0 xd1 xd2 xd3; have KC := KN; clear KN; obtain ⟨⟨xal, xa0, xa1, xa2, xa3⟩, ⟨xbl, xb0, xb1, xb2, xb3⟩, ⟨xcl, xc0, xc1, xc2, xc3⟩, ⟨xdl, xd0, xd1, xd2, xd3⟩⟩ := HC.out _ KC.out) | (go_at_call_of 13 (Value.agg #[Value.int IntKind.i64 ck, Value.string cnm, Value.slice cAn cnn ccn, Value.slice cAk cnk cck]); (with_reducible refine (HSmc.out _ KC.out).mono ?_); rintro e w2 ⟨⟨zc, rfl⟩, hk⟩; have KN := Lib.hid (KC.out.trans hk (fun _ _ x => x)); clear KC hk xal xa0 xa1 xa2 xa3 xbl xb0 xb1 xb2 xb3 xcl xc0 xc1 xc2 xc3 xdl xd0 xd1 xd2 xd3; have KC := KN; clear KN; obtain ⟨⟨xal, xa0, xa1, xa2, xa3⟩, ⟨xbl, xb0, xb1, xb2, xb3⟩, ⟨xcl, xc0, xc1, xc2, xc3⟩, ⟨xdl, xd0, xd1, xd2, xd3⟩⟩ := HC.out _ KC.out) | (go_at_call_of 13 (Value.agg #[Value.int IntKind.i64 dk, Value.string dnm, Value.slice dAn dnn dcn, Value.slice dAk dnk dck]); (with_reducible refine (HSmd.out _ KC.out).mono ?_); rintro e w2 ⟨⟨zd, rfl⟩, hk⟩; have KN := Lib.hid (KC.out.trans hk (fun _ _ x => x)); clear KC hk xal xa0 xa1 xa2 xa3 xbl xb0 xb1 xb2 xb3 xcl xc0 xc1 xc2 xc3 xdl xd0 xd1 xd2 xd3; have KC := KN; clear KN; obtain ⟨⟨xal, xa0, xa1, xa2, xa3⟩, ⟨xbl, xb0, xb1, xb2, xb3⟩, ⟨xcl, xc0, xc1, xc2, xc3⟩, ⟨xdl, xd0, xd1, xd2, xd3⟩⟩ := HC.out _ KC.out))
  clear HAw HSma HSmb HSmc HSmd
  cases hzz : (za && zb && zc && zd)
  · have hz : za = false ∨ (za = true ∧ zb = false) ∨ (za = true ∧ zb = true ∧ zc = false) ∨ (za = true ∧ zb = true ∧ zc = true ∧ zd = false) := by cases za <;> cases zb <;> cases zc <;> cases zd <;> simp_all
    clear hzz
    rcases hz with rfl | ⟨rfl, rfl⟩ | ⟨rfl, rfl, rfl⟩ | ⟨rfl, rfl, rfl, rfl⟩
    all_goals (
      go_wp2_with fail
      go_ret
      exact ⟨rfl, H.out.1.trans KC.out (fun _ _ x => x)⟩)
  · have hz : za = true ∧ zb = true ∧ zc = true ∧ zd = true := by cases za <;> cases zb <;> cases zc <;> cases zd <;> simp_all
    obtain ⟨rfl, rfl, rfl, rfl⟩ := hz
    clear hzz
    go_upto_region 9 with (go_at_call_of 20 (Value.agg #[Value.int IntKind.i64 ak, Value.string anm, Value.slice aAn ann acn, Value.slice aAk ank ack]); (with_reducible refine (HFa.out _ KC.out).mono ?_); rintro e w2 ⟨⟨⟨uk, unm, uAn, unn, ucn, uAk, unk, uck⟩, he, huv⟩, hk⟩; simp only [Tv.val] at he; subst he; have HU0 := Lib.hid huv; clear huv; have KN := Lib.hid (KC.out.trans hk (fun _ _ x => x)); clear KC hk xal xa0 xa1 xa2 xa3 xbl xb0 xb1 xb2 xb3 xcl xc0 xc1 xc2 xc3 xdl xd0 xd1 xd2 xd3; have KC := KN; clear KN; obtain ⟨⟨xal, xa0, xa1, xa2, xa3⟩, ⟨xbl, xb0, xb1, xb2, xb3⟩, ⟨xcl, xc0, xc1, xc2, xc3⟩, ⟨xdl, xd0, xd1, xd2, xd3⟩⟩ := HC.out _ KC.out)
    refine gen_world ?_
    intro W2 hW2
    have k2 : Keep (fun _ => False) w1 W2 := by rw [hW2]; exact KC.out.alloc _
    have au : At W2 w2.heap.size 25 #[.int .i64 uk, .string unm, .slice uAn unn ucn, .slice uAk unk uck] := by rw [hW2]; exact At.new _ _ _
    have vu := HU0.out.step (show Keep (fun _ => False) w2 W2 by rw [hW2]; exact (Keep.refl _ w2).alloc _)
    clear hW2
    generalize w2.heap.size = ux at *
    have HU := Lib.hid (And.intro k2 (And.intro au vu))
    have KD : Hid (Keep (fun _ => False) w1 W2) := k2
    clear KC xal xa0 xa1 xa2 xa3 xbl xb0 xb1 xb2 xb3 xcl xc0 xc1 xc2 xc3 xdl xd0 xd1 xd2 xd3 HFa au vu HU0 k2
    have KC := KD
    clear KD
    obtain ⟨⟨xal, xa0, xa1, xa2, xa3⟩, ⟨xbl, xb0, xb1, xb2, xb3⟩, ⟨xcl, xc0, xc1, xc2, xc3⟩, ⟨xdl, xd0, xd1, xd2, xd3⟩⟩ := HC.out _ KC.out
    go_upto_region 10 with (go_at_call_of 20 (Value.agg #[Value.int IntKind.i64 ck, Value.string cnm, Value.slice cAn cnn ccn, Value.slice cAk cnk cck]); (with_reducible refine (HFc.out _ KC.out).mono ?_); rintro e w3 ⟨⟨⟨vk, vnm, vAn, vnn, vcn, vAk, vnk, vck⟩, he, huv⟩, hk⟩; simp only [Tv.val] at he; subst he; have HU0 := Lib.hid (And.intro huv hk); clear huv; have KN := Lib.hid (KC.out.trans hk (fun _ _ x => x)); clear KC hk xal xa0 xa1 xa2 xa3 xbl xb0 xb1 xb2 xb3 xcl xc0 xc1 xc2 xc3 xdl xd0 xd1 xd2 xd3; have KC := KN; clear KN; obtain ⟨⟨xal, xa0, xa1, xa2, xa3⟩, ⟨xbl, xb0, xb1, xb2, xb3⟩, ⟨xcl, xc0, xc1, xc2, xc3⟩, ⟨xdl, xd0, xd1, xd2, xd3⟩⟩ := HC.out _ KC.out)
    refine gen_world ?_
    intro W3 hW3
    have k3 : Keep (fun _ => False) W2 W3 := by rw [hW3]; exact HU0.out.2.alloc _
    have av : At W3 w3.heap.size 25 #[.int .i64 vk, .string vnm, .slice vAn vnn vcn, .slice vAk vnk vck] := by rw [hW3]; exact At.new _ _ _
    have vv := HU0.out.1.step (show Keep (fun _ => False) w3 W3 by rw [hW3]; exact (Keep.refl _ w3).alloc _)
    clear hW3
    generalize w3.heap.size = vx at *
    have HV := Lib.hid (And.intro k3 (And.intro av vv))
    have K3 := Lib.hid (HU.out.1.trans k3 (fun _ _ x => x))
    clear KC xal xa0 xa1 xa2 xa3 xbl xb0 xb1 xb2 xb3 xcl xc0 xc1 xc2 xc3 xdl xd0 xd1 xd2 xd3 HFc av vv HU0 k3
    have HC1 := HC
    clear HC
    have HC : Hid (∀ w', Keep (fun _ => False) W3 w' → (bx < w'.heap.size ∧ w'.cell? ⟨bx, 0, none⟩ = some (.int .i64 ak) ∧ w'.cell? ⟨bx, 1, none⟩ = some (.string anm) ∧ w'.cell? ⟨bx, 2, none⟩ = some (.slice aAn ann acn) ∧ w'.cell? ⟨bx, 3, none⟩ = some (.slice aAk ank ack)) ∧ (b1_ < w'.heap.size ∧ w'.cell? ⟨b1_, 0, none⟩ = some (.int .i64 bk) ∧ w'.cell? ⟨b1_, 1, none⟩ = some (.string bnm) ∧ w'.cell? ⟨b1_, 2, none⟩ = some (.slice bAn bnn bcn) ∧ w'.cell? ⟨b1_, 3, none⟩ = some (.slice bAk bnk bck)) ∧ (b2_ < w'.heap.size ∧ w'.cell? ⟨b2_, 0, none⟩ = some (.int .i64 ck) ∧ w'.cell? ⟨b2_, 1, none⟩ = some (.string cnm) ∧ w'.cell? ⟨b2_, 2, none⟩ = some (.slice cAn cnn ccn) ∧ w'.cell? ⟨b2_, 3, none⟩ = some (.slice cAk cnk cck)) ∧ (b3_ < w'.heap.size ∧ w'.cell? ⟨b3_, 0, none⟩ = some (.int .i64 dk) ∧ w'.cell? ⟨b3_, 1, none⟩ = some (.string dnm) ∧ w'.cell? ⟨b3_, 2, none⟩ = some (.slice dAn dnn dcn) ∧ w'.cell? ⟨b3_, 3, none⟩ = some (.slice dAk dnk dck)) ∧ (ux < w'.heap.size ∧ w'.cell? ⟨ux, 0, none⟩ = some (.int .i64 uk) ∧ w'.cell? ⟨ux, 1, none⟩ = some (.string unm) ∧ w'.cell? ⟨ux, 2, none⟩ = some (.slice uAn unn ucn) ∧ w'.cell? ⟨ux, 3, none⟩ = some (.slice uAk unk uck)) ∧ (vx < w'.heap.size ∧ w'.cell? ⟨vx, 0, none⟩ = some (.int .i64 vk) ∧ w'.cell? ⟨vx, 1, none⟩ = some (.string vnm) ∧ w'.cell? ⟨vx, 2, none⟩ = some (.slice vAn vnn vcn) ∧ w'.cell? ⟨vx, 3, none⟩ = some (.slice vAk vnk vck))) := fun w' hk => by
      obtain ⟨ha, hb, hc, hd⟩ := HC1.out w' (K3.out.trans hk (fun _ _ x => x))
      exact ⟨ha, hb, hc, hd, ((HV.out.1.trans hk (fun _ _ x => x)).at_ HU.out.2.1 (fun x => x)).tcells, (hk.at_ HV.out.2.1 (fun x => x)).tcells⟩
    have KC : Hid (Keep (fun _ => False) W3 W3) := Keep.refl _ _
    obtain ⟨⟨xal, xa0, xa1, xa2, xa3⟩, ⟨xbl, xb0, xb1, xb2, xb3⟩, ⟨xcl, xc0, xc1, xc2, xc3⟩, ⟨xdl, xd0, xd1, xd2, xd3⟩, ⟨xul, xu0, xu1, xu2, xu3⟩, ⟨xvl, xv0, xv1, xv2, xv3⟩⟩ := HC.out W3 KC.out
    have HXu : Hid (∀ w', Keep (fun _ => False) W3 w' → Calls Tryd.prog 16 #[.agg #[.int .i64 uk, .string unm, .slice uAn unn ucn, .slice uAk unk uck], .agg #[.int .i64 uk, .string unm, .slice uAn unn ucn, .slice uAk unk uck]] w' fun e w'' => e = .returned (.bool (subT (funOf ta tb) (funOf ta tb))) ∧ Keep (fun _ => False) w' w'') := fun w' hk => rsub_any (r := ⟨uk, unm, uAn, unn, ucn, uAk, unk, uck⟩) (r' := ⟨uk, unm, uAn, unn, ucn, uAk, unk, uck⟩) (H.out.2.2.2.2.2.1.step (K3.out.trans hk (fun _ _ x => x))) (HU.out.2.2.step (HV.out.1.trans hk (fun _ _ x => x))) (HU.out.2.2.step (HV.out.1.trans hk (fun _ _ x => x)))
    have HXv : Hid (∀ w', Keep (fun _ => False) W3 w' → Calls Tryd.prog 16 #[.agg #[.int .i64 vk, .string vnm, .slice vAn vnn vcn, .slice vAk vnk vck], .agg #[.int .i64 vk, .string vnm, .slice vAn vnn vcn, .slice vAk vnk vck]] w' fun e w'' => e = .returned (.bool (subT (funOf tc td) (funOf tc td))) ∧ Keep (fun _ => False) w' w'') := fun w' hk => rsub_any (r := ⟨vk, vnm, vAn, vnn, vcn, vAk, vnk, vck⟩) (r' := ⟨vk, vnm, vAn, vnn, vcn, vAk, vnk, vck⟩) (H.out.2.2.2.2.2.1.step (K3.out.trans hk (fun _ _ x => x))) (HV.out.2.2.step hk) (HV.out.2.2.step hk)
    have HS1 : Hid (∀ w', Keep (fun _ => False) W3 w' → Calls Tryd.prog 16 #[.agg #[.int .i64 uk, .string unm, .slice uAn unn ucn, .slice uAk unk uck], .agg #[.int .i64 vk, .string vnm, .slice vAn vnn vcn, .slice vAk vnk vck]] w' fun e w'' => e = .returned (.bool (subT (funOf ta tb) (funOf tc td))) ∧ Keep (fun _ => False) w' w'') := fun w' hk => rsub_any (r := ⟨uk, unm, uAn, unn, ucn, uAk, unk, uck⟩) (r' := ⟨vk, vnm, vAn, vnn, vcn, vAk, vnk, vck⟩) (H.out.2.2.2.2.2.1.step (K3.out.trans hk (fun _ _ x => x))) (HU.out.2.2.step (HV.out.1.trans hk (fun _ _ x => x))) (HV.out.2.2.step hk)
    have HS2 : Hid (∀ w', Keep (fun _ => False) W3 w' → Calls Tryd.prog 16 #[.agg #[.int .i64 ck, .string cnm, .slice cAn cnn ccn, .slice cAk cnk cck], .agg #[.int .i64 ak, .string anm, .slice aAn ann acn, .slice aAk ank ack]] w' fun e w'' => e = .returned (.bool (subT tc ta)) ∧ Keep (fun _ => False) w' w'') := fun w' hk => rsub_any (r := ⟨ck, cnm, cAn, cnn, ccn, cAk, cnk, cck⟩) (r' := ⟨ak, anm, aAn, ann, acn, aAk, ank, ack⟩) (H.out.2.2.2.2.2.1.step (K3.out.trans hk (fun _ _ x => x))) (H.out.2.2.2.2.2.2.2.2.1.step (K3.out.trans hk (fun _ _ x => x))) (H.out.2.2.2.2.2.2.1.step (K3.out.trans hk (fun _ _ x => x)))
    have HS3 : Hid (∀ w', Keep (fun _ => False) W3 w' → Calls Tryd.prog 16 #[.agg #[.int .i64 bk, .string bnm, .slice bAn bnn bcn, .slice bAk bnk bck], .agg #[.int .i64 dk, .string dnm, .slice dAn dnn dcn, .slice dAk dnk dck]] w' fun e w'' => e = .returned (.bool (subT tb td)) ∧ Keep (fun _ => False) w' w'') := fun w' hk => rsub_any (r := ⟨bk, bnm, bAn, bnn, bcn, bAk, bnk, bck⟩) (r' := ⟨dk, dnm, dAn, dnn, dcn, dAk, dnk, dck⟩) (H.out.2.2.2.2.2.1.step (K3.out.trans hk (fun _ _ x => x))) (H.out.2.2.2.2.2.2.2.1.step (K3.out.trans hk (fun _ _ x => x))) (H.out.2.2.2.2.2.2.2.2.2.step (K3.out.trans hk (fun _ _ x => x)))
    have HF1 : Hid (∀ w', Keep (fun _ => False) W3 w' → Calls Tryd.prog 15 #[.agg #[.int .i64 uk, .string unm, .slice uAn unn ucn, .slice uAk unk uck], .agg #[.int .i64 vk, .string vnm, .slice vAn vnn vcn, .slice vAk vnk vck]] w' fun e w'' => e = .returned (.bool (fitsT (funOf ta tb) (funOf tc td))) ∧ Keep (fun _ => False) w' w'') := fun w' hk => rfits_any (r := ⟨uk, unm, uAn, unn, ucn, uAk, unk, uck⟩) (r' := ⟨vk, vnm, vAn, vnn, vcn, vAk, vnk, vck⟩) (H.out.2.2.2.2.2.1.step (K3.out.trans hk (fun _ _ x => x))) (HU.out.2.2.step (HV.out.1.trans hk (fun _ _ x => x))) (HV.out.2.2.step hk)
    have HF2 : Hid (∀ w', Keep (fun _ => False) W3 w' → Calls Tryd.prog 15 #[.agg #[.int .i64 ck, .string cnm, .slice cAn cnn ccn, .slice cAk cnk cck], .agg #[.int .i64 ak, .string anm, .slice aAn ann acn, .slice aAk ank ack]] w' fun e w'' => e = .returned (.bool (fitsT tc ta)) ∧ Keep (fun _ => False) w' w'') := fun w' hk => rfits_any (r := ⟨ck, cnm, cAn, cnn, ccn, cAk, cnk, cck⟩) (r' := ⟨ak, anm, aAn, ann, acn, aAk, ank, ack⟩) (H.out.2.2.2.2.2.1.step (K3.out.trans hk (fun _ _ x => x))) (H.out.2.2.2.2.2.2.2.2.1.step (K3.out.trans hk (fun _ _ x => x))) (H.out.2.2.2.2.2.2.1.step (K3.out.trans hk (fun _ _ x => x)))
    have HF3 : Hid (∀ w', Keep (fun _ => False) W3 w' → Calls Tryd.prog 15 #[.agg #[.int .i64 bk, .string bnm, .slice bAn bnn bcn, .slice bAk bnk bck], .agg #[.int .i64 dk, .string dnm, .slice dAn dnn dcn, .slice dAk dnk dck]] w' fun e w'' => e = .returned (.bool (fitsT tb td)) ∧ Keep (fun _ => False) w' w'') := fun w' hk => rfits_any (r := ⟨bk, bnm, bAn, bnn, bcn, bAk, bnk, bck⟩) (r' := ⟨dk, dnm, dAn, dnn, dcn, dAk, dnk, dck⟩) (H.out.2.2.2.2.2.1.step (K3.out.trans hk (fun _ _ x => x))) (H.out.2.2.2.2.2.2.2.1.step (K3.out.trans hk (fun _ _ x => x))) (H.out.2.2.2.2.2.2.2.2.2.step (K3.out.trans hk (fun _ _ x => x)))
    rw [subT_refl] at HXu HXv
    have HKEY : Hid (normB (funOf ta tb) = true → normB (funOf tc td) = true → _ ∧ _) := fun_laws (a := ta) (b := tb) (c := tc) (d := td)
    cases hx : normB (funOf ta tb)
    · rw [hx] at HXu
      clear hx HKEY HS1 HS2 HS3 HF1 HF2 HF3
      go_wp2_with (go_at_call_of 16 (Value.agg #[Value.int IntKind.i64 uk, Value.string unm, Value.slice uAn unn ucn, Value.slice uAk unk uck]); (with_reducible refine (HXu.out _ KC.out).mono ?_); rintro e w4 ⟨rfl, hk⟩; have KN := Lib.hid (KC.out.trans hk (fun _ _ x => x)); clear KC hk xal xa0 xa1 xa2 xa3 xbl xb0 xb1 xb2 xb3 xcl xc0 xc1 xc2 xc3 xdl xd0 xd1 xd2 xd3 xul xu0 xu1 xu2 xu3 xvl xv0 xv1 xv2 xv3; have KC := KN; clear KN; obtain ⟨⟨xal, xa0, xa1, xa2, xa3⟩, ⟨xbl, xb0, xb1, xb2, xb3⟩, ⟨xcl, xc0, xc1, xc2, xc3⟩, ⟨xdl, xd0, xd1, xd2, xd3⟩, ⟨xul, xu0, xu1, xu2, xu3⟩, ⟨xvl, xv0, xv1, xv2, xv3⟩⟩ := HC.out _ KC.out)
      go_ret
      exact ⟨rfl, (H.out.1.trans K3.out (fun _ _ x => x)).trans KC.out (fun _ _ x => x)⟩
    cases hy : normB (funOf tc td)
    · rw [hx] at HXu
      rw [hy] at HXv
      clear hx hy HKEY HS1 HS2 HS3 HF1 HF2 HF3
      go_wp2_with (first | (go_at_call_of 16 (Value.agg #[Value.int IntKind.i64 uk, Value.string unm, Value.slice uAn unn ucn, Value.slice uAk unk uck]); (with_reducible refine (HXu.out _ KC.out).mono ?_); rintro e w4 ⟨rfl, hk⟩; have KN := Lib.hid (KC.out.trans hk (fun _ _ x => x)); clear KC hk xal xa0 xa1 xa2 xa3 xbl xb0 xb1 xb2 xb3 xcl xc0 xc1 xc2 xc3 xdl xd0 xd1 xd2 xd3 xul xu0 xu1 xu2 xu3 xvl xv0 xv1 xv2 xv3; have KC := KN; clear KN; obtain ⟨⟨xal, xa0, xa1, xa2, xa3⟩, ⟨xbl, xb0, xb1, xb2, xb3⟩, ⟨xcl, xc0, xc1, xc2, xc3⟩, ⟨xdl, xd0, xd1, xd2, xd3⟩, ⟨xul, xu0, xu1, xu2, xu3⟩, ⟨xvl, xv0, xv1, xv2, xv3⟩⟩ := HC.out _ KC.out) | (go_at_call_of 16 (Value.agg #[Value.int IntKind.i64 vk, Value.string vnm, Value.slice vAn vnn vcn, Value.slice vAk vnk vck]); (with_reducible refine (HXv.out _ KC.out).mono ?_); rintro e w4 ⟨rfl, hk⟩; have KN := Lib.hid (KC.out.trans hk (fun _ _ x => x)); clear KC hk xal xa0 xa1 xa2 xa3 xbl xb0 xb1 xb2 xb3 xcl xc0 xc1 xc2 xc3 xdl xd0 xd1 xd2 xd3 xul xu0 xu1 xu2 xu3 xvl xv0 xv1 xv2 xv3; have KC := KN; clear KN; obtain ⟨⟨xal, xa0, xa1, xa2, xa3⟩, ⟨xbl, xb0, xb1, xb2, xb3⟩, ⟨xcl, xc0, xc1, xc2, xc3⟩, ⟨xdl, xd0, xd1, xd2, xd3⟩, ⟨xul, xu0, xu1, xu2, xu3⟩, ⟨xvl, xv0, xv1, xv2, xv3⟩⟩ := HC.out _ KC.out))
      go_ret
      exact ⟨rfl, (H.out.1.trans K3.out (fun _ _ x => x)).trans KC.out (fun _ _ x => x)⟩
    obtain ⟨e1, e2⟩ := HKEY.out hx hy
    rw [e1] at HS1
    rw [e2] at HF1
    rw [hx] at HXu
    rw [hy] at HXv
    clear hx hy e1 e2 HKEY
    go_upto_region 12 with (first | (go_at_call_of 16 (Value.agg #[Value.int IntKind.i64 uk, Value.string unm, Value.slice uAn unn ucn, Value.slice uAk unk uck]); (with_reducible refine (HXu.out _ KC.out).mono ?_); rintro e w4 ⟨rfl, hk⟩; have KN := Lib.hid (KC.out.trans hk (fun _ _ x => x)); clear KC hk xal xa0 xa1 xa2 xa3 xbl xb0 xb1 xb2 xb3 xcl xc0 xc1 xc2 xc3 xdl xd0 xd1 xd2 xd3 xul xu0 xu1 xu2 xu3 xvl xv0 xv1 xv2 xv3; have KC := KN; clear KN; obtain ⟨⟨xal, xa0, xa1, xa2, xa3⟩, ⟨xbl, xb0, xb1, xb2, xb3⟩, ⟨xcl, xc0, xc1, xc2, xc3⟩, ⟨xdl, xd0, xd1, xd2, xd3⟩, ⟨xul, xu0, xu1, xu2, xu3⟩, ⟨xvl, xv0, xv1, xv2, xv3⟩⟩ := HC.out _ KC.out) | (go_at_call_of 16 (Value.agg #[Value.int IntKind.i64 vk, Value.string vnm, Value.slice vAn vnn vcn, Value.slice vAk vnk vck]); (with_reducible refine (HXv.out _ KC.out).mono ?_); rintro e w4 ⟨rfl, hk⟩; have KN := Lib.hid (KC.out.trans hk (fun _ _ x => x)); clear KC hk xal xa0 xa1 xa2 xa3 xbl xb0 xb1 xb2 xb3 xcl xc0 xc1 xc2 xc3 xdl xd0 xd1 xd2 xd3 xul xu0 xu1 xu2 xu3 xvl xv0 xv1 xv2 xv3; have KC := KN; clear KN; obtain ⟨⟨xal, xa0, xa1, xa2, xa3⟩, ⟨xbl, xb0, xb1, xb2, xb3⟩, ⟨xcl, xc0, xc1, xc2, xc3⟩, ⟨xdl, xd0, xd1, xd2, xd3⟩, ⟨xul, xu0, xu1, xu2, xu3⟩, ⟨xvl, xv0, xv1, xv2, xv3⟩⟩ := HC.out _ KC.out))
    clear HXu HXv
    have KN : Hid (Keep (fun _ => False) W3 _) := KC.out.drew
    clear KC xal xa0 xa1 xa2 xa3 xbl xb0 xb1 xb2 xb3 xcl xc0 xc1 xc2 xc3 xdl xd0 xd1 xd2 xd3 xul xu0 xu1 xu2 xu3 xvl xv0 xv1 xv2 xv3
    have KC := KN
    clear KN
    cases hs2 : subT tc ta
    · rw [hs2] at HS2 HS1
      clear hs2
      cases hf2 : fitsT tc ta
      · rw [hf2] at HF2 HF1
        clear hf2
        · skip
          refine wp_region_held_n (S := fun w' => (bx < w'.heap.size ∧ w'.cell? ⟨bx, 0, none⟩ = some (.int .i64 ak) ∧ w'.cell? ⟨bx, 1, none⟩ = some (.string anm) ∧ w'.cell? ⟨bx, 2, none⟩ = some (.slice aAn ann acn) ∧ w'.cell? ⟨bx, 3, none⟩ = some (.slice aAk ank ack)) ∧ (b1_ < w'.heap.size ∧ w'.cell? ⟨b1_, 0, none⟩ = some (.int .i64 bk) ∧ w'.cell? ⟨b1_, 1, none⟩ = some (.string bnm) ∧ w'.cell? ⟨b1_, 2, none⟩ = some (.slice bAn bnn bcn) ∧ w'.cell? ⟨b1_, 3, none⟩ = some (.slice bAk bnk bck)) ∧ (b2_ < w'.heap.size ∧ w'.cell? ⟨b2_, 0, none⟩ = some (.int .i64 ck) ∧ w'.cell? ⟨b2_, 1, none⟩ = some (.string cnm) ∧ w'.cell? ⟨b2_, 2, none⟩ = some (.slice cAn cnn ccn) ∧ w'.cell? ⟨b2_, 3, none⟩ = some (.slice cAk cnk cck)) ∧ (b3_ < w'.heap.size ∧ w'.cell? ⟨b3_, 0, none⟩ = some (.int .i64 dk) ∧ w'.cell? ⟨b3_, 1, none⟩ = some (.string dnm) ∧ w'.cell? ⟨b3_, 2, none⟩ = some (.slice dAn dnn dcn) ∧ w'.cell? ⟨b3_, 3, none⟩ = some (.slice dAk dnk dck)) ∧ (ux < w'.heap.size ∧ w'.cell? ⟨ux, 0, none⟩ = some (.int .i64 uk) ∧ w'.cell? ⟨ux, 1, none⟩ = some (.string unm) ∧ w'.cell? ⟨ux, 2, none⟩ = some (.slice uAn unn ucn) ∧ w'.cell? ⟨ux, 3, none⟩ = some (.slice uAk unk uck)) ∧ (vx < w'.heap.size ∧ w'.cell? ⟨vx, 0, none⟩ = some (.int .i64 vk) ∧ w'.cell? ⟨vx, 1, none⟩ = some (.string vnm) ∧ w'.cell? ⟨vx, 2, none⟩ = some (.slice vAn vnn vcn) ∧ w'.cell? ⟨vx, 3, none⟩ = some (.slice vAk vnk vck))) 27 rfl (by kernel_rfl) ?_ (fun hHeld => ?_)
          · exact HC.out _ KC.out
          refine' wpAnyH_tk (i := 0) (v := _) rfl (by kernel_rfl) (by decide +kernel) (by decide +kernel) (fun _ _ _ h => h) (Or.inl ⟨by rfl, ?_⟩) (by assumption) ?_
          rotate_left
          · (intro w hSw; (try dsimp only at hSw); (try go_simp); (try (with_reducible rfl)))
          (try simp only [Act.put, List.setIfInBounds_toArray, List.set_cons_zero, List.set_cons_succ])
          refine' wpAnyH_tk (i := 1) (v := _) rfl (by kernel_rfl) (by decide +kernel) (by decide +kernel) (fun _ _ _ h => h) (Or.inl ⟨by rfl, ?_⟩) (by assumption) ?_
          rotate_left
          · (intro w hSw; (try dsimp only at hSw); (try go_simp); (try (with_reducible rfl)))
          (try simp only [Act.put, List.setIfInBounds_toArray, List.set_cons_zero, List.set_cons_succ])
          refine' wpAnyH_tk (i := 3) (v := _) rfl (by kernel_rfl) (by decide +kernel) (by decide +kernel) (fun _ _ _ h => h) (Or.inl ⟨by rfl, ?_⟩) (by assumption) ?_
          rotate_left
          · (intro w hSw; (try dsimp only at hSw); (try go_simp); (try (with_reducible rfl)))
          (try simp only [Act.put, List.setIfInBounds_toArray, List.set_cons_zero, List.set_cons_succ])
          refine' wpAnyH_tk (i := 4) (v := _) rfl (by kernel_rfl) (by decide +kernel) (by decide +kernel) (fun _ _ _ h => h) (Or.inl ⟨by rfl, ?_⟩) (by assumption) ?_
          rotate_left
          · (intro w hSw; (try dsimp only at hSw); (try go_simp); (try (with_reducible rfl)))
          (try simp only [Act.put, List.setIfInBounds_toArray, List.set_cons_zero, List.set_cons_succ])
          refine wpAnyH_ready (rs := [2]) (by decide +kernel) (by simp) ?_
          refine AllReadyH_one rfl (fun K hK => ?_)
          go_simp
          go_at_call_of 16 (Value.agg #[Value.int IntKind.i64 uk, Value.string unm, Value.slice uAn unn ucn, Value.slice uAk unk uck])
          (with_reducible refine (HS1.out _ KC.out).mono ?_)
          rintro e w5 ⟨rfl, hk⟩
          have KN := Lib.hid (KC.out.trans hk (fun _ _ x => x))
          clear KC hk
          have KC := KN
          clear KN
          refine hK.out _ _ ?_ (fun hHeld => ?_)
          · exact HC.out _ KC.out
          clear hK K
          (try simp only [Act.put, List.setIfInBounds_toArray, List.set_cons_zero, List.set_cons_succ])
          refine wpAnyH_ready (rs := [5]) (by decide +kernel) (by simp) ?_
          refine AllReadyH_one rfl (fun K hK => ?_)
          go_simp
          go_at_call_of 16 (Value.agg #[Value.int IntKind.i64 ck, Value.string cnm, Value.slice cAn cnn ccn, Value.slice cAk cnk cck])
          (with_reducible refine (HS2.out _ KC.out).mono ?_)
          rintro e w5 ⟨rfl, hk⟩
          have KN := Lib.hid (KC.out.trans hk (fun _ _ x => x))
          clear KC hk
          have KC := KN
          clear KN
          refine hK.out _ _ ?_ (fun hHeld => ?_)
          · exact HC.out _ KC.out
          clear hK K
          (try simp only [Act.put, List.setIfInBounds_toArray, List.set_cons_zero, List.set_cons_succ])
          refine' wpAnyH_tk (i := 6) (v := _) rfl (by kernel_rfl) (by decide +kernel) (by decide +kernel) (fun _ _ _ h => h) (Or.inl ⟨by rfl, ?_⟩) (by assumption) ?_
          rotate_left
          · (intro w hSw; (try dsimp only at hSw); (try go_simp); (try (with_reducible rfl)))
          (try simp only [Act.put, List.setIfInBounds_toArray, List.set_cons_zero, List.set_cons_succ])
          refine wpAnyH_tk (i := 7) (v := undef) rfl (by kernel_rfl) (by decide +kernel) (by decide +kernel) (fun _ _ _ h => h) (Or.inr ⟨by rfl, rfl⟩) (by assumption) ?_
          (try simp only [Act.put, List.setIfInBounds_toArray, List.set_cons_zero, List.set_cons_succ])
          refine wpAnyH_tk (i := 8) (v := undef) rfl (by kernel_rfl) (by decide +kernel) (by decide +kernel) (fun _ _ _ h => h) (Or.inr ⟨by rfl, rfl⟩) (by assumption) ?_
          (try simp only [Act.put, List.setIfInBounds_toArray, List.set_cons_zero, List.set_cons_succ])
          refine wpAnyH_tk (i := 9) (v := undef) rfl (by kernel_rfl) (by decide +kernel) (by decide +kernel) (fun _ _ _ h => h) (Or.inr ⟨by rfl, rfl⟩) (by assumption) ?_
          (try simp only [Act.put, List.setIfInBounds_toArray, List.set_cons_zero, List.set_cons_succ])
          refine' wpAnyH_tk (i := 10) (v := _) rfl (by kernel_rfl) (by decide +kernel) (by decide +kernel) (fun _ _ _ h => h) (Or.inl ⟨by rfl, ?_⟩) (by assumption) ?_
          rotate_left
          · (intro w hSw; (try dsimp only at hSw); (try go_simp); (try (with_reducible rfl)))
          (try simp only [Act.put, List.setIfInBounds_toArray, List.set_cons_zero, List.set_cons_succ])
          refine' wpAnyH_tk (i := 11) (v := _) rfl (by kernel_rfl) (by decide +kernel) (by decide +kernel) (fun _ _ _ h => h) (Or.inl ⟨by rfl, ?_⟩) (by assumption) ?_
          rotate_left
          · (intro w hSw; (try dsimp only at hSw); (try go_simp); (try (with_reducible rfl)))
          (try simp only [Act.put, List.setIfInBounds_toArray, List.set_cons_zero, List.set_cons_succ])
          refine' wpAnyH_tk (i := 12) (v := _) rfl (by kernel_rfl) (by decide +kernel) (by decide +kernel) (fun _ _ _ h => h) (Or.inl ⟨by rfl, ?_⟩) (by assumption) ?_
          rotate_left
          · (intro w hSw; (try dsimp only at hSw); (try go_simp); (try (with_reducible rfl)))
          (try simp only [Act.put, List.setIfInBounds_toArray, List.set_cons_zero, List.set_cons_succ])
          refine' wpAnyH_tk (i := 13) (v := _) rfl (by kernel_rfl) (by decide +kernel) (by decide +kernel) (fun _ _ _ h => h) (Or.inl ⟨by rfl, ?_⟩) (by assumption) ?_
          rotate_left
          · (intro w hSw; (try dsimp only at hSw); (try go_simp); (try (with_reducible rfl)))
          (try simp only [Act.put, List.setIfInBounds_toArray, List.set_cons_zero, List.set_cons_succ])
          refine' wpAnyH_tk (i := 14) (v := _) rfl (by kernel_rfl) (by decide +kernel) (by decide +kernel) (fun _ _ _ h => h) (Or.inl ⟨by rfl, ?_⟩) (by assumption) ?_
          rotate_left
          · (intro w hSw; (try dsimp only at hSw); (try go_simp); (try (with_reducible rfl)))
          (try simp only [Act.put, List.setIfInBounds_toArray, List.set_cons_zero, List.set_cons_succ])
          refine' wpAnyH_tk (i := 16) (v := _) rfl (by kernel_rfl) (by decide +kernel) (by decide +kernel) (fun _ _ _ h => h) (Or.inl ⟨by rfl, ?_⟩) (by assumption) ?_
          rotate_left
          · (intro w hSw; (try dsimp only at hSw); (try go_simp); (try (with_reducible rfl)))
          (try simp only [Act.put, List.setIfInBounds_toArray, List.set_cons_zero, List.set_cons_succ])
          refine' wpAnyH_tk (i := 17) (v := _) rfl (by kernel_rfl) (by decide +kernel) (by decide +kernel) (fun _ _ _ h => h) (Or.inl ⟨by rfl, ?_⟩) (by assumption) ?_
          rotate_left
          · (intro w hSw; (try dsimp only at hSw); (try go_simp); (try (with_reducible rfl)))
          (try simp only [Act.put, List.setIfInBounds_toArray, List.set_cons_zero, List.set_cons_succ])
          refine wpAnyH_ready (rs := [15]) (by decide +kernel) (by simp) ?_
          refine AllReadyH_one rfl (fun K hK => ?_)
          go_simp
          go_at_call_of 15 (Value.agg #[Value.int IntKind.i64 uk, Value.string unm, Value.slice uAn unn ucn, Value.slice uAk unk uck])
          (with_reducible refine (HF1.out _ KC.out).mono ?_)
          rintro e w5 ⟨rfl, hk⟩
          have KN := Lib.hid (KC.out.trans hk (fun _ _ x => x))
          clear KC hk
          have KC := KN
          clear KN
          refine hK.out _ _ ?_ (fun hHeld => ?_)
          · exact HC.out _ KC.out
          clear hK K
          (try simp only [Act.put, List.setIfInBounds_toArray, List.set_cons_zero, List.set_cons_succ])
          refine wpAnyH_ready (rs := [18]) (by decide +kernel) (by simp) ?_
          refine AllReadyH_one rfl (fun K hK => ?_)
          go_simp
          go_at_call_of 15 (Value.agg #[Value.int IntKind.i64 ck, Value.string cnm, Value.slice cAn cnn ccn, Value.slice cAk cnk cck])
          (with_reducible refine (HF2.out _ KC.out).mono ?_)
          rintro e w5 ⟨rfl, hk⟩
          have KN := Lib.hid (KC.out.trans hk (fun _ _ x => x))
          clear KC hk
          have KC := KN
          clear KN
          refine hK.out _ _ ?_ (fun hHeld => ?_)
          · exact HC.out _ KC.out
          clear hK K
          (try simp only [Act.put, List.setIfInBounds_toArray, List.set_cons_zero, List.set_cons_succ])
          refine' wpAnyH_tk (i := 19) (v := _) rfl (by kernel_rfl) (by decide +kernel) (by decide +kernel) (fun _ _ _ h => h) (Or.inl ⟨by rfl, ?_⟩) (by assumption) ?_
          rotate_left
          · (intro w hSw; (try dsimp only at hSw); (try go_simp); (try (with_reducible rfl)))
          (try simp only [Act.put, List.setIfInBounds_toArray, List.set_cons_zero, List.set_cons_succ])
          refine wpAnyH_tk (i := 20) (v := undef) rfl (by kernel_rfl) (by decide +kernel) (by decide +kernel) (fun _ _ _ h => h) (Or.inr ⟨by rfl, rfl⟩) (by assumption) ?_
          (try simp only [Act.put, List.setIfInBounds_toArray, List.set_cons_zero, List.set_cons_succ])
          refine wpAnyH_tk (i := 21) (v := undef) rfl (by kernel_rfl) (by decide +kernel) (by decide +kernel) (fun _ _ _ h => h) (Or.inr ⟨by rfl, rfl⟩) (by assumption) ?_
          (try simp only [Act.put, List.setIfInBounds_toArray, List.set_cons_zero, List.set_cons_succ])
          refine wpAnyH_tk (i := 22) (v := undef) rfl (by kernel_rfl) (by decide +kernel) (by decide +kernel) (fun _ _ _ h => h) (Or.inr ⟨by rfl, rfl⟩) (by assumption) ?_
          (try simp only [Act.put, List.setIfInBounds_toArray, List.set_cons_zero, List.set_cons_succ])
          refine' wpAnyH_tk (i := 23) (v := _) rfl (by kernel_rfl) (by decide +kernel) (by decide +kernel) (fun _ _ _ h => h) (Or.inl ⟨by rfl, ?_⟩) (by assumption) ?_
          rotate_left
          · (intro w hSw; (try dsimp only at hSw); (try go_simp); (try (with_reducible rfl)))
          (try simp only [Act.put, List.setIfInBounds_toArray, List.set_cons_zero, List.set_cons_succ])
          refine' wpAnyH_tk (i := 24) (v := _) rfl (by kernel_rfl) (by decide +kernel) (by decide +kernel) (fun _ _ _ h => h) (Or.inl ⟨by rfl, ?_⟩) (by assumption) ?_
          rotate_left
          · (intro w hSw; (try dsimp only at hSw); (try go_simp); (try (with_reducible rfl)))
          (try simp only [Act.put, List.setIfInBounds_toArray, List.set_cons_zero, List.set_cons_succ])
          refine' wpAnyH_tk (i := 25) (v := _) rfl (by kernel_rfl) (by decide +kernel) (by decide +kernel) (fun _ _ _ h => h) (Or.inl ⟨by rfl, ?_⟩) (by assumption) ?_
          rotate_left
          · (intro w hSw; (try dsimp only at hSw); (try go_simp); (try (with_reducible rfl)))
          (try simp only [Act.put, List.setIfInBounds_toArray, List.set_cons_zero, List.set_cons_succ])
          refine' wpAnyH_tk (i := 26) (v := _) rfl (by kernel_rfl) (by decide +kernel) (by decide +kernel) (fun _ _ _ h => h) (Or.inl ⟨by rfl, ?_⟩) (by assumption) ?_
          rotate_left
          · (intro w hSw; (try dsimp only at hSw); (try go_simp); (try (with_reducible rfl)))
          (try simp only [Act.put, List.setIfInBounds_toArray, List.set_cons_zero, List.set_cons_succ])
          refine wpAnyH_done (by decide +kernel) ?_ _
          go_wp2_with fail
          go_ret
          exact ⟨rfl, (H.out.1.trans K3.out (fun _ _ x => x)).trans KC.out (fun _ _ x => x)⟩
      · rw [hf2] at HF2 HF1
        clear hf2
        cases hf3 : fitsT tb td
        all_goals rw [hf3] at HF3 HF1
        all_goals clear hf3
        all_goals (
          refine wp_region_held_n (S := fun w' => (bx < w'.heap.size ∧ w'.cell? ⟨bx, 0, none⟩ = some (.int .i64 ak) ∧ w'.cell? ⟨bx, 1, none⟩ = some (.string anm) ∧ w'.cell? ⟨bx, 2, none⟩ = some (.slice aAn ann acn) ∧ w'.cell? ⟨bx, 3, none⟩ = some (.slice aAk ank ack)) ∧ (b1_ < w'.heap.size ∧ w'.cell? ⟨b1_, 0, none⟩ = some (.int .i64 bk) ∧ w'.cell? ⟨b1_, 1, none⟩ = some (.string bnm) ∧ w'.cell? ⟨b1_, 2, none⟩ = some (.slice bAn bnn bcn) ∧ w'.cell? ⟨b1_, 3, none⟩ = some (.slice bAk bnk bck)) ∧ (b2_ < w'.heap.size ∧ w'.cell? ⟨b2_, 0, none⟩ = some (.int .i64 ck) ∧ w'.cell? ⟨b2_, 1, none⟩ = some (.string cnm) ∧ w'.cell? ⟨b2_, 2, none⟩ = some (.slice cAn cnn ccn) ∧ w'.cell? ⟨b2_, 3, none⟩ = some (.slice cAk cnk cck)) ∧ (b3_ < w'.heap.size ∧ w'.cell? ⟨b3_, 0, none⟩ = some (.int .i64 dk) ∧ w'.cell? ⟨b3_, 1, none⟩ = some (.string dnm) ∧ w'.cell? ⟨b3_, 2, none⟩ = some (.slice dAn dnn dcn) ∧ w'.cell? ⟨b3_, 3, none⟩ = some (.slice dAk dnk dck)) ∧ (ux < w'.heap.size ∧ w'.cell? ⟨ux, 0, none⟩ = some (.int .i64 uk) ∧ w'.cell? ⟨ux, 1, none⟩ = some (.string unm) ∧ w'.cell? ⟨ux, 2, none⟩ = some (.slice uAn unn ucn) ∧ w'.cell? ⟨ux, 3, none⟩ = some (.slice uAk unk uck)) ∧ (vx < w'.heap.size ∧ w'.cell? ⟨vx, 0, none⟩ = some (.int .i64 vk) ∧ w'.cell? ⟨vx, 1, none⟩ = some (.string vnm) ∧ w'.cell? ⟨vx, 2, none⟩ = some (.slice vAn vnn vcn) ∧ w'.cell? ⟨vx, 3, none⟩ = some (.slice vAk vnk vck))) 27 rfl (by kernel_rfl) ?_ (fun hHeld => ?_)
          · exact HC.out _ KC.out
          refine' wpAnyH_tk (i := 0) (v := _) rfl (by kernel_rfl) (by decide +kernel) (by decide +kernel) (fun _ _ _ h => h) (Or.inl ⟨by rfl, ?_⟩) (by assumption) ?_
          rotate_left
          · (intro w hSw; (try dsimp only at hSw); (try go_simp); (try (with_reducible rfl)))
          (try simp only [Act.put, List.setIfInBounds_toArray, List.set_cons_zero, List.set_cons_succ])
          refine' wpAnyH_tk (i := 1) (v := _) rfl (by kernel_rfl) (by decide +kernel) (by decide +kernel) (fun _ _ _ h => h) (Or.inl ⟨by rfl, ?_⟩) (by assumption) ?_
          rotate_left
          · (intro w hSw; (try dsimp only at hSw); (try go_simp); (try (with_reducible rfl)))
          (try simp only [Act.put, List.setIfInBounds_toArray, List.set_cons_zero, List.set_cons_succ])
          refine' wpAnyH_tk (i := 3) (v := _) rfl (by kernel_rfl) (by decide +kernel) (by decide +kernel) (fun _ _ _ h => h) (Or.inl ⟨by rfl, ?_⟩) (by assumption) ?_
          rotate_left
          · (intro w hSw; (try dsimp only at hSw); (try go_simp); (try (with_reducible rfl)))
          (try simp only [Act.put, List.setIfInBounds_toArray, List.set_cons_zero, List.set_cons_succ])
          refine' wpAnyH_tk (i := 4) (v := _) rfl (by kernel_rfl) (by decide +kernel) (by decide +kernel) (fun _ _ _ h => h) (Or.inl ⟨by rfl, ?_⟩) (by assumption) ?_
          rotate_left
          · (intro w hSw; (try dsimp only at hSw); (try go_simp); (try (with_reducible rfl)))
          (try simp only [Act.put, List.setIfInBounds_toArray, List.set_cons_zero, List.set_cons_succ])
          refine wpAnyH_ready (rs := [2]) (by decide +kernel) (by simp) ?_
          refine AllReadyH_one rfl (fun K hK => ?_)
          go_simp
          go_at_call_of 16 (Value.agg #[Value.int IntKind.i64 uk, Value.string unm, Value.slice uAn unn ucn, Value.slice uAk unk uck])
          (with_reducible refine (HS1.out _ KC.out).mono ?_)
          rintro e w5 ⟨rfl, hk⟩
          have KN := Lib.hid (KC.out.trans hk (fun _ _ x => x))
          clear KC hk
          have KC := KN
          clear KN
          refine hK.out _ _ ?_ (fun hHeld => ?_)
          · exact HC.out _ KC.out
          clear hK K
          (try simp only [Act.put, List.setIfInBounds_toArray, List.set_cons_zero, List.set_cons_succ])
          refine wpAnyH_ready (rs := [5]) (by decide +kernel) (by simp) ?_
          refine AllReadyH_one rfl (fun K hK => ?_)
          go_simp
          go_at_call_of 16 (Value.agg #[Value.int IntKind.i64 ck, Value.string cnm, Value.slice cAn cnn ccn, Value.slice cAk cnk cck])
          (with_reducible refine (HS2.out _ KC.out).mono ?_)
          rintro e w5 ⟨rfl, hk⟩
          have KN := Lib.hid (KC.out.trans hk (fun _ _ x => x))
          clear KC hk
          have KC := KN
          clear KN
          refine hK.out _ _ ?_ (fun hHeld => ?_)
          · exact HC.out _ KC.out
          clear hK K
          (try simp only [Act.put, List.setIfInBounds_toArray, List.set_cons_zero, List.set_cons_succ])
          refine' wpAnyH_tk (i := 6) (v := _) rfl (by kernel_rfl) (by decide +kernel) (by decide +kernel) (fun _ _ _ h => h) (Or.inl ⟨by rfl, ?_⟩) (by assumption) ?_
          rotate_left
          · (intro w hSw; (try dsimp only at hSw); (try go_simp); (try (with_reducible rfl)))
          (try simp only [Act.put, List.setIfInBounds_toArray, List.set_cons_zero, List.set_cons_succ])
          refine wpAnyH_tk (i := 7) (v := undef) rfl (by kernel_rfl) (by decide +kernel) (by decide +kernel) (fun _ _ _ h => h) (Or.inr ⟨by rfl, rfl⟩) (by assumption) ?_
          (try simp only [Act.put, List.setIfInBounds_toArray, List.set_cons_zero, List.set_cons_succ])
          refine wpAnyH_tk (i := 8) (v := undef) rfl (by kernel_rfl) (by decide +kernel) (by decide +kernel) (fun _ _ _ h => h) (Or.inr ⟨by rfl, rfl⟩) (by assumption) ?_
          (try simp only [Act.put, List.setIfInBounds_toArray, List.set_cons_zero, List.set_cons_succ])
          refine wpAnyH_tk (i := 9) (v := undef) rfl (by kernel_rfl) (by decide +kernel) (by decide +kernel) (fun _ _ _ h => h) (Or.inr ⟨by rfl, rfl⟩) (by assumption) ?_
          (try simp only [Act.put, List.setIfInBounds_toArray, List.set_cons_zero, List.set_cons_succ])
          refine' wpAnyH_tk (i := 10) (v := _) rfl (by kernel_rfl) (by decide +kernel) (by decide +kernel) (fun _ _ _ h => h) (Or.inl ⟨by rfl, ?_⟩) (by assumption) ?_
          rotate_left
          · (intro w hSw; (try dsimp only at hSw); (try go_simp); (try (with_reducible rfl)))
          (try simp only [Act.put, List.setIfInBounds_toArray, List.set_cons_zero, List.set_cons_succ])
          refine' wpAnyH_tk (i := 11) (v := _) rfl (by kernel_rfl) (by decide +kernel) (by decide +kernel) (fun _ _ _ h => h) (Or.inl ⟨by rfl, ?_⟩) (by assumption) ?_
          rotate_left
          · (intro w hSw; (try dsimp only at hSw); (try go_simp); (try (with_reducible rfl)))
          (try simp only [Act.put, List.setIfInBounds_toArray, List.set_cons_zero, List.set_cons_succ])
          refine' wpAnyH_tk (i := 12) (v := _) rfl (by kernel_rfl) (by decide +kernel) (by decide +kernel) (fun _ _ _ h => h) (Or.inl ⟨by rfl, ?_⟩) (by assumption) ?_
          rotate_left
          · (intro w hSw; (try dsimp only at hSw); (try go_simp); (try (with_reducible rfl)))
          (try simp only [Act.put, List.setIfInBounds_toArray, List.set_cons_zero, List.set_cons_succ])
          refine' wpAnyH_tk (i := 13) (v := _) rfl (by kernel_rfl) (by decide +kernel) (by decide +kernel) (fun _ _ _ h => h) (Or.inl ⟨by rfl, ?_⟩) (by assumption) ?_
          rotate_left
          · (intro w hSw; (try dsimp only at hSw); (try go_simp); (try (with_reducible rfl)))
          (try simp only [Act.put, List.setIfInBounds_toArray, List.set_cons_zero, List.set_cons_succ])
          refine' wpAnyH_tk (i := 14) (v := _) rfl (by kernel_rfl) (by decide +kernel) (by decide +kernel) (fun _ _ _ h => h) (Or.inl ⟨by rfl, ?_⟩) (by assumption) ?_
          rotate_left
          · (intro w hSw; (try dsimp only at hSw); (try go_simp); (try (with_reducible rfl)))
          (try simp only [Act.put, List.setIfInBounds_toArray, List.set_cons_zero, List.set_cons_succ])
          refine' wpAnyH_tk (i := 16) (v := _) rfl (by kernel_rfl) (by decide +kernel) (by decide +kernel) (fun _ _ _ h => h) (Or.inl ⟨by rfl, ?_⟩) (by assumption) ?_
          rotate_left
          · (intro w hSw; (try dsimp only at hSw); (try go_simp); (try (with_reducible rfl)))
          (try simp only [Act.put, List.setIfInBounds_toArray, List.set_cons_zero, List.set_cons_succ])
          refine' wpAnyH_tk (i := 17) (v := _) rfl (by kernel_rfl) (by decide +kernel) (by decide +kernel) (fun _ _ _ h => h) (Or.inl ⟨by rfl, ?_⟩) (by assumption) ?_
          rotate_left
          · (intro w hSw; (try dsimp only at hSw); (try go_simp); (try (with_reducible rfl)))
          (try simp only [Act.put, List.setIfInBounds_toArray, List.set_cons_zero, List.set_cons_succ])
          refine wpAnyH_ready (rs := [15]) (by decide +kernel) (by simp) ?_
          refine AllReadyH_one rfl (fun K hK => ?_)
          go_simp
          go_at_call_of 15 (Value.agg #[Value.int IntKind.i64 uk, Value.string unm, Value.slice uAn unn ucn, Value.slice uAk unk uck])
          (with_reducible refine (HF1.out _ KC.out).mono ?_)
          rintro e w5 ⟨rfl, hk⟩
          have KN := Lib.hid (KC.out.trans hk (fun _ _ x => x))
          clear KC hk
          have KC := KN
          clear KN
          refine hK.out _ _ ?_ (fun hHeld => ?_)
          · exact HC.out _ KC.out
          clear hK K
          (try simp only [Act.put, List.setIfInBounds_toArray, List.set_cons_zero, List.set_cons_succ])
          refine wpAnyH_ready (rs := [18]) (by decide +kernel) (by simp) ?_
          refine AllReadyH_one rfl (fun K hK => ?_)
          go_simp
          go_at_call_of 15 (Value.agg #[Value.int IntKind.i64 ck, Value.string cnm, Value.slice cAn cnn ccn, Value.slice cAk cnk cck])
          (with_reducible refine (HF2.out _ KC.out).mono ?_)
          rintro e w5 ⟨rfl, hk⟩
          have KN := Lib.hid (KC.out.trans hk (fun _ _ x => x))
          clear KC hk
          have KC := KN
          clear KN
          refine hK.out _ _ ?_ (fun hHeld => ?_)
          · exact HC.out _ KC.out
          clear hK K
          (try simp only [Act.put, List.setIfInBounds_toArray, List.set_cons_zero, List.set_cons_succ])
          refine' wpAnyH_tk (i := 19) (v := _) rfl (by kernel_rfl) (by decide +kernel) (by decide +kernel) (fun _ _ _ h => h) (Or.inl ⟨by rfl, ?_⟩) (by assumption) ?_
          rotate_left
          · (intro w hSw; (try dsimp only at hSw); (try go_simp); (try (with_reducible rfl)))
          (try simp only [Act.put, List.setIfInBounds_toArray, List.set_cons_zero, List.set_cons_succ])
          refine' wpAnyH_tk (i := 20) (v := _) rfl (by kernel_rfl) (by decide +kernel) (by decide +kernel) (fun _ _ _ h => h) (Or.inl ⟨by rfl, ?_⟩) (by assumption) ?_
          rotate_left
          · (intro w hSw; (try dsimp only at hSw); (try go_simp); (try (with_reducible rfl)))
          (try simp only [Act.put, List.setIfInBounds_toArray, List.set_cons_zero, List.set_cons_succ])
          refine' wpAnyH_tk (i := 21) (v := _) rfl (by kernel_rfl) (by decide +kernel) (by decide +kernel) (fun _ _ _ h => h) (Or.inl ⟨by rfl, ?_⟩) (by assumption) ?_
          rotate_left
          · (intro w hSw; (try dsimp only at hSw); (try go_simp); (try (with_reducible rfl)))
          (try simp only [Act.put, List.setIfInBounds_toArray, List.set_cons_zero, List.set_cons_succ])
          refine wpAnyH_ready (rs := [22]) (by decide +kernel) (by simp) ?_
          refine AllReadyH_one rfl (fun K hK => ?_)
          go_simp
          go_at_call_of 15 (Value.agg #[Value.int IntKind.i64 bk, Value.string bnm, Value.slice bAn bnn bcn, Value.slice bAk bnk bck])
          (with_reducible refine (HF3.out _ KC.out).mono ?_)
          rintro e w5 ⟨rfl, hk⟩
          have KN := Lib.hid (KC.out.trans hk (fun _ _ x => x))
          clear KC hk
          have KC := KN
          clear KN
          refine hK.out _ _ ?_ (fun hHeld => ?_)
          · exact HC.out _ KC.out
          clear hK K
          (try simp only [Act.put, List.setIfInBounds_toArray, List.set_cons_zero, List.set_cons_succ])
          refine' wpAnyH_tk (i := 23) (v := _) rfl (by kernel_rfl) (by decide +kernel) (by decide +kernel) (fun _ _ _ h => h) (Or.inl ⟨by rfl, ?_⟩) (by assumption) ?_
          rotate_left
          · (intro w hSw; (try dsimp only at hSw); (try go_simp); (try (with_reducible rfl)))
          (try simp only [Act.put, List.setIfInBounds_toArray, List.set_cons_zero, List.set_cons_succ])
          refine' wpAnyH_tk (i := 24) (v := _) rfl (by kernel_rfl) (by decide +kernel) (by decide +kernel) (fun _ _ _ h => h) (Or.inl ⟨by rfl, ?_⟩) (by assumption) ?_
          rotate_left
          · (intro w hSw; (try dsimp only at hSw); (try go_simp); (try (with_reducible rfl)))
          (try simp only [Act.put, List.setIfInBounds_toArray, List.set_cons_zero, List.set_cons_succ])
          refine' wpAnyH_tk (i := 25) (v := _) rfl (by kernel_rfl) (by decide +kernel) (by decide +kernel) (fun _ _ _ h => h) (Or.inl ⟨by rfl, ?_⟩) (by assumption) ?_
          rotate_left
          · (intro w hSw; (try dsimp only at hSw); (try go_simp); (try (with_reducible rfl)))
          (try simp only [Act.put, List.setIfInBounds_toArray, List.set_cons_zero, List.set_cons_succ])
          refine' wpAnyH_tk (i := 26) (v := _) rfl (by kernel_rfl) (by decide +kernel) (by decide +kernel) (fun _ _ _ h => h) (Or.inl ⟨by rfl, ?_⟩) (by assumption) ?_
          rotate_left
          · (intro w hSw; (try dsimp only at hSw); (try go_simp); (try (with_reducible rfl)))
          (try simp only [Act.put, List.setIfInBounds_toArray, List.set_cons_zero, List.set_cons_succ])
          refine wpAnyH_done (by decide +kernel) ?_ _
          go_wp2_with fail
          go_ret
          exact ⟨rfl, (H.out.1.trans K3.out (fun _ _ x => x)).trans KC.out (fun _ _ x => x)⟩)
    · rw [hs2] at HS2 HS1
      clear hs2
      cases hs3 : subT tb td
      all_goals rw [hs3] at HS3 HS1
      all_goals clear hs3
      iterate 2
        · skip
          cases hf2 : fitsT tc ta
          · rw [hf2] at HF2 HF1
            clear hf2
            · skip
              refine wp_region_held_n (S := fun w' => (bx < w'.heap.size ∧ w'.cell? ⟨bx, 0, none⟩ = some (.int .i64 ak) ∧ w'.cell? ⟨bx, 1, none⟩ = some (.string anm) ∧ w'.cell? ⟨bx, 2, none⟩ = some (.slice aAn ann acn) ∧ w'.cell? ⟨bx, 3, none⟩ = some (.slice aAk ank ack)) ∧ (b1_ < w'.heap.size ∧ w'.cell? ⟨b1_, 0, none⟩ = some (.int .i64 bk) ∧ w'.cell? ⟨b1_, 1, none⟩ = some (.string bnm) ∧ w'.cell? ⟨b1_, 2, none⟩ = some (.slice bAn bnn bcn) ∧ w'.cell? ⟨b1_, 3, none⟩ = some (.slice bAk bnk bck)) ∧ (b2_ < w'.heap.size ∧ w'.cell? ⟨b2_, 0, none⟩ = some (.int .i64 ck) ∧ w'.cell? ⟨b2_, 1, none⟩ = some (.string cnm) ∧ w'.cell? ⟨b2_, 2, none⟩ = some (.slice cAn cnn ccn) ∧ w'.cell? ⟨b2_, 3, none⟩ = some (.slice cAk cnk cck)) ∧ (b3_ < w'.heap.size ∧ w'.cell? ⟨b3_, 0, none⟩ = some (.int .i64 dk) ∧ w'.cell? ⟨b3_, 1, none⟩ = some (.string dnm) ∧ w'.cell? ⟨b3_, 2, none⟩ = some (.slice dAn dnn dcn) ∧ w'.cell? ⟨b3_, 3, none⟩ = some (.slice dAk dnk dck)) ∧ (ux < w'.heap.size ∧ w'.cell? ⟨ux, 0, none⟩ = some (.int .i64 uk) ∧ w'.cell? ⟨ux, 1, none⟩ = some (.string unm) ∧ w'.cell? ⟨ux, 2, none⟩ = some (.slice uAn unn ucn) ∧ w'.cell? ⟨ux, 3, none⟩ = some (.slice uAk unk uck)) ∧ (vx < w'.heap.size ∧ w'.cell? ⟨vx, 0, none⟩ = some (.int .i64 vk) ∧ w'.cell? ⟨vx, 1, none⟩ = some (.string vnm) ∧ w'.cell? ⟨vx, 2, none⟩ = some (.slice vAn vnn vcn) ∧ w'.cell? ⟨vx, 3, none⟩ = some (.slice vAk vnk vck))) 27 rfl (by kernel_rfl) ?_ (fun hHeld => ?_)
              · exact HC.out _ KC.out
              refine' wpAnyH_tk (i := 0) (v := _) rfl (by kernel_rfl) (by decide +kernel) (by decide +kernel) (fun _ _ _ h => h) (Or.inl ⟨by rfl, ?_⟩) (by assumption) ?_
              rotate_left
              · (intro w hSw; (try dsimp only at hSw); (try go_simp); (try (with_reducible rfl)))
              (try simp only [Act.put, List.setIfInBounds_toArray, List.set_cons_zero, List.set_cons_succ])
              refine' wpAnyH_tk (i := 1) (v := _) rfl (by kernel_rfl) (by decide +kernel) (by decide +kernel) (fun _ _ _ h => h) (Or.inl ⟨by rfl, ?_⟩) (by assumption) ?_
              rotate_left
              · (intro w hSw; (try dsimp only at hSw); (try go_simp); (try (with_reducible rfl)))
              (try simp only [Act.put, List.setIfInBounds_toArray, List.set_cons_zero, List.set_cons_succ])
              refine' wpAnyH_tk (i := 3) (v := _) rfl (by kernel_rfl) (by decide +kernel) (by decide +kernel) (fun _ _ _ h => h) (Or.inl ⟨by rfl, ?_⟩) (by assumption) ?_
              rotate_left
              · (intro w hSw; (try dsimp only at hSw); (try go_simp); (try (with_reducible rfl)))
              (try simp only [Act.put, List.setIfInBounds_toArray, List.set_cons_zero, List.set_cons_succ])
              refine' wpAnyH_tk (i := 4) (v := _) rfl (by kernel_rfl) (by decide +kernel) (by decide +kernel) (fun _ _ _ h => h) (Or.inl ⟨by rfl, ?_⟩) (by assumption) ?_
              rotate_left
              · (intro w hSw; (try dsimp only at hSw); (try go_simp); (try (with_reducible rfl)))
              (try simp only [Act.put, List.setIfInBounds_toArray, List.set_cons_zero, List.set_cons_succ])
              refine wpAnyH_ready (rs := [2]) (by decide +kernel) (by simp) ?_
              refine AllReadyH_one rfl (fun K hK => ?_)
              go_simp
              go_at_call_of 16 (Value.agg #[Value.int IntKind.i64 uk, Value.string unm, Value.slice uAn unn ucn, Value.slice uAk unk uck])
              (with_reducible refine (HS1.out _ KC.out).mono ?_)
              rintro e w5 ⟨rfl, hk⟩
              have KN := Lib.hid (KC.out.trans hk (fun _ _ x => x))
              clear KC hk
              have KC := KN
              clear KN
              refine hK.out _ _ ?_ (fun hHeld => ?_)
              · exact HC.out _ KC.out
              clear hK K
              (try simp only [Act.put, List.setIfInBounds_toArray, List.set_cons_zero, List.set_cons_succ])
              refine wpAnyH_ready (rs := [5]) (by decide +kernel) (by simp) ?_
              refine AllReadyH_one rfl (fun K hK => ?_)
              go_simp
              go_at_call_of 16 (Value.agg #[Value.int IntKind.i64 ck, Value.string cnm, Value.slice cAn cnn ccn, Value.slice cAk cnk cck])
              (with_reducible refine (HS2.out _ KC.out).mono ?_)
              rintro e w5 ⟨rfl, hk⟩
              have KN := Lib.hid (KC.out.trans hk (fun _ _ x => x))
              clear KC hk
              have KC := KN
              clear KN
              refine hK.out _ _ ?_ (fun hHeld => ?_)
              · exact HC.out _ KC.out
              clear hK K
              (try simp only [Act.put, List.setIfInBounds_toArray, List.set_cons_zero, List.set_cons_succ])
              refine' wpAnyH_tk (i := 6) (v := _) rfl (by kernel_rfl) (by decide +kernel) (by decide +kernel) (fun _ _ _ h => h) (Or.inl ⟨by rfl, ?_⟩) (by assumption) ?_
              rotate_left
              · (intro w hSw; (try dsimp only at hSw); (try go_simp); (try (with_reducible rfl)))
              (try simp only [Act.put, List.setIfInBounds_toArray, List.set_cons_zero, List.set_cons_succ])
              refine' wpAnyH_tk (i := 7) (v := _) rfl (by kernel_rfl) (by decide +kernel) (by decide +kernel) (fun _ _ _ h => h) (Or.inl ⟨by rfl, ?_⟩) (by assumption) ?_
              rotate_left
              · (intro w hSw; (try dsimp only at hSw); (try go_simp); (try (with_reducible rfl)))
              (try simp only [Act.put, List.setIfInBounds_toArray, List.set_cons_zero, List.set_cons_succ])
              refine' wpAnyH_tk (i := 8) (v := _) rfl (by kernel_rfl) (by decide +kernel) (by decide +kernel) (fun _ _ _ h => h) (Or.inl ⟨by rfl, ?_⟩) (by assumption) ?_
              rotate_left
              · (intro w hSw; (try dsimp only at hSw); (try go_simp); (try (with_reducible rfl)))
              (try simp only [Act.put, List.setIfInBounds_toArray, List.set_cons_zero, List.set_cons_succ])
              refine wpAnyH_ready (rs := [9]) (by decide +kernel) (by simp) ?_
              refine AllReadyH_one rfl (fun K hK => ?_)
              go_simp
              go_at_call_of 16 (Value.agg #[Value.int IntKind.i64 bk, Value.string bnm, Value.slice bAn bnn bcn, Value.slice bAk bnk bck])
              (with_reducible refine (HS3.out _ KC.out).mono ?_)
              rintro e w5 ⟨rfl, hk⟩
              have KN := Lib.hid (KC.out.trans hk (fun _ _ x => x))
              clear KC hk
              have KC := KN
              clear KN
              refine hK.out _ _ ?_ (fun hHeld => ?_)
              · exact HC.out _ KC.out
              clear hK K
              (try simp only [Act.put, List.setIfInBounds_toArray, List.set_cons_zero, List.set_cons_succ])
              refine' wpAnyH_tk (i := 10) (v := _) rfl (by kernel_rfl) (by decide +kernel) (by decide +kernel) (fun _ _ _ h => h) (Or.inl ⟨by rfl, ?_⟩) (by assumption) ?_
              rotate_left
              · (intro w hSw; (try dsimp only at hSw); (try go_simp); (try (with_reducible rfl)))
              (try simp only [Act.put, List.setIfInBounds_toArray, List.set_cons_zero, List.set_cons_succ])
              refine' wpAnyH_tk (i := 11) (v := _) rfl (by kernel_rfl) (by decide +kernel) (by decide +kernel) (fun _ _ _ h => h) (Or.inl ⟨by rfl, ?_⟩) (by assumption) ?_
              rotate_left
              · (intro w hSw; (try dsimp only at hSw); (try go_simp); (try (with_reducible rfl)))
              (try simp only [Act.put, List.setIfInBounds_toArray, List.set_cons_zero, List.set_cons_succ])
              refine' wpAnyH_tk (i := 12) (v := _) rfl (by kernel_rfl) (by decide +kernel) (by decide +kernel) (fun _ _ _ h => h) (Or.inl ⟨by rfl, ?_⟩) (by assumption) ?_
              rotate_left
              · (intro w hSw; (try dsimp only at hSw); (try go_simp); (try (with_reducible rfl)))
              (try simp only [Act.put, List.setIfInBounds_toArray, List.set_cons_zero, List.set_cons_succ])
              refine' wpAnyH_tk (i := 13) (v := _) rfl (by kernel_rfl) (by decide +kernel) (by decide +kernel) (fun _ _ _ h => h) (Or.inl ⟨by rfl, ?_⟩) (by assumption) ?_
              rotate_left
              · (intro w hSw; (try dsimp only at hSw); (try go_simp); (try (with_reducible rfl)))
              (try simp only [Act.put, List.setIfInBounds_toArray, List.set_cons_zero, List.set_cons_succ])
              refine' wpAnyH_tk (i := 14) (v := _) rfl (by kernel_rfl) (by decide +kernel) (by decide +kernel) (fun _ _ _ h => h) (Or.inl ⟨by rfl, ?_⟩) (by assumption) ?_
              rotate_left
              · (intro w hSw; (try dsimp only at hSw); (try go_simp); (try (with_reducible rfl)))
              (try simp only [Act.put, List.setIfInBounds_toArray, List.set_cons_zero, List.set_cons_succ])
              refine' wpAnyH_tk (i := 16) (v := _) rfl (by kernel_rfl) (by decide +kernel) (by decide +kernel) (fun _ _ _ h => h) (Or.inl ⟨by rfl, ?_⟩) (by assumption) ?_
              rotate_left
              · (intro w hSw; (try dsimp only at hSw); (try go_simp); (try (with_reducible rfl)))
              (try simp only [Act.put, List.setIfInBounds_toArray, List.set_cons_zero, List.set_cons_succ])
              refine' wpAnyH_tk (i := 17) (v := _) rfl (by kernel_rfl) (by decide +kernel) (by decide +kernel) (fun _ _ _ h => h) (Or.inl ⟨by rfl, ?_⟩) (by assumption) ?_
              rotate_left
              · (intro w hSw; (try dsimp only at hSw); (try go_simp); (try (with_reducible rfl)))
              (try simp only [Act.put, List.setIfInBounds_toArray, List.set_cons_zero, List.set_cons_succ])
              refine wpAnyH_ready (rs := [15]) (by decide +kernel) (by simp) ?_
              refine AllReadyH_one rfl (fun K hK => ?_)
              go_simp
              go_at_call_of 15 (Value.agg #[Value.int IntKind.i64 uk, Value.string unm, Value.slice uAn unn ucn, Value.slice uAk unk uck])
              (with_reducible refine (HF1.out _ KC.out).mono ?_)
              rintro e w5 ⟨rfl, hk⟩
              have KN := Lib.hid (KC.out.trans hk (fun _ _ x => x))
              clear KC hk
              have KC := KN
              clear KN
              refine hK.out _ _ ?_ (fun hHeld => ?_)
              · exact HC.out _ KC.out
              clear hK K
              (try simp only [Act.put, List.setIfInBounds_toArray, List.set_cons_zero, List.set_cons_succ])
              refine wpAnyH_ready (rs := [18]) (by decide +kernel) (by simp) ?_
              refine AllReadyH_one rfl (fun K hK => ?_)
              go_simp
              go_at_call_of 15 (Value.agg #[Value.int IntKind.i64 ck, Value.string cnm, Value.slice cAn cnn ccn, Value.slice cAk cnk cck])
              (with_reducible refine (HF2.out _ KC.out).mono ?_)
              rintro e w5 ⟨rfl, hk⟩
              have KN := Lib.hid (KC.out.trans hk (fun _ _ x => x))
              clear KC hk
              have KC := KN
              clear KN
              refine hK.out _ _ ?_ (fun hHeld => ?_)
              · exact HC.out _ KC.out
              clear hK K
              (try simp only [Act.put, List.setIfInBounds_toArray, List.set_cons_zero, List.set_cons_succ])
              refine' wpAnyH_tk (i := 19) (v := _) rfl (by kernel_rfl) (by decide +kernel) (by decide +kernel) (fun _ _ _ h => h) (Or.inl ⟨by rfl, ?_⟩) (by assumption) ?_
              rotate_left
              · (intro w hSw; (try dsimp only at hSw); (try go_simp); (try (with_reducible rfl)))
              (try simp only [Act.put, List.setIfInBounds_toArray, List.set_cons_zero, List.set_cons_succ])
              refine wpAnyH_tk (i := 20) (v := undef) rfl (by kernel_rfl) (by decide +kernel) (by decide +kernel) (fun _ _ _ h => h) (Or.inr ⟨by rfl, rfl⟩) (by assumption) ?_
              (try simp only [Act.put, List.setIfInBounds_toArray, List.set_cons_zero, List.set_cons_succ])
              refine wpAnyH_tk (i := 21) (v := undef) rfl (by kernel_rfl) (by decide +kernel) (by decide +kernel) (fun _ _ _ h => h) (Or.inr ⟨by rfl, rfl⟩) (by assumption) ?_
              (try simp only [Act.put, List.setIfInBounds_toArray, List.set_cons_zero, List.set_cons_succ])
              refine wpAnyH_tk (i := 22) (v := undef) rfl (by kernel_rfl) (by decide +kernel) (by decide +kernel) (fun _ _ _ h => h) (Or.inr ⟨by rfl, rfl⟩) (by assumption) ?_
              (try simp only [Act.put, List.setIfInBounds_toArray, List.set_cons_zero, List.set_cons_succ])
              refine' wpAnyH_tk (i := 23) (v := _) rfl (by kernel_rfl) (by decide +kernel) (by decide +kernel) (fun _ _ _ h => h) (Or.inl ⟨by rfl, ?_⟩) (by assumption) ?_
              rotate_left
              · (intro w hSw; (try dsimp only at hSw); (try go_simp); (try (with_reducible rfl)))
              (try simp only [Act.put, List.setIfInBounds_toArray, List.set_cons_zero, List.set_cons_succ])
              refine' wpAnyH_tk (i := 24) (v := _) rfl (by kernel_rfl) (by decide +kernel) (by decide +kernel) (fun _ _ _ h => h) (Or.inl ⟨by rfl, ?_⟩) (by assumption) ?_
              rotate_left
              · (intro w hSw; (try dsimp only at hSw); (try go_simp); (try (with_reducible rfl)))
              (try simp only [Act.put, List.setIfInBounds_toArray, List.set_cons_zero, List.set_cons_succ])
              refine' wpAnyH_tk (i := 25) (v := _) rfl (by kernel_rfl) (by decide +kernel) (by decide +kernel) (fun _ _ _ h => h) (Or.inl ⟨by rfl, ?_⟩) (by assumption) ?_
              rotate_left
              · (intro w hSw; (try dsimp only at hSw); (try go_simp); (try (with_reducible rfl)))
              (try simp only [Act.put, List.setIfInBounds_toArray, List.set_cons_zero, List.set_cons_succ])
              refine' wpAnyH_tk (i := 26) (v := _) rfl (by kernel_rfl) (by decide +kernel) (by decide +kernel) (fun _ _ _ h => h) (Or.inl ⟨by rfl, ?_⟩) (by assumption) ?_
              rotate_left
              · (intro w hSw; (try dsimp only at hSw); (try go_simp); (try (with_reducible rfl)))
              (try simp only [Act.put, List.setIfInBounds_toArray, List.set_cons_zero, List.set_cons_succ])
              refine wpAnyH_done (by decide +kernel) ?_ _
              go_wp2_with fail
              go_ret
              exact ⟨rfl, (H.out.1.trans K3.out (fun _ _ x => x)).trans KC.out (fun _ _ x => x)⟩
          · rw [hf2] at HF2 HF1
            clear hf2
            cases hf3 : fitsT tb td
            all_goals rw [hf3] at HF3 HF1
            all_goals clear hf3
            all_goals (
              refine wp_region_held_n (S := fun w' => (bx < w'.heap.size ∧ w'.cell? ⟨bx, 0, none⟩ = some (.int .i64 ak) ∧ w'.cell? ⟨bx, 1, none⟩ = some (.string anm) ∧ w'.cell? ⟨bx, 2, none⟩ = some (.slice aAn ann acn) ∧ w'.cell? ⟨bx, 3, none⟩ = some (.slice aAk ank ack)) ∧ (b1_ < w'.heap.size ∧ w'.cell? ⟨b1_, 0, none⟩ = some (.int .i64 bk) ∧ w'.cell? ⟨b1_, 1, none⟩ = some (.string bnm) ∧ w'.cell? ⟨b1_, 2, none⟩ = some (.slice bAn bnn bcn) ∧ w'.cell? ⟨b1_, 3, none⟩ = some (.slice bAk bnk bck)) ∧ (b2_ < w'.heap.size ∧ w'.cell? ⟨b2_, 0, none⟩ = some (.int .i64 ck) ∧ w'.cell? ⟨b2_, 1, none⟩ = some (.string cnm) ∧ w'.cell? ⟨b2_, 2, none⟩ = some (.slice cAn cnn ccn) ∧ w'.cell? ⟨b2_, 3, none⟩ = some (.slice cAk cnk cck)) ∧ (b3_ < w'.heap.size ∧ w'.cell? ⟨b3_, 0, none⟩ = some (.int .i64 dk) ∧ w'.cell? ⟨b3_, 1, none⟩ = some (.string dnm) ∧ w'.cell? ⟨b3_, 2, none⟩ = some (.slice dAn dnn dcn) ∧ w'.cell? ⟨b3_, 3, none⟩ = some (.slice dAk dnk dck)) ∧ (ux < w'.heap.size ∧ w'.cell? ⟨ux, 0, none⟩ = some (.int .i64 uk) ∧ w'.cell? ⟨ux, 1, none⟩ = some (.string unm) ∧ w'.cell? ⟨ux, 2, none⟩ = some (.slice uAn unn ucn) ∧ w'.cell? ⟨ux, 3, none⟩ = some (.slice uAk unk uck)) ∧ (vx < w'.heap.size ∧ w'.cell? ⟨vx, 0, none⟩ = some (.int .i64 vk) ∧ w'.cell? ⟨vx, 1, none⟩ = some (.string vnm) ∧ w'.cell? ⟨vx, 2, none⟩ = some (.slice vAn vnn vcn) ∧ w'.cell? ⟨vx, 3, none⟩ = some (.slice vAk vnk vck))) 27 rfl (by kernel_rfl) ?_ (fun hHeld => ?_)
              · exact HC.out _ KC.out
              refine' wpAnyH_tk (i := 0) (v := _) rfl (by kernel_rfl) (by decide +kernel) (by decide +kernel) (fun _ _ _ h => h) (Or.inl ⟨by rfl, ?_⟩) (by assumption) ?_
              rotate_left
              · (intro w hSw; (try dsimp only at hSw); (try go_simp); (try (with_reducible rfl)))
              (try simp only [Act.put, List.setIfInBounds_toArray, List.set_cons_zero, List.set_cons_succ])
              refine' wpAnyH_tk (i := 1) (v := _) rfl (by kernel_rfl) (by decide +kernel) (by decide +kernel) (fun _ _ _ h => h) (Or.inl ⟨by rfl, ?_⟩) (by assumption) ?_
              rotate_left
              · (intro w hSw; (try dsimp only at hSw); (try go_simp); (try (with_reducible rfl)))
              (try simp only [Act.put, List.setIfInBounds_toArray, List.set_cons_zero, List.set_cons_succ])
              refine' wpAnyH_tk (i := 3) (v := _) rfl (by kernel_rfl) (by decide +kernel) (by decide +kernel) (fun _ _ _ h => h) (Or.inl ⟨by rfl, ?_⟩) (by assumption) ?_
              rotate_left
              · (intro w hSw; (try dsimp only at hSw); (try go_simp); (try (with_reducible rfl)))
              (try simp only [Act.put, List.setIfInBounds_toArray, List.set_cons_zero, List.set_cons_succ])
              refine' wpAnyH_tk (i := 4) (v := _) rfl (by kernel_rfl) (by decide +kernel) (by decide +kernel) (fun _ _ _ h => h) (Or.inl ⟨by rfl, ?_⟩) (by assumption) ?_
              rotate_left
              · (intro w hSw; (try dsimp only at hSw); (try go_simp); (try (with_reducible rfl)))
              (try simp only [Act.put, List.setIfInBounds_toArray, List.set_cons_zero, List.set_cons_succ])
              refine wpAnyH_ready (rs := [2]) (by decide +kernel) (by simp) ?_
              refine AllReadyH_one rfl (fun K hK => ?_)
              go_simp
              go_at_call_of 16 (Value.agg #[Value.int IntKind.i64 uk, Value.string unm, Value.slice uAn unn ucn, Value.slice uAk unk uck])
              (with_reducible refine (HS1.out _ KC.out).mono ?_)
              rintro e w5 ⟨rfl, hk⟩
              have KN := Lib.hid (KC.out.trans hk (fun _ _ x => x))
              clear KC hk
              have KC := KN
              clear KN
              refine hK.out _ _ ?_ (fun hHeld => ?_)
              · exact HC.out _ KC.out
              clear hK K
              (try simp only [Act.put, List.setIfInBounds_toArray, List.set_cons_zero, List.set_cons_succ])
              refine wpAnyH_ready (rs := [5]) (by decide +kernel) (by simp) ?_
              refine AllReadyH_one rfl (fun K hK => ?_)
              go_simp
              go_at_call_of 16 (Value.agg #[Value.int IntKind.i64 ck, Value.string cnm, Value.slice cAn cnn ccn, Value.slice cAk cnk cck])
              (with_reducible refine (HS2.out _ KC.out).mono ?_)
              rintro e w5 ⟨rfl, hk⟩
              have KN := Lib.hid (KC.out.trans hk (fun _ _ x => x))
              clear KC hk
              have KC := KN
              clear KN
              refine hK.out _ _ ?_ (fun hHeld => ?_)
              · exact HC.out _ KC.out
              clear hK K
              (try simp only [Act.put, List.setIfInBounds_toArray, List.set_cons_zero, List.set_cons_succ])
              refine' wpAnyH_tk (i := 6) (v := _) rfl (by kernel_rfl) (by decide +kernel) (by decide +kernel) (fun _ _ _ h => h) (Or.inl ⟨by rfl, ?_⟩) (by assumption) ?_
              rotate_left
              · (intro w hSw; (try dsimp only at hSw); (try go_simp); (try (with_reducible rfl)))
              (try simp only [Act.put, List.setIfInBounds_toArray, List.set_cons_zero, List.set_cons_succ])
              refine' wpAnyH_tk (i := 7) (v := _) rfl (by kernel_rfl) (by decide +kernel) (by decide +kernel) (fun _ _ _ h => h) (Or.inl ⟨by rfl, ?_⟩) (by assumption) ?_
              rotate_left
              · (intro w hSw; (try dsimp only at hSw); (try go_simp); (try (with_reducible rfl)))
              (try simp only [Act.put, List.setIfInBounds_toArray, List.set_cons_zero, List.set_cons_succ])
              refine' wpAnyH_tk (i := 8) (v := _) rfl (by kernel_rfl) (by decide +kernel) (by decide +kernel) (fun _ _ _ h => h) (Or.inl ⟨by rfl, ?_⟩) (by assumption) ?_
              rotate_left
              · (intro w hSw; (try dsimp only at hSw); (try go_simp); (try (with_reducible rfl)))
              (try simp only [Act.put, List.setIfInBounds_toArray, List.set_cons_zero, List.set_cons_succ])
              refine wpAnyH_ready (rs := [9]) (by decide +kernel) (by simp) ?_
              refine AllReadyH_one rfl (fun K hK => ?_)
              go_simp
              go_at_call_of 16 (Value.agg #[Value.int IntKind.i64 bk, Value.string bnm, Value.slice bAn bnn bcn, Value.slice bAk bnk bck])
              (with_reducible refine (HS3.out _ KC.out).mono ?_)
              rintro e w5 ⟨rfl, hk⟩
              have KN := Lib.hid (KC.out.trans hk (fun _ _ x => x))
              clear KC hk
              have KC := KN
              clear KN
              refine hK.out _ _ ?_ (fun hHeld => ?_)
              · exact HC.out _ KC.out
              clear hK K
              (try simp only [Act.put, List.setIfInBounds_toArray, List.set_cons_zero, List.set_cons_succ])
              refine' wpAnyH_tk (i := 10) (v := _) rfl (by kernel_rfl) (by decide +kernel) (by decide +kernel) (fun _ _ _ h => h) (Or.inl ⟨by rfl, ?_⟩) (by assumption) ?_
              rotate_left
              · (intro w hSw; (try dsimp only at hSw); (try go_simp); (try (with_reducible rfl)))
              (try simp only [Act.put, List.setIfInBounds_toArray, List.set_cons_zero, List.set_cons_succ])
              refine' wpAnyH_tk (i := 11) (v := _) rfl (by kernel_rfl) (by decide +kernel) (by decide +kernel) (fun _ _ _ h => h) (Or.inl ⟨by rfl, ?_⟩) (by assumption) ?_
              rotate_left
              · (intro w hSw; (try dsimp only at hSw); (try go_simp); (try (with_reducible rfl)))
              (try simp only [Act.put, List.setIfInBounds_toArray, List.set_cons_zero, List.set_cons_succ])
              refine' wpAnyH_tk (i := 12) (v := _) rfl (by kernel_rfl) (by decide +kernel) (by decide +kernel) (fun _ _ _ h => h) (Or.inl ⟨by rfl, ?_⟩) (by assumption) ?_
              rotate_left
              · (intro w hSw; (try dsimp only at hSw); (try go_simp); (try (with_reducible rfl)))
              (try simp only [Act.put, List.setIfInBounds_toArray, List.set_cons_zero, List.set_cons_succ])
              refine' wpAnyH_tk (i := 13) (v := _) rfl (by kernel_rfl) (by decide +kernel) (by decide +kernel) (fun _ _ _ h => h) (Or.inl ⟨by rfl, ?_⟩) (by assumption) ?_
              rotate_left
              · (intro w hSw; (try dsimp only at hSw); (try go_simp); (try (with_reducible rfl)))
              (try simp only [Act.put, List.setIfInBounds_toArray, List.set_cons_zero, List.set_cons_succ])
              refine' wpAnyH_tk (i := 14) (v := _) rfl (by kernel_rfl) (by decide +kernel) (by decide +kernel) (fun _ _ _ h => h) (Or.inl ⟨by rfl, ?_⟩) (by assumption) ?_
              rotate_left
              · (intro w hSw; (try dsimp only at hSw); (try go_simp); (try (with_reducible rfl)))
              (try simp only [Act.put, List.setIfInBounds_toArray, List.set_cons_zero, List.set_cons_succ])
              refine' wpAnyH_tk (i := 16) (v := _) rfl (by kernel_rfl) (by decide +kernel) (by decide +kernel) (fun _ _ _ h => h) (Or.inl ⟨by rfl, ?_⟩) (by assumption) ?_
              rotate_left
              · (intro w hSw; (try dsimp only at hSw); (try go_simp); (try (with_reducible rfl)))
              (try simp only [Act.put, List.setIfInBounds_toArray, List.set_cons_zero, List.set_cons_succ])
              refine' wpAnyH_tk (i := 17) (v := _) rfl (by kernel_rfl) (by decide +kernel) (by decide +kernel) (fun _ _ _ h => h) (Or.inl ⟨by rfl, ?_⟩) (by assumption) ?_
              rotate_left
              · (intro w hSw; (try dsimp only at hSw); (try go_simp); (try (with_reducible rfl)))
              (try simp only [Act.put, List.setIfInBounds_toArray, List.set_cons_zero, List.set_cons_succ])
              refine wpAnyH_ready (rs := [15]) (by decide +kernel) (by simp) ?_
              refine AllReadyH_one rfl (fun K hK => ?_)
              go_simp
              go_at_call_of 15 (Value.agg #[Value.int IntKind.i64 uk, Value.string unm, Value.slice uAn unn ucn, Value.slice uAk unk uck])
              (with_reducible refine (HF1.out _ KC.out).mono ?_)
              rintro e w5 ⟨rfl, hk⟩
              have KN := Lib.hid (KC.out.trans hk (fun _ _ x => x))
              clear KC hk
              have KC := KN
              clear KN
              refine hK.out _ _ ?_ (fun hHeld => ?_)
              · exact HC.out _ KC.out
              clear hK K
              (try simp only [Act.put, List.setIfInBounds_toArray, List.set_cons_zero, List.set_cons_succ])
              refine wpAnyH_ready (rs := [18]) (by decide +kernel) (by simp) ?_
              refine AllReadyH_one rfl (fun K hK => ?_)
              go_simp
              go_at_call_of 15 (Value.agg #[Value.int IntKind.i64 ck, Value.string cnm, Value.slice cAn cnn ccn, Value.slice cAk cnk cck])
              (with_reducible refine (HF2.out _ KC.out).mono ?_)
              rintro e w5 ⟨rfl, hk⟩
              have KN := Lib.hid (KC.out.trans hk (fun _ _ x => x))
              clear KC hk
              have KC := KN
              clear KN
              refine hK.out _ _ ?_ (fun hHeld => ?_)
              · exact HC.out _ KC.out
              clear hK K
              (try simp only [Act.put, List.setIfInBounds_toArray, List.set_cons_zero, List.set_cons_succ])
              refine' wpAnyH_tk (i := 19) (v := _) rfl (by kernel_rfl) (by decide +kernel) (by decide +kernel) (fun _ _ _ h => h) (Or.inl ⟨by rfl, ?_⟩) (by assumption) ?_
              rotate_left
              · (intro w hSw; (try dsimp only at hSw); (try go_simp); (try (with_reducible rfl)))
              (try simp only [Act.put, List.setIfInBounds_toArray, List.set_cons_zero, List.set_cons_succ])
              refine' wpAnyH_tk (i := 20) (v := _) rfl (by kernel_rfl) (by decide +kernel) (by decide +kernel) (fun _ _ _ h => h) (Or.inl ⟨by rfl, ?_⟩) (by assumption) ?_
              rotate_left
              · (intro w hSw; (try dsimp only at hSw); (try go_simp); (try (with_reducible rfl)))
              (try simp only [Act.put, List.setIfInBounds_toArray, List.set_cons_zero, List.set_cons_succ])
              refine' wpAnyH_tk (i := 21) (v := _) rfl (by kernel_rfl) (by decide +kernel) (by decide +kernel) (fun _ _ _ h => h) (Or.inl ⟨by rfl, ?_⟩) (by assumption) ?_
              rotate_left
              · (intro w hSw; (try dsimp only at hSw); (try go_simp); (try (with_reducible rfl)))
              (try simp only [Act.put, List.setIfInBounds_toArray, List.set_cons_zero, List.set_cons_succ])
              refine wpAnyH_ready (rs := [22]) (by decide +kernel) (by simp) ?_
              refine AllReadyH_one rfl (fun K hK => ?_)
              go_simp
              go_at_call_of 15 (Value.agg #[Value.int IntKind.i64 bk, Value.string bnm, Value.slice bAn bnn bcn, Value.slice bAk bnk bck])
              (with_reducible refine (HF3.out _ KC.out).mono ?_)
              rintro e w5 ⟨rfl, hk⟩
              have KN := Lib.hid (KC.out.trans hk (fun _ _ x => x))
              clear KC hk
              have KC := KN
              clear KN
              refine hK.out _ _ ?_ (fun hHeld => ?_)
              · exact HC.out _ KC.out
              clear hK K
              (try simp only [Act.put, List.setIfInBounds_toArray, List.set_cons_zero, List.set_cons_succ])
              refine' wpAnyH_tk (i := 23) (v := _) rfl (by kernel_rfl) (by decide +kernel) (by decide +kernel) (fun _ _ _ h => h) (Or.inl ⟨by rfl, ?_⟩) (by assumption) ?_
              rotate_left
              · (intro w hSw; (try dsimp only at hSw); (try go_simp); (try (with_reducible rfl)))
              (try simp only [Act.put, List.setIfInBounds_toArray, List.set_cons_zero, List.set_cons_succ])
              refine' wpAnyH_tk (i := 24) (v := _) rfl (by kernel_rfl) (by decide +kernel) (by decide +kernel) (fun _ _ _ h => h) (Or.inl ⟨by rfl, ?_⟩) (by assumption) ?_
              rotate_left
              · (intro w hSw; (try dsimp only at hSw); (try go_simp); (try (with_reducible rfl)))
              (try simp only [Act.put, List.setIfInBounds_toArray, List.set_cons_zero, List.set_cons_succ])
              refine' wpAnyH_tk (i := 25) (v := _) rfl (by kernel_rfl) (by decide +kernel) (by decide +kernel) (fun _ _ _ h => h) (Or.inl ⟨by rfl, ?_⟩) (by assumption) ?_
              rotate_left
              · (intro w hSw; (try dsimp only at hSw); (try go_simp); (try (with_reducible rfl)))
              (try simp only [Act.put, List.setIfInBounds_toArray, List.set_cons_zero, List.set_cons_succ])
              refine' wpAnyH_tk (i := 26) (v := _) rfl (by kernel_rfl) (by decide +kernel) (by decide +kernel) (fun _ _ _ h => h) (Or.inl ⟨by rfl, ?_⟩) (by assumption) ?_
              rotate_left
              · (intro w hSw; (try dsimp only at hSw); (try go_simp); (try (with_reducible rfl)))
              (try simp only [Act.put, List.setIfInBounds_toArray, List.set_cons_zero, List.set_cons_succ])
              refine wpAnyH_done (by decide +kernel) ?_ _
              go_wp2_with fail
              go_ret
              exact ⟨rfl, (H.out.1.trans K3.out (fun _ _ x => x)).trans KC.out (fun _ _ x => x)⟩)
end Go.Proofs.YtbanpohholnkaaaDoor
