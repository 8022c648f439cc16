/-
  Walk: graduslaw06.RelJoinsBoth. Conditions: the table strings.asciiSpace lies as the program lays it.
-/
import Derived.Test.YtbanpohholnkaaaDoorWRAwake
import Derived.Test.YtbanpohholnkaaaDoorWJoin
namespace Go.Proofs.YtbanpohholnkaaaDoor
open Go.RowKit

set_option maxRecDepth 100000 in
set_option maxHeartbeats 8000000 in
theorem joins_law {w : World} {ra rb : Tv} {ta tb : Ty} (hT : Tab w) (ha : TyV w nX ra ta) (hb : TyV w nX rb tb) :
    Calls Tryd.prog 10 #[ra.val, rb.val] w fun e w' => e = .returned (.bool true) ∧ Keep (fun _ => False) w w' := by
  obtain ⟨ak, anm, aAn, ann, acn, aAk, ank, ack⟩ := ra
  obtain ⟨bk, bnm, bAn, bnn, bcn, bAk, bnk, bck⟩ := rb
  have kw : Keep (fun _ => False) w ((w.alloc (.cells #[.int .i64 ak, .string anm, .slice aAn ann acn, .slice aAk ank ack] 25)).alloc (.cells #[.int .i64 bk, .string bnm, .slice bAn bnn bcn, .slice bAk bnk bck] 25)) := ((Keep.refl _ w).alloc _).alloc _
  have ata : At ((w.alloc (.cells #[.int .i64 ak, .string anm, .slice aAn ann acn, .slice aAk ank ack] 25)).alloc (.cells #[.int .i64 bk, .string bnm, .slice bAn bnn bcn, .slice bAk bnk bck] 25)) (w.heap.size) 25 #[.int .i64 ak, .string anm, .slice aAn ann acn, .slice aAk ank ack] := by repeat (first | exact At.new _ _ _ | exact At.new_at (by simp) | refine At.alloc ?_ _)
  have atb : At ((w.alloc (.cells #[.int .i64 ak, .string anm, .slice aAn ann acn, .slice aAk ank ack] 25)).alloc (.cells #[.int .i64 bk, .string bnm, .slice bAn bnn bcn, .slice bAk bnk bck] 25)) (w.heap.size + 1) 25 #[.int .i64 bk, .string bnm, .slice bAn bnn bcn, .slice bAk bnk bck] := by repeat (first | exact At.new _ _ _ | exact At.new_at (by simp) | refine At.alloc ?_ _)
  have H := Lib.hid (And.intro kw (And.intro ata (And.intro atb (And.intro (hT.step kw) (And.intro (ha.step kw) (hb.step kw))))))
  clear hT kw ha ata hb atb
  unfold Tv.val
  simp only
  go_enter Tryd.func10, Tryd.ntmps10
  go_upto_region 1 with fail
  generalize ((w.alloc (.cells #[.int .i64 ak, .string anm, .slice aAn ann acn, .slice aAk ank ack] 25)).alloc (.cells #[.int .i64 bk, .string bnm, .slice bAn bnn bcn, .slice bAk bnk bck] 25)) = w1 at *
  generalize w.heap.size + 1 = b1_ at *
  generalize w.heap.size = bx at *
  have HC : Hid (∀ w', Keep (fun _ => False) w1 w' → (bx < w'.heap.size ∧ w'.cell? ⟨bx, 0, none⟩ = some (.int .i64 ak) ∧ w'.cell? ⟨bx, 1, none⟩ = some (.string anm) ∧ w'.cell? ⟨bx, 2, none⟩ = some (.slice aAn ann acn) ∧ w'.cell? ⟨bx, 3, none⟩ = some (.slice aAk ank ack)) ∧ (b1_ < w'.heap.size ∧ w'.cell? ⟨b1_, 0, none⟩ = some (.int .i64 bk) ∧ w'.cell? ⟨b1_, 1, none⟩ = some (.string bnm) ∧ w'.cell? ⟨b1_, 2, none⟩ = some (.slice bAn bnn bcn) ∧ w'.cell? ⟨b1_, 3, none⟩ = some (.slice bAk bnk bck))) := fun w' hk => ⟨(hk.at_ H.out.2.1 (fun x => x)).tcells, (hk.at_ H.out.2.2.1 (fun x => x)).tcells⟩
  have KC : Hid (Keep (fun _ => False) w1 w1) := Keep.refl _ _
  obtain ⟨⟨xal, xa0, xa1, xa2, xa3⟩, ⟨xbl, xb0, xb1, xb2, xb3⟩⟩ := HC.out w1 KC.out
  have HAw : Hid (∀ w', Keep (fun _ => False) w1 w' → Calls Tryd.prog 12 #[] w' fun e w'' => e = .returned (.bool true) ∧ Keep (fun _ => False) w' w'') := fun w' hk => rawake_any (H.out.2.2.2.1.step hk)
  have HSma : Hid (∀ w', Keep (fun _ => False) w1 w' → Calls Tryd.prog 13 #[.agg #[.int .i64 ak, .string anm, .slice aAn ann acn, .slice aAk ank ack]] w' fun e w'' => (∃ z : Bool, e = .returned (.bool z)) ∧ Keep (fun _ => False) w' w'') := fun w' hk => (smallB_any (r := ⟨ak, anm, aAn, ann, acn, aAk, ank, ack⟩) (H.out.2.2.2.2.1.step hk)).mono fun e w'' ⟨z, he, hh⟩ => ⟨⟨z, he⟩, hh⟩
  have HSmb : Hid (∀ w', Keep (fun _ => False) w1 w' → Calls Tryd.prog 13 #[.agg #[.int .i64 bk, .string bnm, .slice bAn bnn bcn, .slice bAk bnk bck]] w' fun e w'' => (∃ z : Bool, e = .returned (.bool z)) ∧ Keep (fun _ => False) w' w'') := fun w' hk => (smallB_any (r := ⟨bk, bnm, bAn, bnn, bcn, bAk, bnk, bck⟩) (H.out.2.2.2.2.2.step hk)).mono fun e w'' ⟨z, he, hh⟩ => ⟨⟨z, he⟩, hh⟩
  have HJa : Hid (∀ w', Keep (fun _ => False) w1 w' → Calls Tryd.prog 27 #[.agg #[.int .i64 ak, .string anm, .slice aAn ann acn, .slice aAk ank ack], .agg #[.int .i64 bk, .string bnm, .slice bAn bnn bcn, .slice bAk bnk bck]] w' fun e w'' => (∃ q : Tv, e = .returned q.val ∧ TyV w'' nX q (joinT ta tb)) ∧ Keep (fun _ => False) w' w'') := fun w' hk => rjoin_any (r := ⟨ak, anm, aAn, ann, acn, aAk, ank, ack⟩) (r' := ⟨bk, bnm, bAn, bnn, bcn, bAk, bnk, bck⟩) (H.out.2.2.2.1.step hk) (H.out.2.2.2.2.1.step hk) (H.out.2.2.2.2.2.step hk)
  have HJb : Hid (∀ w', Keep (fun _ => False) w1 w' → Calls Tryd.prog 27 #[.agg #[.int .i64 bk, .string bnm, .slice bAn bnn bcn, .slice bAk bnk bck], .agg #[.int .i64 ak, .string anm, .slice aAn ann acn, .slice aAk ank ack]] w' fun e w'' => (∃ q : Tv, e = .returned q.val ∧ TyV w'' nX q (joinT tb ta)) ∧ Keep (fun _ => False) w' w'') := fun w' hk => rjoin_any (r := ⟨bk, bnm, bAn, bnn, bcn, bAk, bnk, bck⟩) (r' := ⟨ak, anm, aAn, ann, acn, aAk, ank, ack⟩) (H.out.2.2.2.1.step hk) (H.out.2.2.2.2.2.step hk) (H.out.2.2.2.2.1.step hk)
  go_upto_region 4 with (first | (go_at_call 12; (with_reducible refine (HAw.out _ KC.out).mono ?_); rintro e w2 ⟨rfl, hk⟩; have KN := Lib.hid (KC.out.trans hk (fun _ _ x => x)); clear KC hk xal xa0 xa1 xa2 xa3 xbl xb0 xb1 xb2 xb3; have KC := KN; clear KN; obtain ⟨⟨xal, xa0, xa1, xa2, xa3⟩, ⟨xbl, xb0, xb1, xb2, xb3⟩⟩ := HC.out _ KC.out) | (go_at_call_of 13 (Value.agg #[Value.int IntKind.i64 ak, Value.string anm, Value.slice aAn ann acn, Value.slice aAk ank ack]); (with_reducible refine (HSma.out _ KC.out).mono ?_); rintro e w2 ⟨⟨za, rfl⟩, hk⟩; have KN := Lib.hid (KC.out.trans hk (fun _ _ x => x)); clear KC hk xal xa0 xa1 xa2 xa3 xbl xb0 xb1 xb2 xb3; have KC := KN; clear KN; obtain ⟨⟨xal, xa0, xa1, xa2, xa3⟩, ⟨xbl, xb0, xb1, xb2, xb3⟩⟩ := HC.out _ KC.out) | (go_at_call_of 13 (Value.agg #[Value.int IntKind.i64 bk, Value.string bnm, Value.slice bAn bnn bcn, Value.slice bAk bnk bck]); (with_reducible refine (HSmb.out _ KC.out).mono ?_); rintro e w2 ⟨⟨zb, rfl⟩, hk⟩; have KN := Lib.hid (KC.out.trans hk (fun _ _ x => x)); clear KC hk xal xa0 xa1 xa2 xa3 xbl xb0 xb1 xb2 xb3; have KC := KN; clear KN; obtain ⟨⟨xal, xa0, xa1, xa2, xa3⟩, ⟨xbl, xb0, xb1, xb2, xb3⟩⟩ := HC.out _ KC.out))
  clear HAw HSma HSmb
  have hup : ∀ (zz : Bool), zz = za → True := fun _ _ => trivial
  clear hup
  cases hzz : (za && zb)
  · have hz : za = false ∨ (za = true ∧ zb = false) := by cases za <;> cases zb <;> simp_all
    clear hzz
    rcases hz with rfl | ⟨rfl, rfl⟩
    all_goals (
      go_wp2_with fail
      go_ret
      exact ⟨rfl, H.out.1.trans KC.out (fun _ _ x => x)⟩)
  · have hz : za = true ∧ zb = true := by simpa using hzz
    obtain ⟨rfl, rfl⟩ := hz
    clear hzz
    go_upto_region 7 with (go_at_call_of 27 (Value.agg #[Value.int IntKind.i64 ak, Value.string anm, Value.slice aAn ann acn, Value.slice aAk ank ack]); (with_reducible refine (HJa.out _ KC.out).mono ?_); rintro e w2 ⟨⟨⟨uk, unm, uAn, unn, ucn, uAk, unk, uck⟩, he, huv⟩, hk⟩; simp only [Tv.val] at he; subst he; have HU0 := Lib.hid huv; clear huv; have KN := Lib.hid (KC.out.trans hk (fun _ _ x => x)); clear KC hk xal xa0 xa1 xa2 xa3 xbl xb0 xb1 xb2 xb3; have KC := KN; clear KN; obtain ⟨⟨xal, xa0, xa1, xa2, xa3⟩, ⟨xbl, xb0, xb1, xb2, xb3⟩⟩ := HC.out _ KC.out)
    refine gen_world ?_
    intro W2 hW2
    have k2 : Keep (fun _ => False) w1 W2 := by rw [hW2]; exact KC.out.alloc _
    have au : At W2 w2.heap.size 25 #[.int .i64 uk, .string unm, .slice uAn unn ucn, .slice uAk unk uck] := by rw [hW2]; exact At.new _ _ _
    have vu := HU0.out.step (show Keep (fun _ => False) w2 W2 by rw [hW2]; exact (Keep.refl _ w2).alloc _)
    clear hW2
    generalize w2.heap.size = ux at *
    have HU := Lib.hid (And.intro k2 (And.intro au vu))
    have KD : Hid (Keep (fun _ => False) w1 W2) := k2
    clear KC xal xa0 xa1 xa2 xa3 xbl xb0 xb1 xb2 xb3 HJa au vu HU0 k2
    have KC := KD
    clear KD
    obtain ⟨⟨xal, xa0, xa1, xa2, xa3⟩, ⟨xbl, xb0, xb1, xb2, xb3⟩⟩ := HC.out _ KC.out
    go_upto_region 8 with (go_at_call_of 27 (Value.agg #[Value.int IntKind.i64 bk, Value.string bnm, Value.slice bAn bnn bcn, Value.slice bAk bnk bck]); (with_reducible refine (HJb.out _ KC.out).mono ?_); rintro e w3 ⟨⟨⟨vk, vnm, vAn, vnn, vcn, vAk, vnk, vck⟩, he, huv⟩, hk⟩; simp only [Tv.val] at he; subst he; have HU0 := Lib.hid (And.intro huv hk); clear huv; have KN := Lib.hid (KC.out.trans hk (fun _ _ x => x)); clear KC hk xal xa0 xa1 xa2 xa3 xbl xb0 xb1 xb2 xb3; have KC := KN; clear KN; obtain ⟨⟨xal, xa0, xa1, xa2, xa3⟩, ⟨xbl, xb0, xb1, xb2, xb3⟩⟩ := HC.out _ KC.out)
    refine gen_world ?_
    intro W3 hW3
    have k3 : Keep (fun _ => False) W2 W3 := by rw [hW3]; exact HU0.out.2.alloc _
    have av : At W3 w3.heap.size 25 #[.int .i64 vk, .string vnm, .slice vAn vnn vcn, .slice vAk vnk vck] := by rw [hW3]; exact At.new _ _ _
    have vv := HU0.out.1.step (show Keep (fun _ => False) w3 W3 by rw [hW3]; exact (Keep.refl _ w3).alloc _)
    clear hW3
    generalize w3.heap.size = vx at *
    have HV := Lib.hid (And.intro k3 (And.intro av vv))
    clear KC xal xa0 xa1 xa2 xa3 xbl xb0 xb1 xb2 xb3 HJb av vv HU0 k3 HC
    have HC : Hid (∀ w', Keep (fun _ => False) W3 w' → (ux < w'.heap.size ∧ w'.cell? ⟨ux, 0, none⟩ = some (.int .i64 uk) ∧ w'.cell? ⟨ux, 1, none⟩ = some (.string unm) ∧ w'.cell? ⟨ux, 2, none⟩ = some (.slice uAn unn ucn) ∧ w'.cell? ⟨ux, 3, none⟩ = some (.slice uAk unk uck)) ∧ (vx < w'.heap.size ∧ w'.cell? ⟨vx, 0, none⟩ = some (.int .i64 vk) ∧ w'.cell? ⟨vx, 1, none⟩ = some (.string vnm) ∧ w'.cell? ⟨vx, 2, none⟩ = some (.slice vAn vnn vcn) ∧ w'.cell? ⟨vx, 3, none⟩ = some (.slice vAk vnk vck))) := fun w' hk => ⟨((HV.out.1.trans hk (fun _ _ x => x)).at_ HU.out.2.1 (fun x => x)).tcells, (hk.at_ HV.out.2.1 (fun x => x)).tcells⟩
    have KC : Hid (Keep (fun _ => False) W3 W3) := Keep.refl _ _
    obtain ⟨⟨xul, xu0, xu1, xu2, xu3⟩, ⟨xvl, xv0, xv1, xv2, xv3⟩⟩ := HC.out W3 KC.out
    have hku : uk = (joinT ta tb).kind := HU.out.2.2.knd
    have hkv : vk = (joinT tb ta).kind := HV.out.2.2.knd
    rw [joinT_comm tb ta] at hkv
    have HSu : Hid (∀ w', Keep (fun _ => False) W3 w' → Calls Tryd.prog 16 #[.agg #[.int .i64 uk, .string unm, .slice uAn unn ucn, .slice uAk unk uck], .agg #[.int .i64 vk, .string vnm, .slice vAn vnn vcn, .slice vAk vnk vck]] w' fun e w'' => e = .returned (.bool (subT (joinT ta tb) (joinT ta tb))) ∧ Keep (fun _ => False) w' w'') := fun w' hk => by
      have h2 := HV.out.2.2
      rw [joinT_comm tb ta] at h2
      exact rsub_any (r := ⟨uk, unm, uAn, unn, ucn, uAk, unk, uck⟩) (r' := ⟨vk, vnm, vAn, vnn, vcn, vAk, vnk, vck⟩) (H.out.2.2.2.1.step ((HU.out.1.trans HV.out.1 (fun _ _ x => x)).trans hk (fun _ _ x => x))) (HU.out.2.2.step (HV.out.1.trans hk (fun _ _ x => x))) (h2.step hk)
    have HSv : Hid (∀ w', Keep (fun _ => False) W3 w' → Calls Tryd.prog 16 #[.agg #[.int .i64 vk, .string vnm, .slice vAn vnn vcn, .slice vAk vnk vck], .agg #[.int .i64 uk, .string unm, .slice uAn unn ucn, .slice uAk unk uck]] w' fun e w'' => e = .returned (.bool (subT (joinT ta tb) (joinT ta tb))) ∧ Keep (fun _ => False) w' w'') := fun w' hk => by
      have h2 := HV.out.2.2
      rw [joinT_comm tb ta] at h2
      exact rsub_any (r := ⟨vk, vnm, vAn, vnn, vcn, vAk, vnk, vck⟩) (r' := ⟨uk, unm, uAn, unn, ucn, uAk, unk, uck⟩) (H.out.2.2.2.1.step ((HU.out.1.trans HV.out.1 (fun _ _ x => x)).trans hk (fun _ _ x => x))) (h2.step hk) (HU.out.2.2.step (HV.out.1.trans hk (fun _ _ x => x)))
    have hjn := joinT_norm ta tb
    generalize joinT ta tb = tj at *
    rw [subT_refl] at HSu HSv
    have huv : uk = vk := hku.trans hkv.symm
    clear hkv
    subst huv
    by_cases hu0 : uk = 0
    · have d0 : (uk == 0) = true := by rw [beq_iff_eq]; exact hu0
      have d1 : (uk == uk) = true := by simp
      clear hu0 hku hjn HSu HSv
      go_wp2_with fail
      go_ret
      exact ⟨ret_bool (by simp), ((H.out.1.trans HU.out.1 (fun _ _ x => x)).trans HV.out.1 (fun _ _ x => x)).trans KC.out (fun _ _ x => x)⟩
    · have hjt : normB tj = true := by
        rcases hjn with h | h
        · rw [h] at hku
          exact absurd hku hu0
        · exact h
      rw [hjt] at HSu HSv
      have d0 : (uk == 0) = false := by rw [beq_eq_false_iff_ne]; exact hu0
      clear hu0 hku hjn hjt
      go_wp2_with (first
        | (go_at_call_of 16 (Value.agg #[Value.int IntKind.i64 uk, Value.string unm, Value.slice uAn unn ucn, Value.slice uAk unk uck]); (with_reducible refine (HSu.out _ KC.out).mono ?_); rintro e w4 ⟨rfl, hk⟩; have KN := Lib.hid (KC.out.trans hk (fun _ _ x => x)); clear KC hk xul xu0 xu1 xu2 xu3 xvl xv0 xv1 xv2 xv3; have KC := KN; clear KN; obtain ⟨⟨xul, xu0, xu1, xu2, xu3⟩, ⟨xvl, xv0, xv1, xv2, xv3⟩⟩ := HC.out _ KC.out)
        | (go_at_call_of 16 (Value.agg #[Value.int IntKind.i64 uk, Value.string vnm, Value.slice vAn vnn vcn, Value.slice vAk vnk vck]); (with_reducible refine (HSv.out _ KC.out).mono ?_); rintro e w4 ⟨rfl, hk⟩; have KN := Lib.hid (KC.out.trans hk (fun _ _ x => x)); clear KC hk xul xu0 xu1 xu2 xu3 xvl xv0 xv1 xv2 xv3; have KC := KN; clear KN; obtain ⟨⟨xul, xu0, xu1, xu2, xu3⟩, ⟨xvl, xv0, xv1, xv2, xv3⟩⟩ := HC.out _ KC.out))
      go_ret
      exact ⟨rfl, ((H.out.1.trans HU.out.1 (fun _ _ x => x)).trans HV.out.1 (fun _ _ x => x)).trans KC.out (fun _ _ x => x)⟩
end Go.Proofs.YtbanpohholnkaaaDoor
