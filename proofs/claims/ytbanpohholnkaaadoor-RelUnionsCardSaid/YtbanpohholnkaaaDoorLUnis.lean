/-
  Walk: graduslaw06.RelUnions. Conditions: the table strings.asciiSpace lies as the program lays it.
-/
import Derived.Test.YtbanpohholnkaaaDoorWRAwake
import Derived.Test.YtbanpohholnkaaaDoorLFuns
namespace Go.Proofs.YtbanpohholnkaaaDoor
open Go.RowKit

theorem union_law {a b : Ty} (h1 : normB a = true) (h2 : normB b = true) (a0 : a.kind ≠ 0) (b7 : b.kind = 7) : subT a b = (atoms a).all fun i => b.kids.any fun k => subT i k := by
  have na : ∀ i ∈ atoms a, normB i = true := fun i hi => by
    unfold atoms at hi
    split at hi
    · exact normB_kid h1 hi
    · rw [List.mem_singleton.1 hi]; exact h1
  have nb : ∀ k ∈ b.kids, normB k = true := fun k hk => normB_kid h2 hk
  rw [Bool.eq_iff_iff, List.all_eq_true]
  have e : subT a b = belowT false a b := by unfold subT; rw [h1, h2]; rfl
  rw [e, below_union (normB_nf h1) (normB_nf h2) a0 b7]
  constructor
  · intro h i hi
    obtain ⟨k, hk, hb⟩ := h i hi
    rw [List.any_eq_true]
    exact ⟨k, hk, by unfold subT; rw [na i hi, nb k hk, hb]; rfl⟩
  · intro h i hi
    obtain ⟨k, hk, hb⟩ := List.any_eq_true.1 (h i hi)
    refine ⟨k, hk, ?_⟩
    unfold subT at hb
    simp only [Bool.and_eq_true] at hb
    exact hb.2
def OuA (w : World) (f : Ty → Bool) (l : List Ty) (n : Nat) (k : Nat) (u v : Value) (wr : World) : Prop :=
  ∃ i : Nat, u = .bool ((l.take i).all f) ∧ v = .int .i64 i ∧ i ≤ n ∧ k = n - i ∧ Keep (fun _ => False) w wr
def InA (w : World) (f : Ty → Bool) (l : List Ty) (n : Nat) (k : Nat) (u v : Value) (wr : World) : Prop :=
  ∃ i : Nat, u = .bool ((l.take i).any f) ∧ v = .int .i64 i ∧ i ≤ n ∧ k = n - i ∧ Keep (fun _ => False) w wr
theorem all_take {l : List Ty} {f : Ty → Bool} {i : Nat} {x : Ty} (h : l[i]? = some x) : (l.take (i + 1)).all f = ((l.take i).all f && f x) := by
  rw [List.take_add_one, h]; simp
theorem any_take {l : List Ty} {f : Ty → Bool} {i : Nat} {x : Ty} (h : l[i]? = some x) : (l.take (i + 1)).any f = ((l.take i).any f || f x) := by
  rw [List.take_add_one, h]; simp
set_option maxRecDepth 100000 in
set_option maxHeartbeats 8000000 in
theorem unis_law {w : World} {ra rb : Tv} {ta tb : Ty} (hT : Tab w) (ha : TyV w nX ra ta) (hb : TyV w nX rb tb) :
    Calls Tryd.prog 6 #[ra.val, rb.val] w fun e w' => e = .returned (.bool true) ∧ Keep (fun _ => False) w w' := by
  obtain ⟨ak, anm, aAn, ann, acn, aAk, ank, ack⟩ := ra
  obtain ⟨bk, bnm, bAn, bnn, bcn, bAk, bnk, bck⟩ := rb
  have kw : Keep (fun _ => False) w ((w.alloc (.cells #[.int .i64 ak, .string anm, .slice aAn ann acn, .slice aAk ank ack] 25)).alloc (.cells #[.int .i64 bk, .string bnm, .slice bAn bnn bcn, .slice bAk bnk bck] 25)) := ((Keep.refl _ w).alloc _).alloc _
  have ata : At ((w.alloc (.cells #[.int .i64 ak, .string anm, .slice aAn ann acn, .slice aAk ank ack] 25)).alloc (.cells #[.int .i64 bk, .string bnm, .slice bAn bnn bcn, .slice bAk bnk bck] 25)) (w.heap.size) 25 #[.int .i64 ak, .string anm, .slice aAn ann acn, .slice aAk ank ack] := by repeat (first | exact At.new _ _ _ | exact At.new_at (by simp) | refine At.alloc ?_ _)
  have atb : At ((w.alloc (.cells #[.int .i64 ak, .string anm, .slice aAn ann acn, .slice aAk ank ack] 25)).alloc (.cells #[.int .i64 bk, .string bnm, .slice bAn bnn bcn, .slice bAk bnk bck] 25)) (w.heap.size + 1) 25 #[.int .i64 bk, .string bnm, .slice bAn bnn bcn, .slice bAk bnk bck] := by repeat (first | exact At.new _ _ _ | exact At.new_at (by simp) | refine At.alloc ?_ _)
  have H := Lib.hid (And.intro kw (And.intro ata (And.intro atb (And.intro (hT.step kw) (And.intro (ha.step kw) (hb.step kw))))))
  clear hT kw ha ata hb atb
  unfold Tv.val
  simp only
  go_enter Tryd.func6, Tryd.ntmps6
  go_upto_region 1 with fail
  generalize ((w.alloc (.cells #[.int .i64 ak, .string anm, .slice aAn ann acn, .slice aAk ank ack] 25)).alloc (.cells #[.int .i64 bk, .string bnm, .slice bAn bnn bcn, .slice bAk bnk bck] 25)) = w1 at *
  generalize w.heap.size + 1 = b1_ at *
  generalize w.heap.size = bx at *
  have HC : Hid (∀ w', Keep (fun _ => False) w1 w' → (bx < w'.heap.size ∧ w'.cell? ⟨bx, 0, none⟩ = some (.int .i64 ak) ∧ w'.cell? ⟨bx, 1, none⟩ = some (.string anm) ∧ w'.cell? ⟨bx, 2, none⟩ = some (.slice aAn ann acn) ∧ w'.cell? ⟨bx, 3, none⟩ = some (.slice aAk ank ack)) ∧ (b1_ < w'.heap.size ∧ w'.cell? ⟨b1_, 0, none⟩ = some (.int .i64 bk) ∧ w'.cell? ⟨b1_, 1, none⟩ = some (.string bnm) ∧ w'.cell? ⟨b1_, 2, none⟩ = some (.slice bAn bnn bcn) ∧ w'.cell? ⟨b1_, 3, none⟩ = some (.slice bAk bnk bck))) := fun w' hk => ⟨(hk.at_ H.out.2.1 (fun x => x)).tcells, (hk.at_ H.out.2.2.1 (fun x => x)).tcells⟩
  have KC : Hid (Keep (fun _ => False) w1 w1) := Keep.refl _ _
  obtain ⟨⟨xal, xa0, xa1, xa2, xa3⟩, ⟨xbl, xb0, xb1, xb2, xb3⟩⟩ := HC.out w1 KC.out
  have HAw : Hid (∀ w', Keep (fun _ => False) w1 w' → Calls Tryd.prog 12 #[] w' fun e w'' => e = .returned (.bool true) ∧ Keep (fun _ => False) w' w'') := fun w' hk => rawake_any (H.out.2.2.2.1.step hk)
  have HSma : Hid (∀ w', Keep (fun _ => False) w1 w' → Calls Tryd.prog 13 #[.agg #[.int .i64 ak, .string anm, .slice aAn ann acn, .slice aAk ank ack]] w' fun e w'' => (∃ z : Bool, e = .returned (.bool z)) ∧ Keep (fun _ => False) w' w'') := fun w' hk => (smallB_any (r := ⟨ak, anm, aAn, ann, acn, aAk, ank, ack⟩) (H.out.2.2.2.2.1.step hk)).mono fun e w'' ⟨z, he, hh⟩ => ⟨⟨z, he⟩, hh⟩
  have HSmb : Hid (∀ w', Keep (fun _ => False) w1 w' → Calls Tryd.prog 13 #[.agg #[.int .i64 bk, .string bnm, .slice bAn bnn bcn, .slice bAk bnk bck]] w' fun e w'' => (∃ z : Bool, e = .returned (.bool z)) ∧ Keep (fun _ => False) w' w'') := fun w' hk => (smallB_any (r := ⟨bk, bnm, bAn, bnn, bcn, bAk, bnk, bck⟩) (H.out.2.2.2.2.2.step hk)).mono fun e w'' ⟨z, he, hh⟩ => ⟨⟨z, he⟩, hh⟩
  have HXa : Hid (∀ w', Keep (fun _ => False) w1 w' → Calls Tryd.prog 16 #[.agg #[.int .i64 ak, .string anm, .slice aAn ann acn, .slice aAk ank ack], .agg #[.int .i64 ak, .string anm, .slice aAn ann acn, .slice aAk ank ack]] w' fun e w'' => e = .returned (.bool (subT ta ta)) ∧ Keep (fun _ => False) w' w'') := fun w' hk => rsub_any (r := ⟨ak, anm, aAn, ann, acn, aAk, ank, ack⟩) (r' := ⟨ak, anm, aAn, ann, acn, aAk, ank, ack⟩) (H.out.2.2.2.1.step hk) (H.out.2.2.2.2.1.step hk) (H.out.2.2.2.2.1.step hk)
  have HXb : Hid (∀ w', Keep (fun _ => False) w1 w' → Calls Tryd.prog 16 #[.agg #[.int .i64 bk, .string bnm, .slice bAn bnn bcn, .slice bAk bnk bck], .agg #[.int .i64 bk, .string bnm, .slice bAn bnn bcn, .slice bAk bnk bck]] w' fun e w'' => e = .returned (.bool (subT tb tb)) ∧ Keep (fun _ => False) w' w'') := fun w' hk => rsub_any (r := ⟨bk, bnm, bAn, bnn, bcn, bAk, bnk, bck⟩) (r' := ⟨bk, bnm, bAn, bnn, bcn, bAk, bnk, bck⟩) (H.out.2.2.2.1.step hk) (H.out.2.2.2.2.2.step hk) (H.out.2.2.2.2.2.step hk)
  have HSu : Hid (∀ w', Keep (fun _ => False) w1 w' → Calls Tryd.prog 16 #[.agg #[.int .i64 ak, .string anm, .slice aAn ann acn, .slice aAk ank ack], .agg #[.int .i64 bk, .string bnm, .slice bAn bnn bcn, .slice bAk bnk bck]] w' fun e w'' => e = .returned (.bool (subT ta tb)) ∧ Keep (fun _ => False) w' w'') := fun w' hk => rsub_any (r := ⟨ak, anm, aAn, ann, acn, aAk, ank, ack⟩) (r' := ⟨bk, bnm, bAn, bnn, bcn, bAk, bnk, bck⟩) (H.out.2.2.2.1.step hk) (H.out.2.2.2.2.1.step hk) (H.out.2.2.2.2.2.step hk)
  go_upto_region 4 with (first | (go_at_call 12; (with_reducible refine (HAw.out _ KC.out).mono ?_); rintro e w2 ⟨rfl, hk⟩; have KN := Lib.hid (KC.out.trans hk (fun _ _ x => x)); clear KC hk xal xa0 xa1 xa2 xa3 xbl xb0 xb1 xb2 xb3; have KC := KN; clear KN; obtain ⟨⟨xal, xa0, xa1, xa2, xa3⟩, ⟨xbl, xb0, xb1, xb2, xb3⟩⟩ := HC.out _ KC.out) | (go_at_call_of 13 (Value.agg #[Value.int IntKind.i64 ak, Value.string anm, Value.slice aAn ann acn, Value.slice aAk ank ack]); (with_reducible refine (HSma.out _ KC.out).mono ?_); rintro e w2 ⟨⟨za, rfl⟩, hk⟩; have KN := Lib.hid (KC.out.trans hk (fun _ _ x => x)); clear KC hk xal xa0 xa1 xa2 xa3 xbl xb0 xb1 xb2 xb3; have KC := KN; clear KN; obtain ⟨⟨xal, xa0, xa1, xa2, xa3⟩, ⟨xbl, xb0, xb1, xb2, xb3⟩⟩ := HC.out _ KC.out) | (go_at_call_of 13 (Value.agg #[Value.int IntKind.i64 bk, Value.string bnm, Value.slice bAn bnn bcn, Value.slice bAk bnk bck]); (with_reducible refine (HSmb.out _ KC.out).mono ?_); rintro e w2 ⟨⟨zb, rfl⟩, hk⟩; have KN := Lib.hid (KC.out.trans hk (fun _ _ x => x)); clear KC hk xal xa0 xa1 xa2 xa3 xbl xb0 xb1 xb2 xb3; have KC := KN; clear KN; obtain ⟨⟨xal, xa0, xa1, xa2, xa3⟩, ⟨xbl, xb0, xb1, xb2, xb3⟩⟩ := HC.out _ KC.out))
  clear HAw HSma HSmb
  rw [subT_refl] at HXa HXb
  have hka : ak = ta.kind := (H.out.2.2.2.2.1).knd
  have hkb : bk = tb.kind := (H.out.2.2.2.2.2).knd
  cases hzz : (za && zb)
  · have hz : za = false ∨ (za = true ∧ zb = false) := by cases za <;> cases zb <;> simp_all
    clear hzz hka hkb
    rcases hz with rfl | ⟨rfl, rfl⟩
    all_goals (
      go_wp2_with fail
      go_ret
      exact ⟨rfl, H.out.1.trans KC.out (fun _ _ x => x)⟩)
  have hz : za = true ∧ zb = true := by simpa using hzz
  obtain ⟨rfl, rfl⟩ := hz
  clear hzz
  cases hx : normB ta
  · rw [hx] at HXa
    clear hx hka hkb
    go_wp2_with (first | (go_at_call_of 16 (Value.agg #[Value.int IntKind.i64 ak, Value.string anm, Value.slice aAn ann acn, Value.slice aAk ank ack]); (with_reducible refine (HXa.out _ KC.out).mono ?_); rintro e w2 ⟨rfl, hk⟩; have KN := Lib.hid (KC.out.trans hk (fun _ _ x => x)); clear KC hk xal xa0 xa1 xa2 xa3 xbl xb0 xb1 xb2 xb3; have KC := KN; clear KN; obtain ⟨⟨xal, xa0, xa1, xa2, xa3⟩, ⟨xbl, xb0, xb1, xb2, xb3⟩⟩ := HC.out _ KC.out) | (go_at_call_of 16 (Value.agg #[Value.int IntKind.i64 bk, Value.string bnm, Value.slice bAn bnn bcn, Value.slice bAk bnk bck]); (with_reducible refine (HXb.out _ KC.out).mono ?_); rintro e w2 ⟨rfl, hk⟩; have KN := Lib.hid (KC.out.trans hk (fun _ _ x => x)); clear KC hk xal xa0 xa1 xa2 xa3 xbl xb0 xb1 xb2 xb3; have KC := KN; clear KN; obtain ⟨⟨xal, xa0, xa1, xa2, xa3⟩, ⟨xbl, xb0, xb1, xb2, xb3⟩⟩ := HC.out _ KC.out))
    go_ret
    exact ⟨rfl, H.out.1.trans KC.out (fun _ _ x => x)⟩
  cases hy : normB tb
  · rw [hx] at HXa
    rw [hy] at HXb
    clear hx hy hka hkb
    go_wp2_with (first | (go_at_call_of 16 (Value.agg #[Value.int IntKind.i64 ak, Value.string anm, Value.slice aAn ann acn, Value.slice aAk ank ack]); (with_reducible refine (HXa.out _ KC.out).mono ?_); rintro e w2 ⟨rfl, hk⟩; have KN := Lib.hid (KC.out.trans hk (fun _ _ x => x)); clear KC hk xal xa0 xa1 xa2 xa3 xbl xb0 xb1 xb2 xb3; have KC := KN; clear KN; obtain ⟨⟨xal, xa0, xa1, xa2, xa3⟩, ⟨xbl, xb0, xb1, xb2, xb3⟩⟩ := HC.out _ KC.out) | (go_at_call_of 16 (Value.agg #[Value.int IntKind.i64 bk, Value.string bnm, Value.slice bAn bnn bcn, Value.slice bAk bnk bck]); (with_reducible refine (HXb.out _ KC.out).mono ?_); rintro e w2 ⟨rfl, hk⟩; have KN := Lib.hid (KC.out.trans hk (fun _ _ x => x)); clear KC hk xal xa0 xa1 xa2 xa3 xbl xb0 xb1 xb2 xb3; have KC := KN; clear KN; obtain ⟨⟨xal, xa0, xa1, xa2, xa3⟩, ⟨xbl, xb0, xb1, xb2, xb3⟩⟩ := HC.out _ KC.out))
    go_ret
    exact ⟨rfl, H.out.1.trans KC.out (fun _ _ x => x)⟩
  rw [hx] at HXa
  rw [hy] at HXb
  by_cases ha0 : ak = 0
  · have d0 : (ak == 0) = true := by rw [beq_iff_eq]; exact ha0
    clear hx hy hka hkb ha0
    go_wp2_with (first | (go_at_call_of 16 (Value.agg #[Value.int IntKind.i64 ak, Value.string anm, Value.slice aAn ann acn, Value.slice aAk ank ack]); (with_reducible refine (HXa.out _ KC.out).mono ?_); rintro e w2 ⟨rfl, hk⟩; have KN := Lib.hid (KC.out.trans hk (fun _ _ x => x)); clear KC hk xal xa0 xa1 xa2 xa3 xbl xb0 xb1 xb2 xb3; have KC := KN; clear KN; obtain ⟨⟨xal, xa0, xa1, xa2, xa3⟩, ⟨xbl, xb0, xb1, xb2, xb3⟩⟩ := HC.out _ KC.out) | (go_at_call_of 16 (Value.agg #[Value.int IntKind.i64 bk, Value.string bnm, Value.slice bAn bnn bcn, Value.slice bAk bnk bck]); (with_reducible refine (HXb.out _ KC.out).mono ?_); rintro e w2 ⟨rfl, hk⟩; have KN := Lib.hid (KC.out.trans hk (fun _ _ x => x)); clear KC hk xal xa0 xa1 xa2 xa3 xbl xb0 xb1 xb2 xb3; have KC := KN; clear KN; obtain ⟨⟨xal, xa0, xa1, xa2, xa3⟩, ⟨xbl, xb0, xb1, xb2, xb3⟩⟩ := HC.out _ KC.out))
    go_ret
    exact ⟨rfl, H.out.1.trans KC.out (fun _ _ x => x)⟩
  have d0 : (ak == 0) = false := by rw [beq_eq_false_iff_ne]; exact ha0
  by_cases hb7 : bk = 7
  rotate_left
  · have d7 : (bk != 7) = true := by rw [bne_iff_ne]; exact hb7
    clear hx hy hka hkb ha0 hb7
    go_wp2_with (first | (go_at_call_of 16 (Value.agg #[Value.int IntKind.i64 ak, Value.string anm, Value.slice aAn ann acn, Value.slice aAk ank ack]); (with_reducible refine (HXa.out _ KC.out).mono ?_); rintro e w2 ⟨rfl, hk⟩; have KN := Lib.hid (KC.out.trans hk (fun _ _ x => x)); clear KC hk xal xa0 xa1 xa2 xa3 xbl xb0 xb1 xb2 xb3; have KC := KN; clear KN; obtain ⟨⟨xal, xa0, xa1, xa2, xa3⟩, ⟨xbl, xb0, xb1, xb2, xb3⟩⟩ := HC.out _ KC.out) | (go_at_call_of 16 (Value.agg #[Value.int IntKind.i64 bk, Value.string bnm, Value.slice bAn bnn bcn, Value.slice bAk bnk bck]); (with_reducible refine (HXb.out _ KC.out).mono ?_); rintro e w2 ⟨rfl, hk⟩; have KN := Lib.hid (KC.out.trans hk (fun _ _ x => x)); clear KC hk xal xa0 xa1 xa2 xa3 xbl xb0 xb1 xb2 xb3; have KC := KN; clear KN; obtain ⟨⟨xal, xa0, xa1, xa2, xa3⟩, ⟨xbl, xb0, xb1, xb2, xb3⟩⟩ := HC.out _ KC.out))
    go_ret
    exact ⟨rfl, H.out.1.trans KC.out (fun _ _ x => x)⟩
  have hul := union_law hx hy (by rw [← hka]; exact ha0) (by rw [← hkb]; exact hb7)
  have HUL := Lib.hid hul
  have HKA := Lib.hid (And.intro hka ha0)
  clear hx hy hkb hul ha0 hka
  subst hb7
  go_upto_region 7 with (first | (go_at_call_of 16 (Value.agg #[Value.int IntKind.i64 ak, Value.string anm, Value.slice aAn ann acn, Value.slice aAk ank ack]); (with_reducible refine (HXa.out _ KC.out).mono ?_); rintro e w2 ⟨rfl, hk⟩; have KN := Lib.hid (KC.out.trans hk (fun _ _ x => x)); clear KC hk xal xa0 xa1 xa2 xa3 xbl xb0 xb1 xb2 xb3; have KC := KN; clear KN; obtain ⟨⟨xal, xa0, xa1, xa2, xa3⟩, ⟨xbl, xb0, xb1, xb2, xb3⟩⟩ := HC.out _ KC.out) | (go_at_call_of 16 (Value.agg #[Value.int IntKind.i64 7, Value.string bnm, Value.slice bAn bnn bcn, Value.slice bAk bnk bck]); (with_reducible refine (HXb.out _ KC.out).mono ?_); rintro e w2 ⟨rfl, hk⟩; have KN := Lib.hid (KC.out.trans hk (fun _ _ x => x)); clear KC hk xal xa0 xa1 xa2 xa3 xbl xb0 xb1 xb2 xb3; have KC := KN; clear KN; obtain ⟨⟨xal, xa0, xa1, xa2, xa3⟩, ⟨xbl, xb0, xb1, xb2, xb3⟩⟩ := HC.out _ KC.out))
  refine gen_world ?_
  intro W2 hW2
  have k2 : Keep (fun _ => False) w1 W2 := by rw [hW2]; exact KC.out.alloc _
  have al : At W2 w2.heap.size 25 #[.int .i64 ak, .string anm, .slice aAn ann acn, .slice aAk ank ack] := by rw [hW2]; exact At.new _ _ _
  clear hW2 KC xal xa0 xa1 xa2 xa3 xbl xb0 xb1 xb2 xb3 HXa HXb
  generalize w2.heap.size = lx at *
  have K2 := Lib.hid k2
  obtain ⟨⟨xal, xa0, xa1, xa2, xa3⟩, ⟨xbl, xb0, xb1, xb2, xb3⟩⟩ := HC.out _ k2
  have hls : ∃ (Al : Option Addr) (nl cl : Nat) (rs : List Tv), ((ak = 7 → Value.slice Al nl cl = .slice aAk ank ack) ∧ (ak ≠ 7 → Value.slice Al nl cl = .slice (some ⟨lx, 0, none⟩) 1 1)) ∧ nl = (atoms ta).length ∧ Rd W2 nX 4 (.slice Al nl cl) nl (tflat rs) ∧ TysV W2 nX rs (atoms ta) := by
    have hva := (H.out.2.2.2.2.1).step k2
    by_cases h7 : ak = 7
    · have e : atoms ta = ta.kids := by unfold atoms; rw [if_pos (by rw [← HKA.out.1]; exact h7)]
      obtain ⟨rs, h1, h2, h3, h4⟩ := hva.kds
      exact ⟨aAk, ank, ack, rs, ⟨fun _ => rfl, fun h => absurd h7 h⟩, by rw [e]; exact h1, h3, by rw [e]; exact h4⟩
    · have e : atoms ta = [ta] := by unfold atoms; rw [if_neg (by rw [← HKA.out.1]; exact h7)]
      exact ⟨some ⟨lx, 0, none⟩, 1, 1, [⟨ak, anm, aAn, ann, acn, aAk, ank, ack⟩], ⟨fun h => absurd h h7, fun _ => rfl⟩, by rw [e]; rfl, by have := Rd.lit (X := nX) (size := 4) (n := 1) al (fun x => x) rfl; simpa [tflat, Tv.vals] using this, by rw [e]; exact ⟨hva, trivial⟩⟩
  obtain ⟨Al, nl, cl, rs, hsl, hnl, hrd, htv⟩ := hls
  obtain ⟨rs', hnk, hnb, hrd', htv'⟩ := ((H.out.2.2.2.2.2).step k2).kds
  simp only at hnk hnb hrd'
  have HL := Lib.hid (And.intro hrd (And.intro htv (And.intro hrd' (And.intro htv' (And.intro hnl hnk)))))
  have hlb : nl ≤ 140737488355328 := by
    obtain ⟨_, _, h2, _, _⟩ := ((H.out.2.2.2.2.1).step k2).kds
    simp only at h2
    by_cases h7 : ak = 7
    · have := hsl.1 h7
      simp only [Value.slice.injEq] at this
      omega
    · have := hsl.2 h7
      simp only [Value.slice.injEq] at this
      omega
  have h0 : Hid (OuA W2 (fun i => tb.kids.any fun k => subT i k) (atoms ta) nl nl (.bool true) (.int .i64 0) W2) := ⟨0, by simp, rfl, Nat.zero_le _, by omega, Keep.refl _ _⟩
  clear hrd htv hrd' htv' hnl hnk k2 al
  have hgo : ∀ (Q : Exit → Act → World → Prop), True := fun _ => trivial
  clear hgo
  have HSL := Lib.hid hsl
  clear hsl
  by_cases h7 : ak = 7
  · have d7 : (ak == 7) = true := by rw [beq_iff_eq]; exact h7
    have H7 := Lib.hid h7
    clear h7
    go_upto_region 9 with fail
    rw [← HSL.out.1 H7.out]
    clear d7 d0
    go_wp2_with fail
    clear xal xa0 xa1 xa2 xa3 xbl xb0 xb1 xb2 xb3
    go_loopg [9, 10] nl (OuA W2 (fun i => tb.kids.any fun k => subT i k) (atoms ta) nl)
    case atStart => exact h0.out
    case round =>
      clear h0
      obtain ⟨i, rfl, rfl, hi, rfl, hk⟩ := hrel
      by_cases hlt : i < nl
      · obtain ⟨s, hs⟩ : ∃ s, (atoms ta)[i]? = some s := ⟨_, List.getElem?_eq_getElem (by have := HL.out.2.2.2.2.1; omega)⟩
        obtain ⟨⟨mk, mnm, mAn, mnn, mcn, mAk, mnk, mck⟩, hq, hqv⟩ := HL.out.2.1.at_ hs
        obtain ⟨lb, lo, rfl, hlz, _, c0, c1, c2, c3⟩ := HL.out.1.tcells hlt hq
        simp only at c0 c1 c2 c3
        have HS := Lib.hid (And.intro hk (And.intro hs hqv))
        have HCC := Lib.hid (And.intro hlz (And.intro c0 (And.intro c1 (And.intro c2 c3))))
        have h1 : Hid (InA wr (fun k => subT s k) tb.kids bnk bnk (.bool false) (.int .i64 0) wr) := ⟨0, by simp, rfl, Nat.zero_le _, by omega, Keep.refl _ _⟩
        obtain ⟨⟨xal, xa0, xa1, xa2, xa3⟩, ⟨xbl, xb0, xb1, xb2, xb3⟩⟩ := HC.out _ (K2.out.trans hk (fun _ _ x => x))
        clear hk hs hq hqv hlz c0 c1 c2 c3
        go_wp2_with fail
        clear xal xa0 xa1 xa2 xa3 xbl xb0 xb1 xb2 xb3
        obtain ⟨wo, rfl⟩ : ∃ wo : World, wo = wr := ⟨_, rfl⟩
        go_loopg [11, 12] bnk (InA wo (fun k => subT s k) tb.kids bnk)
        case atStart => exact h1.out
        case round =>
          clear h1
          obtain ⟨j, rfl, rfl, hj, rfl, hk⟩ := hrel
          have kk := HS.out.1.trans hk (fun _ _ x => x)
          obtain ⟨⟨xal, xa0, xa1, xa2, xa3⟩, ⟨xbl, xb0, xb1, xb2, xb3⟩⟩ := HC.out _ (K2.out.trans kk (fun _ _ x => x))
          by_cases hjt : j < bnk
          · obtain ⟨s', hs'⟩ : ∃ s', tb.kids[j]? = some s' := ⟨_, List.getElem?_eq_getElem (by have := HL.out.2.2.2.2.2; omega)⟩
            obtain ⟨⟨nk, nnm, nAn, nnn, ncn, nAk, nnk, nck⟩, hq', hqv'⟩ := HL.out.2.2.2.1.at_ hs'
            obtain ⟨kb, ko, rfl, hkz, _, g0, g1, g2, g3⟩ := HL.out.2.2.1.tcells hjt hq'
            simp only at g0 g1 g2 g3
            have HG := Lib.hid (And.intro hkz (And.intro g0 (And.intro g1 (And.intro g2 g3))))
            have HJ := Lib.hid (And.intro hk (And.intro hs' kk))
            have hcs := fun w' (hk' : Keep (fun _ => False) wr w') => rsub_any (r := ⟨mk, mnm, mAn, mnn, mcn, mAk, mnk, mck⟩) (r' := ⟨nk, nnm, nAn, nnn, ncn, nAk, nnk, nck⟩) (H.out.2.2.2.1.step ((K2.out.trans kk (fun _ _ x => x)).trans hk' (fun _ _ x => x))) (HS.out.2.2.step (kk.trans hk' (fun _ _ x => x))) (hqv'.step (kk.trans hk' (fun _ _ x => x)))
            unfold Tv.val at hcs
            simp only at hcs
            have HCS := Lib.hid hcs
            have i0 : (0 : Int) ≤ (i : Int) := by omega
            have i1 : (i : Int) < (nl : Int) := by omega
            have j0 : (0 : Int) ≤ (j : Int) := by omega
            have j1 : (j : Int) < (bnk : Int) := by omega
            clear hk hs' hq' hqv' hkz g0 g1 g2 g3 hcs
            go_upto_region 17 with fail
            clear xal xa0 xa1 xa2 xa3 xbl xb0 xb1 xb2 xb3
            have hsk : Hid (∀ w', Keep (fun _ => False) wr w' → (b1_ < w'.heap.size ∧ w'.cell? ⟨b1_, 3, none⟩ = some (.slice (some ⟨kb, ko, none⟩) bnk bck)) ∧ (lb < w'.heap.size ∧ w'.cell? ⟨lb, lo + i * 4, none⟩ = some (.int .i64 mk) ∧ w'.cell? ⟨lb, lo + i * 4 + 1, none⟩ = some (.string mnm) ∧ w'.cell? ⟨lb, lo + i * 4 + 2, none⟩ = some (.slice mAn mnn mcn) ∧ w'.cell? ⟨lb, lo + i * 4 + 3, none⟩ = some (.slice mAk mnk mck)) ∧ (kb < w'.heap.size ∧ w'.cell? ⟨kb, ko + j * 4, none⟩ = some (.int .i64 nk) ∧ w'.cell? ⟨kb, ko + j * 4 + 1, none⟩ = some (.string nnm) ∧ w'.cell? ⟨kb, ko + j * 4 + 2, none⟩ = some (.slice nAn nnn ncn) ∧ w'.cell? ⟨kb, ko + j * 4 + 3, none⟩ = some (.slice nAk nnk nck))) := fun w' hk' => by
              have k4 := kk.trans hk' (fun _ _ x => x)
              have h5 := k4.size
              obtain ⟨_, yl, _, _, _, y3⟩ := HC.out _ (K2.out.trans k4 (fun _ _ x => x))
              exact ⟨⟨yl, y3⟩, ⟨by have := HCC.out.1; omega, k4.cell HCC.out.2.1 (fun x => x), k4.cell HCC.out.2.2.1 (fun x => x), k4.cell HCC.out.2.2.2.1 (fun x => x), k4.cell HCC.out.2.2.2.2 (fun x => x)⟩, by have := HG.out.1; omega, k4.cell HG.out.2.1 (fun x => x), k4.cell HG.out.2.2.1 (fun x => x), k4.cell HG.out.2.2.2.1 (fun x => x), k4.cell HG.out.2.2.2.2 (fun x => x)⟩
            have kd3 : Hid (Keep (fun _ => False) wr wr.drew) := (Keep.refl _ _).drew
            clear kk
            cases hone : (tb.kids.take j).any (fun k => subT s k)
            · have HO := Lib.hid hone
              clear hone
              · skip
                refine wp_region_held_n (S := fun w' => (b1_ < w'.heap.size ∧ w'.cell? ⟨b1_, 3, none⟩ = some (.slice (some ⟨kb, ko, none⟩) bnk bck)) ∧ (lb < w'.heap.size ∧ w'.cell? ⟨lb, lo + i * 4, none⟩ = some (.int .i64 mk) ∧ w'.cell? ⟨lb, lo + i * 4 + 1, none⟩ = some (.string mnm) ∧ w'.cell? ⟨lb, lo + i * 4 + 2, none⟩ = some (.slice mAn mnn mcn) ∧ w'.cell? ⟨lb, lo + i * 4 + 3, none⟩ = some (.slice mAk mnk mck)) ∧ (kb < w'.heap.size ∧ w'.cell? ⟨kb, ko + j * 4, none⟩ = some (.int .i64 nk) ∧ w'.cell? ⟨kb, ko + j * 4 + 1, none⟩ = some (.string nnm) ∧ w'.cell? ⟨kb, ko + j * 4 + 2, none⟩ = some (.slice nAn nnn ncn) ∧ w'.cell? ⟨kb, ko + j * 4 + 3, none⟩ = some (.slice nAk nnk nck))) 14 rfl (by kernel_rfl) ?_ (fun hHeld => ?_)
                · exact hsk.out _ kd3.out
                refine' wpAnyH_tk (i := 0) (v := _) rfl (by kernel_rfl) (by decide +kernel) (by decide +kernel) (fun _ _ _ h => h) (Or.inl ⟨by rfl, ?_⟩) (by assumption) ?_
                rotate_left
                · (intro w hSw; (try dsimp only at hSw); (try go_simp); (try (with_reducible rfl)))
                (try simp only [Act.put, List.setIfInBounds_toArray, List.set_cons_zero, List.set_cons_succ])
                refine' wpAnyH_tk (i := 1) (v := _) rfl (by kernel_rfl) (by decide +kernel) (by decide +kernel) (fun _ _ _ h => h) (Or.inl ⟨by rfl, ?_⟩) (by assumption) ?_
                rotate_left
                · (intro w hSw; (try dsimp only at hSw); (try go_simp); (try (with_reducible rfl)))
                (try simp only [Act.put, List.setIfInBounds_toArray, List.set_cons_zero, List.set_cons_succ])
                refine' wpAnyH_tk (i := 2) (v := _) rfl (by kernel_rfl) (by decide +kernel) (by decide +kernel) (fun _ _ _ h => h) (Or.inl ⟨by rfl, ?_⟩) (by assumption) ?_
                rotate_left
                · (intro w hSw; (try dsimp only at hSw); (try go_simp); (try (with_reducible rfl)))
                (try simp only [Act.put, List.setIfInBounds_toArray, List.set_cons_zero, List.set_cons_succ])
                refine' wpAnyH_tk (i := 3) (v := _) rfl (by kernel_rfl) (by decide +kernel) (by decide +kernel) (fun _ _ _ h => h) (Or.inl ⟨by rfl, ?_⟩) (by assumption) ?_
                rotate_left
                · (intro w hSw; (try dsimp only at hSw); (try go_simp); (try (with_reducible rfl)))
                (try simp only [Act.put, List.setIfInBounds_toArray, List.set_cons_zero, List.set_cons_succ])
                refine' wpAnyH_tk (i := 4) (v := _) rfl (by kernel_rfl) (by decide +kernel) (by decide +kernel) (fun _ _ _ h => h) (Or.inl ⟨by rfl, ?_⟩) (by assumption) ?_
                rotate_left
                · (intro w hSw; (try dsimp only at hSw); (try go_simp); (try (with_reducible rfl)))
                (try simp only [Act.put, List.setIfInBounds_toArray, List.set_cons_zero, List.set_cons_succ])
                refine' wpAnyH_tk (i := 5) (v := _) rfl (by kernel_rfl) (by decide +kernel) (by decide +kernel) (fun _ _ _ h => h) (Or.inl ⟨by rfl, ?_⟩) (by assumption) ?_
                rotate_left
                · (intro w hSw; (try dsimp only at hSw); (try go_simp); (try (with_reducible rfl)))
                (try simp only [Act.put, List.setIfInBounds_toArray, List.set_cons_zero, List.set_cons_succ])
                refine' wpAnyH_tk (i := 6) (v := _) rfl (by kernel_rfl) (by decide +kernel) (by decide +kernel) (fun _ _ _ h => h) (Or.inl ⟨by rfl, ?_⟩) (by assumption) ?_
                rotate_left
                · (intro w hSw; (try dsimp only at hSw); (try go_simp); (try (with_reducible rfl)))
                (try simp only [Act.put, List.setIfInBounds_toArray, List.set_cons_zero, List.set_cons_succ])
                refine' wpAnyH_tk (i := 7) (v := _) rfl (by kernel_rfl) (by decide +kernel) (by decide +kernel) (fun _ _ _ h => h) (Or.inl ⟨by rfl, ?_⟩) (by assumption) ?_
                rotate_left
                · (intro w hSw; (try dsimp only at hSw); (try go_simp); (try (with_reducible rfl)))
                (try simp only [Act.put, List.setIfInBounds_toArray, List.set_cons_zero, List.set_cons_succ])
                refine' wpAnyH_tk (i := 8) (v := _) rfl (by kernel_rfl) (by decide +kernel) (by decide +kernel) (fun _ _ _ h => h) (Or.inl ⟨by rfl, ?_⟩) (by assumption) ?_
                rotate_left
                · (intro w hSw; (try dsimp only at hSw); (try go_simp); (try (with_reducible rfl)))
                (try simp only [Act.put, List.setIfInBounds_toArray, List.set_cons_zero, List.set_cons_succ])
                refine' wpAnyH_tk (i := 9) (v := _) rfl (by kernel_rfl) (by decide +kernel) (by decide +kernel) (fun _ _ _ h => h) (Or.inl ⟨by rfl, ?_⟩) (by assumption) ?_
                rotate_left
                · (intro w hSw; (try dsimp only at hSw); (try go_simp); (try (with_reducible rfl)))
                (try simp only [Act.put, List.setIfInBounds_toArray, List.set_cons_zero, List.set_cons_succ])
                refine' wpAnyH_tk (i := 10) (v := _) rfl (by kernel_rfl) (by decide +kernel) (by decide +kernel) (fun _ _ _ h => h) (Or.inl ⟨by rfl, ?_⟩) (by assumption) ?_
                rotate_left
                · (intro w hSw; (try dsimp only at hSw); (try go_simp); (try (with_reducible rfl)))
                (try simp only [Act.put, List.setIfInBounds_toArray, List.set_cons_zero, List.set_cons_succ])
                refine wpAnyH_ready (rs := [11]) (by decide +kernel) (by simp) ?_
                refine AllReadyH_one rfl (fun K hK => ?_)
                go_simp
                go_at_call 16
                refine (HCS.out _ kd3.out).mono ?_
                rintro e w4 ⟨rfl, hk4⟩
                have KA := Lib.hid (kd3.out.trans hk4 (fun _ _ x => x))
                clear hk4
                refine hK.out _ _ ?_ (fun hHeld => ?_)
                · exact hsk.out _ KA.out
                clear hK K
                (try simp only [Act.put, List.setIfInBounds_toArray, List.set_cons_zero, List.set_cons_succ])
                refine' wpAnyH_tk (i := 12) (v := _) rfl (by kernel_rfl) (by decide +kernel) (by decide +kernel) (fun _ _ _ h => h) (Or.inl ⟨by rfl, ?_⟩) (by assumption) ?_
                rotate_left
                · (intro w hSw; (try dsimp only at hSw); (try go_simp); (try (with_reducible rfl)))
                (try simp only [Act.put, List.setIfInBounds_toArray, List.set_cons_zero, List.set_cons_succ])
                refine' wpAnyH_tk (i := 13) (v := _) rfl (by kernel_rfl) (by decide +kernel) (by decide +kernel) (fun _ _ _ h => h) (Or.inl ⟨by rfl, ?_⟩) (by assumption) ?_
                rotate_left
                · (intro w hSw; (try dsimp only at hSw); (try go_simp); (try (with_reducible rfl)))
                (try simp only [Act.put, List.setIfInBounds_toArray, List.set_cons_zero, List.set_cons_succ])
                refine wpAnyH_done (by decide +kernel) ?_ _
                go_wp2_with fail
                go_roundg (bnk - (j + 1))
                case measure => omega
                case rel => exact ⟨j + 1, by rw [any_take HJ.out.2.1, HO.out]; rfl, by go_num, by omega, rfl, HJ.out.1.trans KA.out (fun _ _ x => x)⟩
            · have HO := Lib.hid hone
              clear hone
              · skip
                refine wp_region_held_n (S := fun w' => (b1_ < w'.heap.size ∧ w'.cell? ⟨b1_, 3, none⟩ = some (.slice (some ⟨kb, ko, none⟩) bnk bck)) ∧ (lb < w'.heap.size ∧ w'.cell? ⟨lb, lo + i * 4, none⟩ = some (.int .i64 mk) ∧ w'.cell? ⟨lb, lo + i * 4 + 1, none⟩ = some (.string mnm) ∧ w'.cell? ⟨lb, lo + i * 4 + 2, none⟩ = some (.slice mAn mnn mcn) ∧ w'.cell? ⟨lb, lo + i * 4 + 3, none⟩ = some (.slice mAk mnk mck)) ∧ (kb < w'.heap.size ∧ w'.cell? ⟨kb, ko + j * 4, none⟩ = some (.int .i64 nk) ∧ w'.cell? ⟨kb, ko + j * 4 + 1, none⟩ = some (.string nnm) ∧ w'.cell? ⟨kb, ko + j * 4 + 2, none⟩ = some (.slice nAn nnn ncn) ∧ w'.cell? ⟨kb, ko + j * 4 + 3, none⟩ = some (.slice nAk nnk nck))) 14 rfl (by kernel_rfl) ?_ (fun hHeld => ?_)
                · exact hsk.out _ kd3.out
                refine' wpAnyH_tk (i := 0) (v := _) rfl (by kernel_rfl) (by decide +kernel) (by decide +kernel) (fun _ _ _ h => h) (Or.inl ⟨by rfl, ?_⟩) (by assumption) ?_
                rotate_left
                · (intro w hSw; (try dsimp only at hSw); (try go_simp); (try (with_reducible rfl)))
                (try simp only [Act.put, List.setIfInBounds_toArray, List.set_cons_zero, List.set_cons_succ])
                refine' wpAnyH_tk (i := 1) (v := _) rfl (by kernel_rfl) (by decide +kernel) (by decide +kernel) (fun _ _ _ h => h) (Or.inl ⟨by rfl, ?_⟩) (by assumption) ?_
                rotate_left
                · (intro w hSw; (try dsimp only at hSw); (try go_simp); (try (with_reducible rfl)))
                (try simp only [Act.put, List.setIfInBounds_toArray, List.set_cons_zero, List.set_cons_succ])
                refine wpAnyH_tk (i := 2) (v := undef) rfl (by kernel_rfl) (by decide +kernel) (by decide +kernel) (fun _ _ _ h => h) (Or.inr ⟨by rfl, rfl⟩) (by assumption) ?_
                (try simp only [Act.put, List.setIfInBounds_toArray, List.set_cons_zero, List.set_cons_succ])
                refine wpAnyH_tk (i := 3) (v := undef) rfl (by kernel_rfl) (by decide +kernel) (by decide +kernel) (fun _ _ _ h => h) (Or.inr ⟨by rfl, rfl⟩) (by assumption) ?_
                (try simp only [Act.put, List.setIfInBounds_toArray, List.set_cons_zero, List.set_cons_succ])
                refine wpAnyH_tk (i := 4) (v := undef) rfl (by kernel_rfl) (by decide +kernel) (by decide +kernel) (fun _ _ _ h => h) (Or.inr ⟨by rfl, rfl⟩) (by assumption) ?_
                (try simp only [Act.put, List.setIfInBounds_toArray, List.set_cons_zero, List.set_cons_succ])
                refine wpAnyH_tk (i := 5) (v := undef) rfl (by kernel_rfl) (by decide +kernel) (by decide +kernel) (fun _ _ _ h => h) (Or.inr ⟨by rfl, rfl⟩) (by assumption) ?_
                (try simp only [Act.put, List.setIfInBounds_toArray, List.set_cons_zero, List.set_cons_succ])
                refine wpAnyH_tk (i := 6) (v := undef) rfl (by kernel_rfl) (by decide +kernel) (by decide +kernel) (fun _ _ _ h => h) (Or.inr ⟨by rfl, rfl⟩) (by assumption) ?_
                (try simp only [Act.put, List.setIfInBounds_toArray, List.set_cons_zero, List.set_cons_succ])
                refine wpAnyH_tk (i := 7) (v := undef) rfl (by kernel_rfl) (by decide +kernel) (by decide +kernel) (fun _ _ _ h => h) (Or.inr ⟨by rfl, rfl⟩) (by assumption) ?_
                (try simp only [Act.put, List.setIfInBounds_toArray, List.set_cons_zero, List.set_cons_succ])
                refine wpAnyH_tk (i := 8) (v := undef) rfl (by kernel_rfl) (by decide +kernel) (by decide +kernel) (fun _ _ _ h => h) (Or.inr ⟨by rfl, rfl⟩) (by assumption) ?_
                (try simp only [Act.put, List.setIfInBounds_toArray, List.set_cons_zero, List.set_cons_succ])
                refine wpAnyH_tk (i := 9) (v := undef) rfl (by kernel_rfl) (by decide +kernel) (by decide +kernel) (fun _ _ _ h => h) (Or.inr ⟨by rfl, rfl⟩) (by assumption) ?_
                (try simp only [Act.put, List.setIfInBounds_toArray, List.set_cons_zero, List.set_cons_succ])
                refine wpAnyH_tk (i := 10) (v := undef) rfl (by kernel_rfl) (by decide +kernel) (by decide +kernel) (fun _ _ _ h => h) (Or.inr ⟨by rfl, rfl⟩) (by assumption) ?_
                (try simp only [Act.put, List.setIfInBounds_toArray, List.set_cons_zero, List.set_cons_succ])
                refine wpAnyH_tk (i := 11) (v := undef) rfl (by kernel_rfl) (by decide +kernel) (by decide +kernel) (fun _ _ _ h => h) (Or.inr ⟨by rfl, rfl⟩) (by assumption) ?_
                (try simp only [Act.put, List.setIfInBounds_toArray, List.set_cons_zero, List.set_cons_succ])
                refine' wpAnyH_tk (i := 12) (v := _) rfl (by kernel_rfl) (by decide +kernel) (by decide +kernel) (fun _ _ _ h => h) (Or.inl ⟨by rfl, ?_⟩) (by assumption) ?_
                rotate_left
                · (intro w hSw; (try dsimp only at hSw); (try go_simp); (try (with_reducible rfl)))
                (try simp only [Act.put, List.setIfInBounds_toArray, List.set_cons_zero, List.set_cons_succ])
                refine' wpAnyH_tk (i := 13) (v := _) rfl (by kernel_rfl) (by decide +kernel) (by decide +kernel) (fun _ _ _ h => h) (Or.inl ⟨by rfl, ?_⟩) (by assumption) ?_
                rotate_left
                · (intro w hSw; (try dsimp only at hSw); (try go_simp); (try (with_reducible rfl)))
                (try simp only [Act.put, List.setIfInBounds_toArray, List.set_cons_zero, List.set_cons_succ])
                refine wpAnyH_done (by decide +kernel) ?_ _
                go_wp2_with fail
                go_roundg (bnk - (j + 1))
                case measure => omega
                case rel => exact ⟨j + 1, by rw [any_take HJ.out.2.1, HO.out]; rfl, by go_num, by omega, rfl, HJ.out.1.trans kd3.out (fun _ _ x => x)⟩
          · obtain rfl : j = bnk := by omega
            have het : tb.kids.take j = tb.kids := List.take_of_length_le (by have := HL.out.2.2.2.2.2; omega)
            rw [het]
            have HJ := Lib.hid kk
            clear hk kk het
            cases hal : ((atoms ta).take i).all (fun i => tb.kids.any fun k => subT i k)
            all_goals (
              have HA := Lib.hid hal
              clear hal
              go_wp2_with fail
              go_roundg (nl - (i + 1))
              case measure => omega
              case rel => exact ⟨i + 1, by rw [all_take HS.out.2.1, HA.out]; rfl, by go_num, by omega, rfl, HJ.out⟩)
      · obtain rfl : i = nl := by omega
        have het : (atoms ta).take i = atoms ta := List.take_of_length_le (by have := HL.out.2.2.2.2.1; omega)
        rw [het, ← HUL.out]
        have KC : Hid (Keep (fun _ => False) w1 wr) := K2.out.trans hk (fun _ _ x => x)
        obtain ⟨⟨xal, xa0, xa1, xa2, xa3⟩, ⟨xbl, xb0, xb1, xb2, xb3⟩⟩ := HC.out _ KC.out
        clear hk het
        go_wp2_with (go_at_call_of 16 (Value.agg #[Value.int IntKind.i64 ak, Value.string anm, Value.slice aAn ann acn, Value.slice aAk ank ack]); (with_reducible refine (HSu.out _ KC.out).mono ?_); rintro e w2 ⟨rfl, hk⟩; have KN := Lib.hid (KC.out.trans hk (fun _ _ x => x)); clear KC hk xal xa0 xa1 xa2 xa3 xbl xb0 xb1 xb2 xb3; have KC := KN; clear KN; obtain ⟨⟨xal, xa0, xa1, xa2, xa3⟩, ⟨xbl, xb0, xb1, xb2, xb3⟩⟩ := HC.out _ KC.out)
        go_ret
        exact ⟨ret_bool (by simp), H.out.1.trans KC.out (fun _ _ x => x)⟩
  · have d7 : (ak == 7) = false := by rw [beq_eq_false_iff_ne]; exact h7
    have H7 := Lib.hid h7
    clear h7
    go_upto_region 9 with fail
    rw [← HSL.out.2 H7.out]
    clear d7 d0
    go_wp2_with fail
    clear xal xa0 xa1 xa2 xa3 xbl xb0 xb1 xb2 xb3
    go_loopg [9, 10] nl (OuA W2 (fun i => tb.kids.any fun k => subT i k) (atoms ta) nl)
    case atStart => exact h0.out
    case round =>
      clear h0
      obtain ⟨i, rfl, rfl, hi, rfl, hk⟩ := hrel
      by_cases hlt : i < nl
      · obtain ⟨s, hs⟩ : ∃ s, (atoms ta)[i]? = some s := ⟨_, List.getElem?_eq_getElem (by have := HL.out.2.2.2.2.1; omega)⟩
        obtain ⟨⟨mk, mnm, mAn, mnn, mcn, mAk, mnk, mck⟩, hq, hqv⟩ := HL.out.2.1.at_ hs
        obtain ⟨lb, lo, rfl, hlz, _, c0, c1, c2, c3⟩ := HL.out.1.tcells hlt hq
        simp only at c0 c1 c2 c3
        have HS := Lib.hid (And.intro hk (And.intro hs hqv))
        have HCC := Lib.hid (And.intro hlz (And.intro c0 (And.intro c1 (And.intro c2 c3))))
        have h1 : Hid (InA wr (fun k => subT s k) tb.kids bnk bnk (.bool false) (.int .i64 0) wr) := ⟨0, by simp, rfl, Nat.zero_le _, by omega, Keep.refl _ _⟩
        obtain ⟨⟨xal, xa0, xa1, xa2, xa3⟩, ⟨xbl, xb0, xb1, xb2, xb3⟩⟩ := HC.out _ (K2.out.trans hk (fun _ _ x => x))
        clear hk hs hq hqv hlz c0 c1 c2 c3
        go_wp2_with fail
        clear xal xa0 xa1 xa2 xa3 xbl xb0 xb1 xb2 xb3
        obtain ⟨wo, rfl⟩ : ∃ wo : World, wo = wr := ⟨_, rfl⟩
        go_loopg [11, 12] bnk (InA wo (fun k => subT s k) tb.kids bnk)
        case atStart => exact h1.out
        case round =>
          clear h1
          obtain ⟨j, rfl, rfl, hj, rfl, hk⟩ := hrel
          have kk := HS.out.1.trans hk (fun _ _ x => x)
          obtain ⟨⟨xal, xa0, xa1, xa2, xa3⟩, ⟨xbl, xb0, xb1, xb2, xb3⟩⟩ := HC.out _ (K2.out.trans kk (fun _ _ x => x))
          by_cases hjt : j < bnk
          · obtain ⟨s', hs'⟩ : ∃ s', tb.kids[j]? = some s' := ⟨_, List.getElem?_eq_getElem (by have := HL.out.2.2.2.2.2; omega)⟩
            obtain ⟨⟨nk, nnm, nAn, nnn, ncn, nAk, nnk, nck⟩, hq', hqv'⟩ := HL.out.2.2.2.1.at_ hs'
            obtain ⟨kb, ko, rfl, hkz, _, g0, g1, g2, g3⟩ := HL.out.2.2.1.tcells hjt hq'
            simp only at g0 g1 g2 g3
            have HG := Lib.hid (And.intro hkz (And.intro g0 (And.intro g1 (And.intro g2 g3))))
            have HJ := Lib.hid (And.intro hk (And.intro hs' kk))
            have hcs := fun w' (hk' : Keep (fun _ => False) wr w') => rsub_any (r := ⟨mk, mnm, mAn, mnn, mcn, mAk, mnk, mck⟩) (r' := ⟨nk, nnm, nAn, nnn, ncn, nAk, nnk, nck⟩) (H.out.2.2.2.1.step ((K2.out.trans kk (fun _ _ x => x)).trans hk' (fun _ _ x => x))) (HS.out.2.2.step (kk.trans hk' (fun _ _ x => x))) (hqv'.step (kk.trans hk' (fun _ _ x => x)))
            unfold Tv.val at hcs
            simp only at hcs
            have HCS := Lib.hid hcs
            have i0 : (0 : Int) ≤ (i : Int) := by omega
            have i1 : (i : Int) < (nl : Int) := by omega
            have j0 : (0 : Int) ≤ (j : Int) := by omega
            have j1 : (j : Int) < (bnk : Int) := by omega
            clear hk hs' hq' hqv' hkz g0 g1 g2 g3 hcs
            go_upto_region 17 with fail
            clear xal xa0 xa1 xa2 xa3 xbl xb0 xb1 xb2 xb3
            have hsk : Hid (∀ w', Keep (fun _ => False) wr w' → (b1_ < w'.heap.size ∧ w'.cell? ⟨b1_, 3, none⟩ = some (.slice (some ⟨kb, ko, none⟩) bnk bck)) ∧ (lb < w'.heap.size ∧ w'.cell? ⟨lb, lo + i * 4, none⟩ = some (.int .i64 mk) ∧ w'.cell? ⟨lb, lo + i * 4 + 1, none⟩ = some (.string mnm) ∧ w'.cell? ⟨lb, lo + i * 4 + 2, none⟩ = some (.slice mAn mnn mcn) ∧ w'.cell? ⟨lb, lo + i * 4 + 3, none⟩ = some (.slice mAk mnk mck)) ∧ (kb < w'.heap.size ∧ w'.cell? ⟨kb, ko + j * 4, none⟩ = some (.int .i64 nk) ∧ w'.cell? ⟨kb, ko + j * 4 + 1, none⟩ = some (.string nnm) ∧ w'.cell? ⟨kb, ko + j * 4 + 2, none⟩ = some (.slice nAn nnn ncn) ∧ w'.cell? ⟨kb, ko + j * 4 + 3, none⟩ = some (.slice nAk nnk nck))) := fun w' hk' => by
              have k4 := kk.trans hk' (fun _ _ x => x)
              have h5 := k4.size
              obtain ⟨_, yl, _, _, _, y3⟩ := HC.out _ (K2.out.trans k4 (fun _ _ x => x))
              exact ⟨⟨yl, y3⟩, ⟨by have := HCC.out.1; omega, k4.cell HCC.out.2.1 (fun x => x), k4.cell HCC.out.2.2.1 (fun x => x), k4.cell HCC.out.2.2.2.1 (fun x => x), k4.cell HCC.out.2.2.2.2 (fun x => x)⟩, by have := HG.out.1; omega, k4.cell HG.out.2.1 (fun x => x), k4.cell HG.out.2.2.1 (fun x => x), k4.cell HG.out.2.2.2.1 (fun x => x), k4.cell HG.out.2.2.2.2 (fun x => x)⟩
            have kd3 : Hid (Keep (fun _ => False) wr wr.drew) := (Keep.refl _ _).drew
            clear kk
            cases hone : (tb.kids.take j).any (fun k => subT s k)
            · have HO := Lib.hid hone
              clear hone
              · skip
                refine wp_region_held_n (S := fun w' => (b1_ < w'.heap.size ∧ w'.cell? ⟨b1_, 3, none⟩ = some (.slice (some ⟨kb, ko, none⟩) bnk bck)) ∧ (lb < w'.heap.size ∧ w'.cell? ⟨lb, lo + i * 4, none⟩ = some (.int .i64 mk) ∧ w'.cell? ⟨lb, lo + i * 4 + 1, none⟩ = some (.string mnm) ∧ w'.cell? ⟨lb, lo + i * 4 + 2, none⟩ = some (.slice mAn mnn mcn) ∧ w'.cell? ⟨lb, lo + i * 4 + 3, none⟩ = some (.slice mAk mnk mck)) ∧ (kb < w'.heap.size ∧ w'.cell? ⟨kb, ko + j * 4, none⟩ = some (.int .i64 nk) ∧ w'.cell? ⟨kb, ko + j * 4 + 1, none⟩ = some (.string nnm) ∧ w'.cell? ⟨kb, ko + j * 4 + 2, none⟩ = some (.slice nAn nnn ncn) ∧ w'.cell? ⟨kb, ko + j * 4 + 3, none⟩ = some (.slice nAk nnk nck))) 14 rfl (by kernel_rfl) ?_ (fun hHeld => ?_)
                · exact hsk.out _ kd3.out
                refine' wpAnyH_tk (i := 0) (v := _) rfl (by kernel_rfl) (by decide +kernel) (by decide +kernel) (fun _ _ _ h => h) (Or.inl ⟨by rfl, ?_⟩) (by assumption) ?_
                rotate_left
                · (intro w hSw; (try dsimp only at hSw); (try go_simp); (try (with_reducible rfl)))
                (try simp only [Act.put, List.setIfInBounds_toArray, List.set_cons_zero, List.set_cons_succ])
                refine' wpAnyH_tk (i := 1) (v := _) rfl (by kernel_rfl) (by decide +kernel) (by decide +kernel) (fun _ _ _ h => h) (Or.inl ⟨by rfl, ?_⟩) (by assumption) ?_
                rotate_left
                · (intro w hSw; (try dsimp only at hSw); (try go_simp); (try (with_reducible rfl)))
                (try simp only [Act.put, List.setIfInBounds_toArray, List.set_cons_zero, List.set_cons_succ])
                refine' wpAnyH_tk (i := 2) (v := _) rfl (by kernel_rfl) (by decide +kernel) (by decide +kernel) (fun _ _ _ h => h) (Or.inl ⟨by rfl, ?_⟩) (by assumption) ?_
                rotate_left
                · (intro w hSw; (try dsimp only at hSw); (try go_simp); (try (with_reducible rfl)))
                (try simp only [Act.put, List.setIfInBounds_toArray, List.set_cons_zero, List.set_cons_succ])
                refine' wpAnyH_tk (i := 3) (v := _) rfl (by kernel_rfl) (by decide +kernel) (by decide +kernel) (fun _ _ _ h => h) (Or.inl ⟨by rfl, ?_⟩) (by assumption) ?_
                rotate_left
                · (intro w hSw; (try dsimp only at hSw); (try go_simp); (try (with_reducible rfl)))
                (try simp only [Act.put, List.setIfInBounds_toArray, List.set_cons_zero, List.set_cons_succ])
                refine' wpAnyH_tk (i := 4) (v := _) rfl (by kernel_rfl) (by decide +kernel) (by decide +kernel) (fun _ _ _ h => h) (Or.inl ⟨by rfl, ?_⟩) (by assumption) ?_
                rotate_left
                · (intro w hSw; (try dsimp only at hSw); (try go_simp); (try (with_reducible rfl)))
                (try simp only [Act.put, List.setIfInBounds_toArray, List.set_cons_zero, List.set_cons_succ])
                refine' wpAnyH_tk (i := 5) (v := _) rfl (by kernel_rfl) (by decide +kernel) (by decide +kernel) (fun _ _ _ h => h) (Or.inl ⟨by rfl, ?_⟩) (by assumption) ?_
                rotate_left
                · (intro w hSw; (try dsimp only at hSw); (try go_simp); (try (with_reducible rfl)))
                (try simp only [Act.put, List.setIfInBounds_toArray, List.set_cons_zero, List.set_cons_succ])
                refine' wpAnyH_tk (i := 6) (v := _) rfl (by kernel_rfl) (by decide +kernel) (by decide +kernel) (fun _ _ _ h => h) (Or.inl ⟨by rfl, ?_⟩) (by assumption) ?_
                rotate_left
                · (intro w hSw; (try dsimp only at hSw); (try go_simp); (try (with_reducible rfl)))
                (try simp only [Act.put, List.setIfInBounds_toArray, List.set_cons_zero, List.set_cons_succ])
                refine' wpAnyH_tk (i := 7) (v := _) rfl (by kernel_rfl) (by decide +kernel) (by decide +kernel) (fun _ _ _ h => h) (Or.inl ⟨by rfl, ?_⟩) (by assumption) ?_
                rotate_left
                · (intro w hSw; (try dsimp only at hSw); (try go_simp); (try (with_reducible rfl)))
                (try simp only [Act.put, List.setIfInBounds_toArray, List.set_cons_zero, List.set_cons_succ])
                refine' wpAnyH_tk (i := 8) (v := _) rfl (by kernel_rfl) (by decide +kernel) (by decide +kernel) (fun _ _ _ h => h) (Or.inl ⟨by rfl, ?_⟩) (by assumption) ?_
                rotate_left
                · (intro w hSw; (try dsimp only at hSw); (try go_simp); (try (with_reducible rfl)))
                (try simp only [Act.put, List.setIfInBounds_toArray, List.set_cons_zero, List.set_cons_succ])
                refine' wpAnyH_tk (i := 9) (v := _) rfl (by kernel_rfl) (by decide +kernel) (by decide +kernel) (fun _ _ _ h => h) (Or.inl ⟨by rfl, ?_⟩) (by assumption) ?_
                rotate_left
                · (intro w hSw; (try dsimp only at hSw); (try go_simp); (try (with_reducible rfl)))
                (try simp only [Act.put, List.setIfInBounds_toArray, List.set_cons_zero, List.set_cons_succ])
                refine' wpAnyH_tk (i := 10) (v := _) rfl (by kernel_rfl) (by decide +kernel) (by decide +kernel) (fun _ _ _ h => h) (Or.inl ⟨by rfl, ?_⟩) (by assumption) ?_
                rotate_left
                · (intro w hSw; (try dsimp only at hSw); (try go_simp); (try (with_reducible rfl)))
                (try simp only [Act.put, List.setIfInBounds_toArray, List.set_cons_zero, List.set_cons_succ])
                refine wpAnyH_ready (rs := [11]) (by decide +kernel) (by simp) ?_
                refine AllReadyH_one rfl (fun K hK => ?_)
                go_simp
                go_at_call 16
                refine (HCS.out _ kd3.out).mono ?_
                rintro e w4 ⟨rfl, hk4⟩
                have KA := Lib.hid (kd3.out.trans hk4 (fun _ _ x => x))
                clear hk4
                refine hK.out _ _ ?_ (fun hHeld => ?_)
                · exact hsk.out _ KA.out
                clear hK K
                (try simp only [Act.put, List.setIfInBounds_toArray, List.set_cons_zero, List.set_cons_succ])
                refine' wpAnyH_tk (i := 12) (v := _) rfl (by kernel_rfl) (by decide +kernel) (by decide +kernel) (fun _ _ _ h => h) (Or.inl ⟨by rfl, ?_⟩) (by assumption) ?_
                rotate_left
                · (intro w hSw; (try dsimp only at hSw); (try go_simp); (try (with_reducible rfl)))
                (try simp only [Act.put, List.setIfInBounds_toArray, List.set_cons_zero, List.set_cons_succ])
                refine' wpAnyH_tk (i := 13) (v := _) rfl (by kernel_rfl) (by decide +kernel) (by decide +kernel) (fun _ _ _ h => h) (Or.inl ⟨by rfl, ?_⟩) (by assumption) ?_
                rotate_left
                · (intro w hSw; (try dsimp only at hSw); (try go_simp); (try (with_reducible rfl)))
                (try simp only [Act.put, List.setIfInBounds_toArray, List.set_cons_zero, List.set_cons_succ])
                refine wpAnyH_done (by decide +kernel) ?_ _
                go_wp2_with fail
                go_roundg (bnk - (j + 1))
                case measure => omega
                case rel => exact ⟨j + 1, by rw [any_take HJ.out.2.1, HO.out]; rfl, by go_num, by omega, rfl, HJ.out.1.trans KA.out (fun _ _ x => x)⟩
            · have HO := Lib.hid hone
              clear hone
              · skip
                refine wp_region_held_n (S := fun w' => (b1_ < w'.heap.size ∧ w'.cell? ⟨b1_, 3, none⟩ = some (.slice (some ⟨kb, ko, none⟩) bnk bck)) ∧ (lb < w'.heap.size ∧ w'.cell? ⟨lb, lo + i * 4, none⟩ = some (.int .i64 mk) ∧ w'.cell? ⟨lb, lo + i * 4 + 1, none⟩ = some (.string mnm) ∧ w'.cell? ⟨lb, lo + i * 4 + 2, none⟩ = some (.slice mAn mnn mcn) ∧ w'.cell? ⟨lb, lo + i * 4 + 3, none⟩ = some (.slice mAk mnk mck)) ∧ (kb < w'.heap.size ∧ w'.cell? ⟨kb, ko + j * 4, none⟩ = some (.int .i64 nk) ∧ w'.cell? ⟨kb, ko + j * 4 + 1, none⟩ = some (.string nnm) ∧ w'.cell? ⟨kb, ko + j * 4 + 2, none⟩ = some (.slice nAn nnn ncn) ∧ w'.cell? ⟨kb, ko + j * 4 + 3, none⟩ = some (.slice nAk nnk nck))) 14 rfl (by kernel_rfl) ?_ (fun hHeld => ?_)
                · exact hsk.out _ kd3.out
                refine' wpAnyH_tk (i := 0) (v := _) rfl (by kernel_rfl) (by decide +kernel) (by decide +kernel) (fun _ _ _ h => h) (Or.inl ⟨by rfl, ?_⟩) (by assumption) ?_
                rotate_left
                · (intro w hSw; (try dsimp only at hSw); (try go_simp); (try (with_reducible rfl)))
                (try simp only [Act.put, List.setIfInBounds_toArray, List.set_cons_zero, List.set_cons_succ])
                refine' wpAnyH_tk (i := 1) (v := _) rfl (by kernel_rfl) (by decide +kernel) (by decide +kernel) (fun _ _ _ h => h) (Or.inl ⟨by rfl, ?_⟩) (by assumption) ?_
                rotate_left
                · (intro w hSw; (try dsimp only at hSw); (try go_simp); (try (with_reducible rfl)))
                (try simp only [Act.put, List.setIfInBounds_toArray, List.set_cons_zero, List.set_cons_succ])
                refine wpAnyH_tk (i := 2) (v := undef) rfl (by kernel_rfl) (by decide +kernel) (by decide +kernel) (fun _ _ _ h => h) (Or.inr ⟨by rfl, rfl⟩) (by assumption) ?_
                (try simp only [Act.put, List.setIfInBounds_toArray, List.set_cons_zero, List.set_cons_succ])
                refine wpAnyH_tk (i := 3) (v := undef) rfl (by kernel_rfl) (by decide +kernel) (by decide +kernel) (fun _ _ _ h => h) (Or.inr ⟨by rfl, rfl⟩) (by assumption) ?_
                (try simp only [Act.put, List.setIfInBounds_toArray, List.set_cons_zero, List.set_cons_succ])
                refine wpAnyH_tk (i := 4) (v := undef) rfl (by kernel_rfl) (by decide +kernel) (by decide +kernel) (fun _ _ _ h => h) (Or.inr ⟨by rfl, rfl⟩) (by assumption) ?_
                (try simp only [Act.put, List.setIfInBounds_toArray, List.set_cons_zero, List.set_cons_succ])
                refine wpAnyH_tk (i := 5) (v := undef) rfl (by kernel_rfl) (by decide +kernel) (by decide +kernel) (fun _ _ _ h => h) (Or.inr ⟨by rfl, rfl⟩) (by assumption) ?_
                (try simp only [Act.put, List.setIfInBounds_toArray, List.set_cons_zero, List.set_cons_succ])
                refine wpAnyH_tk (i := 6) (v := undef) rfl (by kernel_rfl) (by decide +kernel) (by decide +kernel) (fun _ _ _ h => h) (Or.inr ⟨by rfl, rfl⟩) (by assumption) ?_
                (try simp only [Act.put, List.setIfInBounds_toArray, List.set_cons_zero, List.set_cons_succ])
                refine wpAnyH_tk (i := 7) (v := undef) rfl (by kernel_rfl) (by decide +kernel) (by decide +kernel) (fun _ _ _ h => h) (Or.inr ⟨by rfl, rfl⟩) (by assumption) ?_
                (try simp only [Act.put, List.setIfInBounds_toArray, List.set_cons_zero, List.set_cons_succ])
                refine wpAnyH_tk (i := 8) (v := undef) rfl (by kernel_rfl) (by decide +kernel) (by decide +kernel) (fun _ _ _ h => h) (Or.inr ⟨by rfl, rfl⟩) (by assumption) ?_
                (try simp only [Act.put, List.setIfInBounds_toArray, List.set_cons_zero, List.set_cons_succ])
                refine wpAnyH_tk (i := 9) (v := undef) rfl (by kernel_rfl) (by decide +kernel) (by decide +kernel) (fun _ _ _ h => h) (Or.inr ⟨by rfl, rfl⟩) (by assumption) ?_
                (try simp only [Act.put, List.setIfInBounds_toArray, List.set_cons_zero, List.set_cons_succ])
                refine wpAnyH_tk (i := 10) (v := undef) rfl (by kernel_rfl) (by decide +kernel) (by decide +kernel) (fun _ _ _ h => h) (Or.inr ⟨by rfl, rfl⟩) (by assumption) ?_
                (try simp only [Act.put, List.setIfInBounds_toArray, List.set_cons_zero, List.set_cons_succ])
                refine wpAnyH_tk (i := 11) (v := undef) rfl (by kernel_rfl) (by decide +kernel) (by decide +kernel) (fun _ _ _ h => h) (Or.inr ⟨by rfl, rfl⟩) (by assumption) ?_
                (try simp only [Act.put, List.setIfInBounds_toArray, List.set_cons_zero, List.set_cons_succ])
                refine' wpAnyH_tk (i := 12) (v := _) rfl (by kernel_rfl) (by decide +kernel) (by decide +kernel) (fun _ _ _ h => h) (Or.inl ⟨by rfl, ?_⟩) (by assumption) ?_
                rotate_left
                · (intro w hSw; (try dsimp only at hSw); (try go_simp); (try (with_reducible rfl)))
                (try simp only [Act.put, List.setIfInBounds_toArray, List.set_cons_zero, List.set_cons_succ])
                refine' wpAnyH_tk (i := 13) (v := _) rfl (by kernel_rfl) (by decide +kernel) (by decide +kernel) (fun _ _ _ h => h) (Or.inl ⟨by rfl, ?_⟩) (by assumption) ?_
                rotate_left
                · (intro w hSw; (try dsimp only at hSw); (try go_simp); (try (with_reducible rfl)))
                (try simp only [Act.put, List.setIfInBounds_toArray, List.set_cons_zero, List.set_cons_succ])
                refine wpAnyH_done (by decide +kernel) ?_ _
                go_wp2_with fail
                go_roundg (bnk - (j + 1))
                case measure => omega
                case rel => exact ⟨j + 1, by rw [any_take HJ.out.2.1, HO.out]; rfl, by go_num, by omega, rfl, HJ.out.1.trans kd3.out (fun _ _ x => x)⟩
          · obtain rfl : j = bnk := by omega
            have het : tb.kids.take j = tb.kids := List.take_of_length_le (by have := HL.out.2.2.2.2.2; omega)
            rw [het]
            have HJ := Lib.hid kk
            clear hk kk het
            cases hal : ((atoms ta).take i).all (fun i => tb.kids.any fun k => subT i k)
            all_goals (
              have HA := Lib.hid hal
              clear hal
              go_wp2_with fail
              go_roundg (nl - (i + 1))
              case measure => omega
              case rel => exact ⟨i + 1, by rw [all_take HS.out.2.1, HA.out]; rfl, by go_num, by omega, rfl, HJ.out⟩)
      · obtain rfl : i = nl := by omega
        have het : (atoms ta).take i = atoms ta := List.take_of_length_le (by have := HL.out.2.2.2.2.1; omega)
        rw [het, ← HUL.out]
        have KC : Hid (Keep (fun _ => False) w1 wr) := K2.out.trans hk (fun _ _ x => x)
        obtain ⟨⟨xal, xa0, xa1, xa2, xa3⟩, ⟨xbl, xb0, xb1, xb2, xb3⟩⟩ := HC.out _ KC.out
        clear hk het
        go_wp2_with (go_at_call_of 16 (Value.agg #[Value.int IntKind.i64 ak, Value.string anm, Value.slice aAn ann acn, Value.slice aAk ank ack]); (with_reducible refine (HSu.out _ KC.out).mono ?_); rintro e w2 ⟨rfl, hk⟩; have KN := Lib.hid (KC.out.trans hk (fun _ _ x => x)); clear KC hk xal xa0 xa1 xa2 xa3 xbl xb0 xb1 xb2 xb3; have KC := KN; clear KN; obtain ⟨⟨xal, xa0, xa1, xa2, xa3⟩, ⟨xbl, xb0, xb1, xb2, xb3⟩⟩ := HC.out _ KC.out)
        go_ret
        exact ⟨ret_bool (by simp), H.out.1.trans KC.out (fun _ _ x => x)⟩
end Go.Proofs.YtbanpohholnkaaaDoor
