/-
  Walk: rel.Join of whatever two types. Conditions: the table strings.asciiSpace lies as the program lays it.
-/
import Derived.Test.YtbanpohholnkaaaDoorWSub
import Derived.Test.YtbanpohholnkaaaDoorWStat
import Derived.Test.YtbanpohholnkaaaDoorWTwoX
namespace Go.Proofs.YtbanpohholnkaaaDoor
open Go.RowKit

theorem UnR.step {w w2 wr wr' : World} {X : Nat → Prop} {l : List Ty} {tb : Nat} {lv : Value} {rs : List Tv} (h : UnR w w2 wr X l tb lv rs) (k : Keep (fun _ => False) wr wr') : UnR w w2 wr' X l tb lv rs :=
  ⟨h.keep.trans k (fun _ _ x => x.elim), k.at_ h.box (fun x => x), k.own h.own (fun _ _ x => x), h.tys, h.new⟩
def JoA (X0 : Nat → Prop) (wc w2 : World) (a b : Ty) (tb : Nat) (k : Nat) (v : Value) (wr : World) : Prop :=
  ∃ (i : Nat) (lv : Value) (rs : List Tv) (l : List Ty), v = .int .i64 i ∧ i ≤ 6 ∧ k = 6 - i ∧ joinL a b i = some l ∧ l.length ≤ i ∧ UnR wc w2 wr X0 l tb lv rs
theorem joinL_snoc {a b : Ty} {i : Nat} {l k : List Ty} (h : joinL a b i = some l) (hk : joinAt a b i = some k) : joinL a b (i + 1) = some (l ++ k) := by simp [joinL, h, hk]
theorem joinL_none {a b : Ty} {i : Nat} (h : joinAt a b i = none) : ∀ n, i < n → joinL a b n = none
  | 0, hn => absurd hn (Nat.not_lt_zero _)
  | n + 1, hn => by
    by_cases hi : i = n
    · subst hi
      simp only [joinL, h]
      cases joinL a b i <;> rfl
    · have := joinL_none h n (by omega)
      simp [joinL, this]
set_option maxRecDepth 100000 in
set_option maxHeartbeats 8000000 in
theorem rjoin_any {w : World} {r r' : Tv} {a b : Ty} (hT : Tab w) (ha : TyV w nX r a) (hb : TyV w nX r' b) :
    Calls Tryd.prog 27 #[r.val, r'.val] w fun e w' => (∃ q : Tv, e = .returned q.val ∧ TyV w' nX q (joinT a b)) ∧ Keep (fun _ => False) w w' := by
  obtain ⟨k, nm, An, nn, cn, Ak, nk, ck⟩ := r
  obtain ⟨k', nm', An', nn', cn', Ak', nk', ck'⟩ := r'
  have kw : Keep (fun _ => False) w ((((w.alloc (.cells #[.int .i64 k, .string nm, .slice An nn cn, .slice Ak nk ck] 25)).alloc (.cells #[.int .i64 k', .string nm', .slice An' nn' cn', .slice Ak' nk' ck'] 25)).alloc (.cells #[.int .i64 0, .string ⟨#[]⟩, .slice none 0 0, .slice none 0 0] 25)).alloc (.cells #[.int .i64 0, .string ⟨#[]⟩, .slice none 0 0, .slice none 0 0] 25)) := ((((Keep.refl _ w).alloc _).alloc _).alloc _).alloc _
  have ata : At ((((w.alloc (.cells #[.int .i64 k, .string nm, .slice An nn cn, .slice Ak nk ck] 25)).alloc (.cells #[.int .i64 k', .string nm', .slice An' nn' cn', .slice Ak' nk' ck'] 25)).alloc (.cells #[.int .i64 0, .string ⟨#[]⟩, .slice none 0 0, .slice none 0 0] 25)).alloc (.cells #[.int .i64 0, .string ⟨#[]⟩, .slice none 0 0, .slice none 0 0] 25)) w.heap.size 25 #[.int .i64 k, .string nm, .slice An nn cn, .slice Ak nk ck] := (((At.new_at (by simp)).alloc _).alloc _).alloc _
  have atb : At ((((w.alloc (.cells #[.int .i64 k, .string nm, .slice An nn cn, .slice Ak nk ck] 25)).alloc (.cells #[.int .i64 k', .string nm', .slice An' nn' cn', .slice Ak' nk' ck'] 25)).alloc (.cells #[.int .i64 0, .string ⟨#[]⟩, .slice none 0 0, .slice none 0 0] 25)).alloc (.cells #[.int .i64 0, .string ⟨#[]⟩, .slice none 0 0, .slice none 0 0] 25)) (w.heap.size + 1) 25 #[.int .i64 k', .string nm', .slice An' nn' cn', .slice Ak' nk' ck'] := ((At.new_at (by simp)).alloc _).alloc _
  have atr : At ((((w.alloc (.cells #[.int .i64 k, .string nm, .slice An nn cn, .slice Ak nk ck] 25)).alloc (.cells #[.int .i64 k', .string nm', .slice An' nn' cn', .slice Ak' nk' ck'] 25)).alloc (.cells #[.int .i64 0, .string ⟨#[]⟩, .slice none 0 0, .slice none 0 0] 25)).alloc (.cells #[.int .i64 0, .string ⟨#[]⟩, .slice none 0 0, .slice none 0 0] 25)) (w.heap.size + 1 + 1) 25 #[.int .i64 0, .string ⟨#[]⟩, .slice none 0 0, .slice none 0 0] := (At.new_at (by simp)).alloc _
  have atn : At ((((w.alloc (.cells #[.int .i64 k, .string nm, .slice An nn cn, .slice Ak nk ck] 25)).alloc (.cells #[.int .i64 k', .string nm', .slice An' nn' cn', .slice Ak' nk' ck'] 25)).alloc (.cells #[.int .i64 0, .string ⟨#[]⟩, .slice none 0 0, .slice none 0 0] 25)).alloc (.cells #[.int .i64 0, .string ⟨#[]⟩, .slice none 0 0, .slice none 0 0] 25)) (w.heap.size + 1 + 1 + 1) 25 #[.int .i64 0, .string ⟨#[]⟩, .slice none 0 0, .slice none 0 0] := At.new_at (by simp)
  have H := Lib.hid (And.intro kw (And.intro ata (And.intro atb (And.intro atr (And.intro atn (And.intro (hT.step kw) (And.intro (ha.step kw) (hb.step kw))))))))
  have HW := Lib.hid (And.intro ha hb)
  clear hT ha hb kw ata atb atr atn
  unfold Tv.val
  simp only
  go_enter Tryd.func27, Tryd.ntmps27
  go_upto_region 2 with fail
  generalize ((((w.alloc (.cells #[.int .i64 k, .string nm, .slice An nn cn, .slice Ak nk ck] 25)).alloc (.cells #[.int .i64 k', .string nm', .slice An' nn' cn', .slice Ak' nk' ck'] 25)).alloc (.cells #[.int .i64 0, .string ⟨#[]⟩, .slice none 0 0, .slice none 0 0] 25)).alloc (.cells #[.int .i64 0, .string ⟨#[]⟩, .slice none 0 0, .slice none 0 0] 25)) = w1 at *
  generalize hb3 : w.heap.size + 1 + 1 + 1 = b3_ at *
  generalize hb2 : w.heap.size + 1 + 1 = b2_ at *
  generalize hb1 : w.heap.size + 1 = by_ at *
  generalize hb0 : w.heap.size = bx at *
  have HRE := Lib.hid (show w.heap.size ≤ b2_ by omega)
  have HRF := Lib.hid (show bx < b2_ ∧ by_ < b2_ ∧ b2_ < b3_ by omega)
  clear hb3 hb2 hb1 hb0
  have HC : Hid (∀ w', Keep (fun _ => False) w1 w' → (bx < w'.heap.size ∧ w'.cell? ⟨bx, 0, none⟩ = some (.int .i64 k) ∧ w'.cell? ⟨bx, 1, none⟩ = some (.string nm) ∧ w'.cell? ⟨bx, 2, none⟩ = some (.slice An nn cn) ∧ w'.cell? ⟨bx, 3, none⟩ = some (.slice Ak nk ck)) ∧ (by_ < w'.heap.size ∧ w'.cell? ⟨by_, 0, none⟩ = some (.int .i64 k') ∧ w'.cell? ⟨by_, 1, none⟩ = some (.string nm') ∧ w'.cell? ⟨by_, 2, none⟩ = some (.slice An' nn' cn') ∧ w'.cell? ⟨by_, 3, none⟩ = some (.slice Ak' nk' ck')) ∧ (b2_ < w'.heap.size ∧ w'.cell? ⟨b2_, 0, none⟩ = some (.int .i64 0) ∧ w'.cell? ⟨b2_, 1, none⟩ = some (.string ⟨#[]⟩) ∧ w'.cell? ⟨b2_, 2, none⟩ = some (.slice none 0 0) ∧ w'.cell? ⟨b2_, 3, none⟩ = some (.slice none 0 0)) ∧ (w'.frozen? ⟨b2_, 0, none⟩ = false ∧ w'.frozen? ⟨b2_, 1, none⟩ = false ∧ w'.frozen? ⟨b2_, 2, none⟩ = false ∧ w'.frozen? ⟨b2_, 3, none⟩ = false) ∧ (b3_ < w'.heap.size ∧ w'.cell? ⟨b3_, 0, none⟩ = some (.int .i64 0) ∧ w'.cell? ⟨b3_, 1, none⟩ = some (.string ⟨#[]⟩) ∧ w'.cell? ⟨b3_, 2, none⟩ = some (.slice none 0 0) ∧ w'.cell? ⟨b3_, 3, none⟩ = some (.slice none 0 0))) := fun w' hk => ⟨(hk.at_ H.out.2.1 (fun x => x)).tcells, (hk.at_ H.out.2.2.1 (fun x => x)).tcells, (hk.at_ H.out.2.2.2.1 (fun x => x)).tcells, ⟨(hk.at_ H.out.2.2.2.1 (fun x => x)).frozen 0, (hk.at_ H.out.2.2.2.1 (fun x => x)).frozen 1, (hk.at_ H.out.2.2.2.1 (fun x => x)).frozen 2, (hk.at_ H.out.2.2.2.1 (fun x => x)).frozen 3⟩, (hk.at_ H.out.2.2.2.2.1 (fun x => x)).tcells⟩
  have KC : Hid (Keep (fun _ => False) w1 w1) := Keep.refl _ _
  obtain ⟨⟨xl, x0, x1, x2, x3⟩, ⟨yl, y0, y1, y2, y3⟩, ⟨rl, r0, r1, r2, r3⟩, ⟨f0, f1, f2, f3⟩, nl, n0, n1, n2, n3⟩ := HC.out w1 KC.out
  have HS1 : Hid (∀ w', Keep (fun _ => False) w1 w' → Calls Tryd.prog 16 #[.agg #[.int .i64 k, .string nm, .slice An nn cn, .slice Ak nk ck], .agg #[.int .i64 k', .string nm', .slice An' nn' cn', .slice Ak' nk' ck']] w' fun e w'' => e = .returned (.bool (subT a b)) ∧ Keep (fun _ => False) w' w'') := fun w' hk => rsub_any (r := ⟨k, nm, An, nn, cn, Ak, nk, ck⟩) (r' := ⟨k', nm', An', nn', cn', Ak', nk', ck'⟩) (H.out.2.2.2.2.2.1.step hk) (H.out.2.2.2.2.2.2.1.step hk) (H.out.2.2.2.2.2.2.2.step hk)
  have HS2 : Hid (∀ w', Keep (fun _ => False) w1 w' → Calls Tryd.prog 16 #[.agg #[.int .i64 k', .string nm', .slice An' nn' cn', .slice Ak' nk' ck'], .agg #[.int .i64 k, .string nm, .slice An nn cn, .slice Ak nk ck]] w' fun e w'' => e = .returned (.bool (subT b a)) ∧ Keep (fun _ => False) w' w'') := fun w' hk => rsub_any (r := ⟨k', nm', An', nn', cn', Ak', nk', ck'⟩) (r' := ⟨k, nm, An, nn, cn, Ak, nk, ck⟩) (H.out.2.2.2.2.2.1.step hk) (H.out.2.2.2.2.2.2.2.step hk) (H.out.2.2.2.2.2.2.1.step hk)
  have HDA : Hid (∀ w', Keep (fun _ => False) w1 w' → Calls Tryd.prog 47 #[.agg #[.int .i64 k, .string nm, .slice An nn cn, .slice Ak nk ck]] w' fun e w'' => e = .returned (.bool (decide (a.kind = 0))) ∧ Keep (fun _ => False) w' w'') := fun w' hk => dynamic_any (r := ⟨k, nm, An, nn, cn, Ak, nk, ck⟩) (H.out.2.2.2.2.2.2.1.step hk)
  have HDB : Hid (∀ w', Keep (fun _ => False) w1 w' → Calls Tryd.prog 47 #[.agg #[.int .i64 k', .string nm', .slice An' nn' cn', .slice Ak' nk' ck']] w' fun e w'' => e = .returned (.bool (decide (b.kind = 0))) ∧ Keep (fun _ => False) w' w'') := fun w' hk => dynamic_any (r := ⟨k', nm', An', nn', cn', Ak', nk', ck'⟩) (H.out.2.2.2.2.2.2.2.step hk)
  have HNO : Hid (∀ w', Keep (fun _ => False) w1 w' → Calls Tryd.prog 33 #[.slice (some ⟨w'.heap.size, 0, none⟩) 2 2] (w'.alloc (.cells #[.int .i64 k, .string nm, .slice An nn cn, .slice Ak nk ck, .int .i64 k', .string nm', .slice An' nn' cn', .slice Ak' nk' ck'] 25)) fun e w'' => e = .returned (.bool ([a, b].all normB)) ∧ Keep (fun _ => False) w' w'') := fun w' hk => by
    have kal : Keep (fun _ => False) w' (w'.alloc (.cells #[.int .i64 k, .string nm, .slice An nn cn, .slice Ak nk ck, .int .i64 k', .string nm', .slice An' nn' cn', .slice Ak' nk' ck'] 25)) := (Keep.refl _ w').alloc _
    have hn := normal_any (A := some ⟨w'.heap.size, 0, none⟩) (n := 2) (c := 2) (l := [a, b]) (rs := [⟨k, nm, An, nn, cn, Ak, nk, ck⟩, ⟨k', nm', An', nn', cn', Ak', nk', ck'⟩]) (by decide) ((H.out.2.2.2.2.2.1.step hk).step kal) (by have := Rd.lit (X := nX) (size := 4) (n := 2) (At.new w' 25 #[.int .i64 k, .string nm, .slice An nn cn, .slice Ak nk ck, .int .i64 k', .string nm', .slice An' nn' cn', .slice Ak' nk' ck']) (fun x => x) rfl; simpa [tflat, Tv.vals] using this) ⟨(H.out.2.2.2.2.2.2.1.step hk).step kal, (H.out.2.2.2.2.2.2.2.step hk).step kal, trivial⟩
    exact hn.mono fun e w'' ⟨h1, h2⟩ => ⟨h1, kal.trans h2 (fun _ _ x => x)⟩
  have KF : Hid (∀ w' v0 v1 v2 v3, Keep (fun _ => False) w1 w' → Keep (fun _ => False) w ((((w'.setCell ⟨b2_, 0, none⟩ v0).setCell ⟨b2_, 1, none⟩ v1).setCell ⟨b2_, 2, none⟩ v2).setCell ⟨b2_, 3, none⟩ v3)) := fun w' v0 v1 v2 v3 hk => (H.out.1.trans hk (fun _ _ x => x)).weak (Keep.set4 (Keep.refl (fun g => g = b2_) w') (.inl rfl) v0 v1 v2 v3) (fun g hg => by rw [hg]; exact HRE.out)
  cases hs1 : subT a b
  rotate_left
  · have HJ := Lib.hid (show joinT a b = b by unfold joinT; rw [if_pos hs1])
    rw [hs1] at HS1
    clear hs1
    go_wp2_with (first
        | (go_at_call_of 16 (Value.agg #[Value.int IntKind.i64 k, Value.string nm, Value.slice An nn cn, Value.slice Ak nk ck]); (with_reducible refine (HS1.out _ KC.out).mono ?_); rintro e w3 ⟨rfl, hk⟩; have KN := Lib.hid (KC.out.trans hk (fun _ _ x => x)); clear KC hk xl x0 x1 x2 x3 yl y0 y1 y2 y3 rl r0 r1 r2 r3 f0 f1 f2 f3 nl n0 n1 n2 n3; have KC := KN; clear KN; obtain ⟨⟨xl, x0, x1, x2, x3⟩, ⟨yl, y0, y1, y2, y3⟩, ⟨rl, r0, r1, r2, r3⟩, ⟨f0, f1, f2, f3⟩, nl, n0, n1, n2, n3⟩ := HC.out _ KC.out))
    (try simp only [Exit.inBlock, Exit.then])
    have ra := KC.out.at_ H.out.2.2.2.1 (fun x => x)
    refine bodyPost_ret (ret_cell1 rfl rfl ((((ra.set 0 _).set 1 _).set 2 _).set 3 _)) rfl ?_
    have kf := KF.out _ (.int .i64 k') (.string nm') (.slice An' nn' cn') (.slice Ak' nk' ck') KC.out
    exact ⟨⟨⟨k', nm', An', nn', cn', Ak', nk', ck'⟩, rfl, by rw [HJ.out]; exact HW.out.2.step kf⟩, kf⟩
  rw [hs1] at HS1
  cases hs2 : subT b a
  rotate_left
  · have HJ := Lib.hid (show joinT a b = a by unfold joinT; rw [if_neg (by rw [hs1]; decide), if_pos hs2])
    rw [hs2] at HS2
    clear hs1 hs2
    go_wp2_with (first
        | (go_at_call_of 16 (Value.agg #[Value.int IntKind.i64 k, Value.string nm, Value.slice An nn cn, Value.slice Ak nk ck]); (with_reducible refine (HS1.out _ KC.out).mono ?_); rintro e w3 ⟨rfl, hk⟩; have KN := Lib.hid (KC.out.trans hk (fun _ _ x => x)); clear KC hk xl x0 x1 x2 x3 yl y0 y1 y2 y3 rl r0 r1 r2 r3 f0 f1 f2 f3 nl n0 n1 n2 n3; have KC := KN; clear KN; obtain ⟨⟨xl, x0, x1, x2, x3⟩, ⟨yl, y0, y1, y2, y3⟩, ⟨rl, r0, r1, r2, r3⟩, ⟨f0, f1, f2, f3⟩, nl, n0, n1, n2, n3⟩ := HC.out _ KC.out)
        | (go_at_call_of 16 (Value.agg #[Value.int IntKind.i64 k', Value.string nm', Value.slice An' nn' cn', Value.slice Ak' nk' ck']); (with_reducible refine (HS2.out _ KC.out).mono ?_); rintro e w3 ⟨rfl, hk⟩; have KN := Lib.hid (KC.out.trans hk (fun _ _ x => x)); clear KC hk xl x0 x1 x2 x3 yl y0 y1 y2 y3 rl r0 r1 r2 r3 f0 f1 f2 f3 nl n0 n1 n2 n3; have KC := KN; clear KN; obtain ⟨⟨xl, x0, x1, x2, x3⟩, ⟨yl, y0, y1, y2, y3⟩, ⟨rl, r0, r1, r2, r3⟩, ⟨f0, f1, f2, f3⟩, nl, n0, n1, n2, n3⟩ := HC.out _ KC.out))
    (try simp only [Exit.inBlock, Exit.then])
    have ra := KC.out.at_ H.out.2.2.2.1 (fun x => x)
    refine bodyPost_ret (ret_cell1 rfl rfl ((((ra.set 0 _).set 1 _).set 2 _).set 3 _)) rfl ?_
    have kf := KF.out _ (.int .i64 k) (.string nm) (.slice An nn cn) (.slice Ak nk ck) KC.out
    exact ⟨⟨⟨k, nm, An, nn, cn, Ak, nk, ck⟩, rfl, by rw [HJ.out]; exact HW.out.1.step kf⟩, kf⟩
  rw [hs2] at HS2
  have HN : Hid (a.kind = 0 ∨ b.kind = 0 ∨ normB a = false ∨ normB b = false → joinT a b = ty0) := fun h => by unfold joinT; rw [if_neg (by rw [hs1]; decide), if_neg (by rw [hs2]; decide), if_pos h]
  have HM : Hid (¬ (a.kind = 0 ∨ b.kind = 0 ∨ normB a = false ∨ normB b = false) → joinT a b = (match joinL a b 6 with | none => ty0 | some l => (NormT (.mk 7 ⟨#[]⟩ [] l)).getD ty0)) := fun h => by unfold joinT; rw [if_neg (by rw [hs1]; decide), if_neg (by rw [hs2]; decide), if_neg h]; cases joinL a b 6 <;> rfl
  clear hs1 hs2
  cases hda : decide (a.kind = 0)
  rotate_left
  · have HJ := Lib.hid (HN.out (.inl (of_decide_eq_true hda)))
    rw [hda] at HDA
    clear hda
    go_wp2_with (first
        | (go_at_call_of 16 (Value.agg #[Value.int IntKind.i64 k, Value.string nm, Value.slice An nn cn, Value.slice Ak nk ck]); (with_reducible refine (HS1.out _ KC.out).mono ?_); rintro e w3 ⟨rfl, hk⟩; have KN := Lib.hid (KC.out.trans hk (fun _ _ x => x)); clear KC hk xl x0 x1 x2 x3 yl y0 y1 y2 y3 rl r0 r1 r2 r3 f0 f1 f2 f3 nl n0 n1 n2 n3; have KC := KN; clear KN; obtain ⟨⟨xl, x0, x1, x2, x3⟩, ⟨yl, y0, y1, y2, y3⟩, ⟨rl, r0, r1, r2, r3⟩, ⟨f0, f1, f2, f3⟩, nl, n0, n1, n2, n3⟩ := HC.out _ KC.out)
        | (go_at_call_of 16 (Value.agg #[Value.int IntKind.i64 k', Value.string nm', Value.slice An' nn' cn', Value.slice Ak' nk' ck']); (with_reducible refine (HS2.out _ KC.out).mono ?_); rintro e w3 ⟨rfl, hk⟩; have KN := Lib.hid (KC.out.trans hk (fun _ _ x => x)); clear KC hk xl x0 x1 x2 x3 yl y0 y1 y2 y3 rl r0 r1 r2 r3 f0 f1 f2 f3 nl n0 n1 n2 n3; have KC := KN; clear KN; obtain ⟨⟨xl, x0, x1, x2, x3⟩, ⟨yl, y0, y1, y2, y3⟩, ⟨rl, r0, r1, r2, r3⟩, ⟨f0, f1, f2, f3⟩, nl, n0, n1, n2, n3⟩ := HC.out _ KC.out)
        | (go_at_call_of 47 (Value.agg #[Value.int IntKind.i64 k, Value.string nm, Value.slice An nn cn, Value.slice Ak nk ck]); (with_reducible refine (HDA.out _ KC.out).mono ?_); rintro e w3 ⟨rfl, hk⟩; have KN := Lib.hid (KC.out.trans hk (fun _ _ x => x)); clear KC hk xl x0 x1 x2 x3 yl y0 y1 y2 y3 rl r0 r1 r2 r3 f0 f1 f2 f3 nl n0 n1 n2 n3; have KC := KN; clear KN; obtain ⟨⟨xl, x0, x1, x2, x3⟩, ⟨yl, y0, y1, y2, y3⟩, ⟨rl, r0, r1, r2, r3⟩, ⟨f0, f1, f2, f3⟩, nl, n0, n1, n2, n3⟩ := HC.out _ KC.out))
    (try simp only [Exit.inBlock, Exit.then])
    have ra := KC.out.at_ H.out.2.2.2.1 (fun x => x)
    refine bodyPost_ret (ret_cell1 rfl rfl ((((ra.set 0 _).set 1 _).set 2 _).set 3 _)) rfl ?_
    have kf := KF.out _ (.int .i64 0) (.string ⟨#[]⟩) (.slice none 0 0) (.slice none 0 0) KC.out
    exact ⟨⟨⟨0, ⟨#[]⟩, none, 0, 0, none, 0, 0⟩, rfl, by rw [HJ.out]; exact tv_base 0⟩, kf⟩
  rw [hda] at HDA
  cases hdb : decide (b.kind = 0)
  rotate_left
  · have HJ := Lib.hid (HN.out (.inr (.inl (of_decide_eq_true hdb))))
    rw [hdb] at HDB
    clear hda hdb
    go_wp2_with (first
        | (go_at_call_of 16 (Value.agg #[Value.int IntKind.i64 k, Value.string nm, Value.slice An nn cn, Value.slice Ak nk ck]); (with_reducible refine (HS1.out _ KC.out).mono ?_); rintro e w3 ⟨rfl, hk⟩; have KN := Lib.hid (KC.out.trans hk (fun _ _ x => x)); clear KC hk xl x0 x1 x2 x3 yl y0 y1 y2 y3 rl r0 r1 r2 r3 f0 f1 f2 f3 nl n0 n1 n2 n3; have KC := KN; clear KN; obtain ⟨⟨xl, x0, x1, x2, x3⟩, ⟨yl, y0, y1, y2, y3⟩, ⟨rl, r0, r1, r2, r3⟩, ⟨f0, f1, f2, f3⟩, nl, n0, n1, n2, n3⟩ := HC.out _ KC.out)
        | (go_at_call_of 16 (Value.agg #[Value.int IntKind.i64 k', Value.string nm', Value.slice An' nn' cn', Value.slice Ak' nk' ck']); (with_reducible refine (HS2.out _ KC.out).mono ?_); rintro e w3 ⟨rfl, hk⟩; have KN := Lib.hid (KC.out.trans hk (fun _ _ x => x)); clear KC hk xl x0 x1 x2 x3 yl y0 y1 y2 y3 rl r0 r1 r2 r3 f0 f1 f2 f3 nl n0 n1 n2 n3; have KC := KN; clear KN; obtain ⟨⟨xl, x0, x1, x2, x3⟩, ⟨yl, y0, y1, y2, y3⟩, ⟨rl, r0, r1, r2, r3⟩, ⟨f0, f1, f2, f3⟩, nl, n0, n1, n2, n3⟩ := HC.out _ KC.out)
        | (go_at_call_of 47 (Value.agg #[Value.int IntKind.i64 k, Value.string nm, Value.slice An nn cn, Value.slice Ak nk ck]); (with_reducible refine (HDA.out _ KC.out).mono ?_); rintro e w3 ⟨rfl, hk⟩; have KN := Lib.hid (KC.out.trans hk (fun _ _ x => x)); clear KC hk xl x0 x1 x2 x3 yl y0 y1 y2 y3 rl r0 r1 r2 r3 f0 f1 f2 f3 nl n0 n1 n2 n3; have KC := KN; clear KN; obtain ⟨⟨xl, x0, x1, x2, x3⟩, ⟨yl, y0, y1, y2, y3⟩, ⟨rl, r0, r1, r2, r3⟩, ⟨f0, f1, f2, f3⟩, nl, n0, n1, n2, n3⟩ := HC.out _ KC.out)
        | (go_at_call_of 47 (Value.agg #[Value.int IntKind.i64 k', Value.string nm', Value.slice An' nn' cn', Value.slice Ak' nk' ck']); (with_reducible refine (HDB.out _ KC.out).mono ?_); rintro e w3 ⟨rfl, hk⟩; have KN := Lib.hid (KC.out.trans hk (fun _ _ x => x)); clear KC hk xl x0 x1 x2 x3 yl y0 y1 y2 y3 rl r0 r1 r2 r3 f0 f1 f2 f3 nl n0 n1 n2 n3; have KC := KN; clear KN; obtain ⟨⟨xl, x0, x1, x2, x3⟩, ⟨yl, y0, y1, y2, y3⟩, ⟨rl, r0, r1, r2, r3⟩, ⟨f0, f1, f2, f3⟩, nl, n0, n1, n2, n3⟩ := HC.out _ KC.out))
    (try simp only [Exit.inBlock, Exit.then])
    have ra := KC.out.at_ H.out.2.2.2.1 (fun x => x)
    refine bodyPost_ret (ret_cell1 rfl rfl ((((ra.set 0 _).set 1 _).set 2 _).set 3 _)) rfl ?_
    have kf := KF.out _ (.int .i64 0) (.string ⟨#[]⟩) (.slice none 0 0) (.slice none 0 0) KC.out
    exact ⟨⟨⟨0, ⟨#[]⟩, none, 0, 0, none, 0, 0⟩, rfl, by rw [HJ.out]; exact tv_base 0⟩, kf⟩
  rw [hdb] at HDB
  cases hnb : [a, b].all normB
  · have HJ := Lib.hid (HN.out (.inr (.inr (by simpa [-List.all_cons] using (show normB a = false ∨ normB b = false by cases ea : normB a <;> cases eb : normB b <;> simp_all)))))
    rw [hnb] at HNO
    clear hda hdb hnb
    go_wp2_with (first
        | (go_at_call_of 16 (Value.agg #[Value.int IntKind.i64 k, Value.string nm, Value.slice An nn cn, Value.slice Ak nk ck]); (with_reducible refine (HS1.out _ KC.out).mono ?_); rintro e w3 ⟨rfl, hk⟩; have KN := Lib.hid (KC.out.trans hk (fun _ _ x => x)); clear KC hk xl x0 x1 x2 x3 yl y0 y1 y2 y3 rl r0 r1 r2 r3 f0 f1 f2 f3 nl n0 n1 n2 n3; have KC := KN; clear KN; obtain ⟨⟨xl, x0, x1, x2, x3⟩, ⟨yl, y0, y1, y2, y3⟩, ⟨rl, r0, r1, r2, r3⟩, ⟨f0, f1, f2, f3⟩, nl, n0, n1, n2, n3⟩ := HC.out _ KC.out)
        | (go_at_call_of 16 (Value.agg #[Value.int IntKind.i64 k', Value.string nm', Value.slice An' nn' cn', Value.slice Ak' nk' ck']); (with_reducible refine (HS2.out _ KC.out).mono ?_); rintro e w3 ⟨rfl, hk⟩; have KN := Lib.hid (KC.out.trans hk (fun _ _ x => x)); clear KC hk xl x0 x1 x2 x3 yl y0 y1 y2 y3 rl r0 r1 r2 r3 f0 f1 f2 f3 nl n0 n1 n2 n3; have KC := KN; clear KN; obtain ⟨⟨xl, x0, x1, x2, x3⟩, ⟨yl, y0, y1, y2, y3⟩, ⟨rl, r0, r1, r2, r3⟩, ⟨f0, f1, f2, f3⟩, nl, n0, n1, n2, n3⟩ := HC.out _ KC.out)
        | (go_at_call_of 47 (Value.agg #[Value.int IntKind.i64 k, Value.string nm, Value.slice An nn cn, Value.slice Ak nk ck]); (with_reducible refine (HDA.out _ KC.out).mono ?_); rintro e w3 ⟨rfl, hk⟩; have KN := Lib.hid (KC.out.trans hk (fun _ _ x => x)); clear KC hk xl x0 x1 x2 x3 yl y0 y1 y2 y3 rl r0 r1 r2 r3 f0 f1 f2 f3 nl n0 n1 n2 n3; have KC := KN; clear KN; obtain ⟨⟨xl, x0, x1, x2, x3⟩, ⟨yl, y0, y1, y2, y3⟩, ⟨rl, r0, r1, r2, r3⟩, ⟨f0, f1, f2, f3⟩, nl, n0, n1, n2, n3⟩ := HC.out _ KC.out)
        | (go_at_call_of 47 (Value.agg #[Value.int IntKind.i64 k', Value.string nm', Value.slice An' nn' cn', Value.slice Ak' nk' ck']); (with_reducible refine (HDB.out _ KC.out).mono ?_); rintro e w3 ⟨rfl, hk⟩; have KN := Lib.hid (KC.out.trans hk (fun _ _ x => x)); clear KC hk xl x0 x1 x2 x3 yl y0 y1 y2 y3 rl r0 r1 r2 r3 f0 f1 f2 f3 nl n0 n1 n2 n3; have KC := KN; clear KN; obtain ⟨⟨xl, x0, x1, x2, x3⟩, ⟨yl, y0, y1, y2, y3⟩, ⟨rl, r0, r1, r2, r3⟩, ⟨f0, f1, f2, f3⟩, nl, n0, n1, n2, n3⟩ := HC.out _ KC.out)
        | (go_at_call 33; (with_reducible refine (HNO.out _ KC.out).mono ?_); rintro e w3 ⟨rfl, hk⟩; have KN := Lib.hid (KC.out.trans hk (fun _ _ x => x)); clear KC hk xl x0 x1 x2 x3 yl y0 y1 y2 y3 rl r0 r1 r2 r3 f0 f1 f2 f3 nl n0 n1 n2 n3; have KC := KN; clear KN; obtain ⟨⟨xl, x0, x1, x2, x3⟩, ⟨yl, y0, y1, y2, y3⟩, ⟨rl, r0, r1, r2, r3⟩, ⟨f0, f1, f2, f3⟩, nl, n0, n1, n2, n3⟩ := HC.out _ KC.out))
    (try simp only [Exit.inBlock, Exit.then])
    have ra := KC.out.at_ H.out.2.2.2.1 (fun x => x)
    refine bodyPost_ret (ret_cell1 rfl rfl ((((ra.set 0 _).set 1 _).set 2 _).set 3 _)) rfl ?_
    have kf := KF.out _ (.int .i64 0) (.string ⟨#[]⟩) (.slice none 0 0) (.slice none 0 0) KC.out
    exact ⟨⟨⟨0, ⟨#[]⟩, none, 0, 0, none, 0, 0⟩, rfl, by rw [HJ.out]; exact tv_base 0⟩, kf⟩
  have hna : normB a = true ∧ normB b = true := by simpa using hnb
  have HNN := Lib.hid (And.intro (of_decide_eq_false hda) (And.intro (of_decide_eq_false hdb) hna))
  have HJM := Lib.hid (HM.out (fun h => by
    rcases h with h | h | h | h
    · exact of_decide_eq_false hda h
    · exact of_decide_eq_false hdb h
    · rw [hna.1] at h; cases h
    · rw [hna.2] at h; cases h))
  rw [hnb] at HNO
  clear hda hdb hnb hna HN HM
  have hXL : ∀ (w3 w' : World) (X : Nat → Prop), Keep (fun _ => False) w1 w3 → Keep (fun _ => False) w3 w' → (∀ g, X g → g = b2_ ∨ (w3.heap.size ≤ g ∧ g < w'.heap.size)) → ∀ i, X i → i < w'.heap.size := fun w3 w' X hk3 hk hX i hi => by
    rcases hX i hi with h | h
    · have h1 := (hk.at_ (hk3.at_ H.out.2.2.2.1 (fun x => x)) (fun x => x)).lt
      omega
    · exact h.2
  have hXM : ∀ (w3 w' : World) (X : Nat → Prop), Keep (fun _ => False) w1 w3 → Keep (fun _ => False) w3 w' → (∀ g, X g → g = b2_ ∨ (w3.heap.size ≤ g ∧ g < w'.heap.size)) → ∀ i, i < w.heap.size → X i → False := fun w3 w' X hk3 hk hX i hi hx => by
    rcases hX i hx with h | h
    · have h1 := HRE.out
      omega
    · have h1 := H.out.1.size
      have h2 := hk3.size
      omega
  have HPA : Hid (∀ (w3 : World), Keep (fun _ => False) w1 w3 → ∀ (w' : World) (X : Nat → Prop), Keep (fun _ => False) w3 w' → (∀ g, X g → g = b2_ ∨ (w3.heap.size ≤ g ∧ g < w'.heap.size)) → Calls Tryd.prog 48 #[.agg #[.int .i64 k, .string nm, .slice An nn cn, .slice Ak nk ck]] w' fun e w'' => ∃ cs : Array Value, e = .returned (.agg cs) ∧ PtV w'' X a (partsL a) cs ∧ Keep (fun _ => False) w' w'') := fun w3 hk3 w' X hk hX => parts_any (r := ⟨k, nm, An, nn, cn, Ak, nk, ck⟩) (X := X) (hXL w3 w' X hk3 hk hX) (normB_nf HNN.out.2.2.1) (HW.out.1.keep ((H.out.1.trans hk3 (fun _ _ x => x)).trans hk (fun _ _ x => x)) (fun _ _ x => x.elim) (hXM w3 w' X hk3 hk hX))
  have HPB : Hid (∀ (w3 : World), Keep (fun _ => False) w1 w3 → ∀ (w' : World) (X : Nat → Prop), Keep (fun _ => False) w3 w' → (∀ g, X g → g = b2_ ∨ (w3.heap.size ≤ g ∧ g < w'.heap.size)) → Calls Tryd.prog 48 #[.agg #[.int .i64 k', .string nm', .slice An' nn' cn', .slice Ak' nk' ck']] w' fun e w'' => ∃ cs : Array Value, e = .returned (.agg cs) ∧ PtV w'' X b (partsL b) cs ∧ Keep (fun _ => False) w' w'') := fun w3 hk3 w' X hk hX => parts_any (r := ⟨k', nm', An', nn', cn', Ak', nk', ck'⟩) (X := X) (hXL w3 w' X hk3 hk hX) (normB_nf HNN.out.2.2.2) (HW.out.2.keep ((H.out.1.trans hk3 (fun _ _ x => x)).trans hk (fun _ _ x => x)) (fun _ _ x => x.elim) (hXM w3 w' X hk3 hk hX))
  go_upto_region 8 with (first
        | (go_at_call_of 16 (Value.agg #[Value.int IntKind.i64 k, Value.string nm, Value.slice An nn cn, Value.slice Ak nk ck]); (with_reducible refine (HS1.out _ KC.out).mono ?_); rintro e w3 ⟨rfl, hk⟩; have KN := Lib.hid (KC.out.trans hk (fun _ _ x => x)); clear KC hk xl x0 x1 x2 x3 yl y0 y1 y2 y3 rl r0 r1 r2 r3 f0 f1 f2 f3 nl n0 n1 n2 n3; have KC := KN; clear KN; obtain ⟨⟨xl, x0, x1, x2, x3⟩, ⟨yl, y0, y1, y2, y3⟩, ⟨rl, r0, r1, r2, r3⟩, ⟨f0, f1, f2, f3⟩, nl, n0, n1, n2, n3⟩ := HC.out _ KC.out)
        | (go_at_call_of 16 (Value.agg #[Value.int IntKind.i64 k', Value.string nm', Value.slice An' nn' cn', Value.slice Ak' nk' ck']); (with_reducible refine (HS2.out _ KC.out).mono ?_); rintro e w3 ⟨rfl, hk⟩; have KN := Lib.hid (KC.out.trans hk (fun _ _ x => x)); clear KC hk xl x0 x1 x2 x3 yl y0 y1 y2 y3 rl r0 r1 r2 r3 f0 f1 f2 f3 nl n0 n1 n2 n3; have KC := KN; clear KN; obtain ⟨⟨xl, x0, x1, x2, x3⟩, ⟨yl, y0, y1, y2, y3⟩, ⟨rl, r0, r1, r2, r3⟩, ⟨f0, f1, f2, f3⟩, nl, n0, n1, n2, n3⟩ := HC.out _ KC.out)
        | (go_at_call_of 47 (Value.agg #[Value.int IntKind.i64 k, Value.string nm, Value.slice An nn cn, Value.slice Ak nk ck]); (with_reducible refine (HDA.out _ KC.out).mono ?_); rintro e w3 ⟨rfl, hk⟩; have KN := Lib.hid (KC.out.trans hk (fun _ _ x => x)); clear KC hk xl x0 x1 x2 x3 yl y0 y1 y2 y3 rl r0 r1 r2 r3 f0 f1 f2 f3 nl n0 n1 n2 n3; have KC := KN; clear KN; obtain ⟨⟨xl, x0, x1, x2, x3⟩, ⟨yl, y0, y1, y2, y3⟩, ⟨rl, r0, r1, r2, r3⟩, ⟨f0, f1, f2, f3⟩, nl, n0, n1, n2, n3⟩ := HC.out _ KC.out)
        | (go_at_call_of 47 (Value.agg #[Value.int IntKind.i64 k', Value.string nm', Value.slice An' nn' cn', Value.slice Ak' nk' ck']); (with_reducible refine (HDB.out _ KC.out).mono ?_); rintro e w3 ⟨rfl, hk⟩; have KN := Lib.hid (KC.out.trans hk (fun _ _ x => x)); clear KC hk xl x0 x1 x2 x3 yl y0 y1 y2 y3 rl r0 r1 r2 r3 f0 f1 f2 f3 nl n0 n1 n2 n3; have KC := KN; clear KN; obtain ⟨⟨xl, x0, x1, x2, x3⟩, ⟨yl, y0, y1, y2, y3⟩, ⟨rl, r0, r1, r2, r3⟩, ⟨f0, f1, f2, f3⟩, nl, n0, n1, n2, n3⟩ := HC.out _ KC.out)
        | (go_at_call 33; (with_reducible refine (HNO.out _ KC.out).mono ?_); rintro e w3 ⟨rfl, hk⟩; have KN := Lib.hid (KC.out.trans hk (fun _ _ x => x)); clear KC hk xl x0 x1 x2 x3 yl y0 y1 y2 y3 rl r0 r1 r2 r3 f0 f1 f2 f3 nl n0 n1 n2 n3; have KC := KN; clear KN; obtain ⟨⟨xl, x0, x1, x2, x3⟩, ⟨yl, y0, y1, y2, y3⟩, ⟨rl, r0, r1, r2, r3⟩, ⟨f0, f1, f2, f3⟩, nl, n0, n1, n2, n3⟩ := HC.out _ KC.out))
  generalize Value.slice (some ⟨_, 0, none⟩) 2 2 = vsl at *
  have HA := Lib.hid (HPA.out w3 KC.out)
  have HB := Lib.hid (HPB.out w3 KC.out)
  have HC1 := HC
  clear HC
  have HC : Hid (∀ w', Keep (fun _ => False) w3 w' → (bx < w'.heap.size ∧ w'.cell? ⟨bx, 0, none⟩ = some (.int .i64 k) ∧ w'.cell? ⟨bx, 1, none⟩ = some (.string nm) ∧ w'.cell? ⟨bx, 2, none⟩ = some (.slice An nn cn) ∧ w'.cell? ⟨bx, 3, none⟩ = some (.slice Ak nk ck)) ∧ (by_ < w'.heap.size ∧ w'.cell? ⟨by_, 0, none⟩ = some (.int .i64 k') ∧ w'.cell? ⟨by_, 1, none⟩ = some (.string nm') ∧ w'.cell? ⟨by_, 2, none⟩ = some (.slice An' nn' cn') ∧ w'.cell? ⟨by_, 3, none⟩ = some (.slice Ak' nk' ck'))) := fun w' hk => ⟨(HC1.out w' (KC.out.trans hk (fun _ _ x => x))).1, (HC1.out w' (KC.out.trans hk (fun _ _ x => x))).2.1⟩
  clear xl x0 x1 x2 x3 yl y0 y1 y2 y3 rl r0 r1 r2 r3 f0 f1 f2 f3 nl n0 n1 n2 n3 HS1 HS2 HDA HDB HNO HPA HPB hXL hXM
  go_cut [6, 7] (TwoJ (fun g => g = b2_) w3 a b)
  case first =>
      refine wp_region_inv (by kernel_rfl) (fun l act wz => ∃ v9 v10 v13 v14 v15 v16 : Value, act = ⟨#[.agg #[.int .i64 k, .string nm, .slice An nn cn, .slice Ak nk ck], .agg #[.int .i64 k', .string nm', .slice An' nn' cn', .slice Ak' nk' ck'], .pointer (some ⟨bx, 0, none⟩), .pointer (some ⟨by_, 0, none⟩), .pointer (some ⟨b2_, 0, none⟩), .pointer (some ⟨b3_, 0, none⟩), v9, v10, undef, undef, undef, undef, undef, undef, .bool false, .agg #[.int .i64 k, .string nm, .slice An nn cn, .slice Ak nk ck], .agg #[.int .i64 k', .string nm', .slice An' nn' cn', .slice Ak' nk' ck'], .bool false, undef, .bool false, .agg #[.int .i64 k', .string nm', .slice An' nn' cn', .slice Ak' nk' ck'], .agg #[.int .i64 k, .string nm, .slice An nn cn, .slice Ak nk ck], .bool false, undef, .bool false, .agg #[.int .i64 k, .string nm, .slice An nn cn, .slice Ak nk ck], .bool false, .bool false, .agg #[.int .i64 k', .string nm', .slice An' nn' cn', .slice Ak' nk' ck'], .bool false, .bool false, .bool false, .agg #[.int .i64 k, .string nm, .slice An nn cn, .slice Ak nk ck], .agg #[.int .i64 k', .string nm', .slice An' nn' cn', .slice Ak' nk' ck'], vsl, .bool true, .bool false, .bool false, undef, v13, v14, v15, v16, undef, undef, undef, undef, undef, undef, undef, undef, undef, undef, undef, undef, undef, undef, undef, undef, undef, undef, undef, undef, undef, undef, undef, undef, undef, undef, undef, undef, undef, undef, undef, undef, undef, undef, undef, undef, undef, undef, undef, undef, undef, undef, undef, undef, undef, undef, undef, undef, undef, undef, undef, undef, undef, undef, undef, undef, undef, undef, undef, undef, undef, undef, undef, undef, undef], []⟩ ∧ l.size = 8 ∧ TwoX (fun g => g = b2_) w3 a b (.agg #[.int .i64 k, .string nm, .slice An nn cn, .slice Ak nk ck]) (.agg #[.int .i64 k', .string nm', .slice An' nn' cn', .slice Ak' nk' ck']) (fun j => l.getD j false = true) v9 v10 v13 v14 v15 v16 wz) (lt_of_all (by kernel_rfl)) ?_ ?_ ?_
      · exact ⟨_, _, _, _, _, _, rfl, by simp, TwoX.start _ _ _ _ _ _ _ _ _ _ _ _ (fun j h => by
          rcases Nat.lt_or_ge j 8 with hj | hj
          · simp [hj] at h
          · simp [hj] at h) (Keep.refl (fun _ => False) w3).drew⟩
      · intro i o l act wz ho hl hu hde hI
        obtain ⟨v9, v10, v13, v14, v15, v16, rfl, hsz, hI⟩ := hI
        have hi : i < 8 := (Array.getElem?_eq_some_iff.1 ho).1
        have hup := up_set hsz hi hu
        have hIH := Lib.hid hI
        have hUP := Lib.hid hup
        clear hI hup hl
        have hi8 : i = 0 ∨ i = 1 ∨ i = 2 ∨ i = 3 ∨ i = 4 ∨ i = 5 ∨ i = 6 ∨ i = 7 := by omega
        obtain ⟨⟨xl, x0, x1, x2, x3⟩, ⟨yl, y0, y1, y2, y3⟩⟩ := HC.out wz hIH.out.keep
        clear hi hu
        rcases hi8 with rfl | rfl | rfl | rfl | rfl | rfl | rfl | rfl
        all_goals simp only [List.getElem?_toArray, List.getElem?_cons_zero, List.getElem?_cons_succ, Option.some.injEq] at ho
        all_goals subst ho
        · refine wpOp_step (i := 0) rfl (fun K' hK => ?_)
          clear hde
          go_simp
          refine hK _ _ ⟨_, _, _, _, _, _, rfl, by simp [hsz], hIH.out.load0 hUP.out⟩
        · refine wpOp_step (i := 1) rfl (fun K' hK => ?_)
          have d0 : l.getD 0 false = true := hde { on := 0, ground := .data } (by simp) rfl
          obtain rfl := hIH.out.c13 d0
          have hc := HA.out _ _ hIH.out.keep (fun g hg => XZ_lt hIH.out g hg)
          clear hde d0
          go_simp
          go_at_call 48
          refine hc.mono ?_
          rintro e w2 ⟨cs, rfl, hp, hk⟩
          refine hK _ _ ⟨_, _, _, _, _, _, rfl, by simp [hsz], hIH.out.call1 hUP.out hk hp⟩
        · refine wpOp_step (i := 2) rfl (fun K' hK => ?_)
          clear hde
          go_simp
          refine hK _ _ ⟨_, _, _, _, _, _, rfl, by simp [hsz], hIH.out.load2 hUP.out⟩
        · refine wpOp_step (i := 3) rfl (fun K' hK => ?_)
          have d0 : l.getD 2 false = true := hde { on := 2, ground := .data } (by simp) rfl
          obtain rfl := hIH.out.c15 d0
          have hc := HB.out _ _ hIH.out.keep (fun g hg => XZ_lt hIH.out g hg)
          clear hde d0
          go_simp
          go_at_call 48
          refine hc.mono ?_
          rintro e w2 ⟨cs, rfl, hp, hk⟩
          refine hK _ _ ⟨_, _, _, _, _, _, rfl, by simp [hsz], hIH.out.call3 hUP.out hk hp⟩
        · refine wpOp_step (i := 4) rfl (fun K' hK => ?_)
          clear hde
          go_simp
          refine hK _ _ ⟨_, _, _, _, _, _, rfl, by simp [hsz], hIH.out.alloc4 hUP.out⟩
        · refine wpOp_step (i := 5) rfl (fun K' hK => ?_)
          clear hde
          go_simp
          refine hK _ _ ⟨_, _, _, _, _, _, rfl, by simp [hsz], hIH.out.alloc5 hUP.out⟩
        · refine wpOp_step (i := 6) rfl (fun K' hK => ?_)
          have d0 : l.getD 4 false = true := hde { on := 4, ground := .data } (by simp) rfl
          have d1 : l.getD 1 false = true := hde { on := 1, ground := .data } (by simp) rfl
          obtain ⟨p, cs, e9, hat, hge, hsix, _⟩ := hIH.out.c9 d0
          obtain ⟨ds, e14, hpt⟩ := hIH.out.c14 d1
          obtain ⟨p0, p1, p2, p3, p4, p5, rfl⟩ := hpt.ptrs
          have hst := hIH.out.store6 hUP.out e9 hat hsix d1 d0 ⟨_, _, _, _, _, _, rfl⟩ e14
          obtain ⟨z0, z1, z2, z3, z4, z5, rfl⟩ := hsix
          subst e9 e14
          obtain ⟨rl, r0, r1, r2, r3, r4, r5⟩ := hat.cells6
          have f0 := hat.frozen 0
          have f1 := hat.frozen 1
          have f2 := hat.frozen 2
          have f3 := hat.frozen 3
          have f4 := hat.frozen 4
          have f5 := hat.frozen 5
          have HST := Lib.hid hst
          clear hde d0 d1 hat hpt hst hge
          go_simp
          refine hK _ _ ⟨_, _, _, _, _, _, rfl, by simp [hsz], HST.out⟩
        · refine wpOp_step (i := 7) rfl (fun K' hK => ?_)
          have d0 : l.getD 5 false = true := hde { on := 5, ground := .data } (by simp) rfl
          have d1 : l.getD 3 false = true := hde { on := 3, ground := .data } (by simp) rfl
          obtain ⟨p, cs, e9, hat, hge, hsix, _⟩ := hIH.out.c10 d0
          obtain ⟨ds, e14, hpt⟩ := hIH.out.c16 d1
          obtain ⟨p0, p1, p2, p3, p4, p5, rfl⟩ := hpt.ptrs
          have hst := hIH.out.store7 hUP.out e9 hat hsix d1 d0 ⟨_, _, _, _, _, _, rfl⟩ e14
          obtain ⟨z0, z1, z2, z3, z4, z5, rfl⟩ := hsix
          subst e9 e14
          obtain ⟨rl, r0, r1, r2, r3, r4, r5⟩ := hat.cells6
          have f0 := hat.frozen 0
          have f1 := hat.frozen 1
          have f2 := hat.frozen 2
          have f3 := hat.frozen 3
          have f4 := hat.frozen 4
          have f5 := hat.frozen 5
          have HST := Lib.hid hst
          clear hde d0 d1 hat hpt hst hge
          go_simp
          refine hK _ _ ⟨_, _, _, _, _, _, rfl, by simp [hsz], HST.out⟩
      · intro l act wz hall hI
        obtain ⟨v9, v10, v13, v14, v15, v16, rfl, hsz, hI⟩ := hI
        have HF := Lib.hid (hI.fin hall)
        clear hI hall
        (try dsimp only)
        go_wp2_with fail
        go_meet
        exact HF.out
  case rest =>
    obtain ⟨p, q, cs, ds, rfl, rfl, hap, haq, hpv, hqv, hkx⟩ := hcut
    obtain ⟨p0, p1, p2, p3, p4, p5, rfl⟩ := hpv.ptrs
    obtain ⟨q0, q1, q2, q3, q4, q5, rfl⟩ := hqv.ptrs
    have h0 : Hid (JoA (fun g => g = b2_) wc (wc.alloc (.cells #[.int .i64 7, .string ⟨#[]⟩, .slice none 0 0, .slice none 0 0] 25)) a b wc.heap.size 6 (.int .i64 0) (wc.alloc (.cells #[.int .i64 7, .string ⟨#[]⟩, .slice none 0 0, .slice none 0 0] 25))) := ⟨0, .slice none 0 0, [], [], rfl, Nat.zero_le _, rfl, rfl, Nat.le_refl _, ⟨Keep.refl _ _, At.new _ _ _, World.ownsRow_nil _ 0 25 4, trivial, fun g hg => by simp [Value.ownBlock] at hg⟩⟩
    have hsz : (wc.alloc (.cells #[.int .i64 7, .string ⟨#[]⟩, .slice none 0 0, .slice none 0 0] 25)).heap.size = wc.heap.size + 1 := by simp
    have kct : Keep (fun _ => False) wc (wc.alloc (.cells #[.int .i64 7, .string ⟨#[]⟩, .slice none 0 0, .slice none 0 0] 25)) := (Keep.refl _ wc).alloc _
    have HX := Lib.hid (And.intro hpv (And.intro hqv (And.intro hap (And.intro haq (KC.out.trans hkx (fun _ _ x => x))))))
    clear hap haq hpv hqv hkx HA HB HC
    go_wp2_with fail
    generalize (wc.alloc (.cells #[.int .i64 7, .string ⟨#[]⟩, .slice none 0 0, .slice none 0 0] 25)) = wt at *
    generalize hte : wc.heap.size = ub at *
    have HT := Lib.hid (And.intro hsz (And.intro hte kct))
    clear hsz hte kct KC
    have HL : Hid (∀ wr, Keep (fun g => g = ub) wt wr → Keep (fun _ => False) w1 wr) := fun wr hk => (HX.out.2.2.2.2.trans HT.out.2.2 (fun _ _ x => x)).weak hk (fun g hg => by rw [hg]; have h1 := HX.out.2.2.2.2.size; have h2 := HT.out.2.1; omega)
    have HQ : Hid (∀ wr x e c, Keep (fun g => g = ub) wt wr → At wc x e c → At wr x e c) := fun wr x e c hk hx => hk.at_ (HT.out.2.2.at_ hx (fun x => x)) (by have h1 := hx.lt; have h2 := HT.out.2.1; omega)
    go_loopg [44] 6 (JoA (fun g => g = b2_) wc wt a b ub)
    case atStart => exact h0.out
    case round =>
      clear h0
      obtain ⟨i, lv, rs, l, rfl, hi, rfl, hjl, hll, hR⟩ := hrel
      obtain ⟨Al, cl, rfl⟩ := own_slice hR.own
      by_cases hlt : i < 6
      · have i0 : (0 : Int) ≤ (i : Int) := by omega
        have i6 : (i : Int) < 6 := by omega
        have hbp := HQ.out wr p _ _ hR.keep HX.out.2.2.1
        have hbq := HQ.out wr q _ _ hR.keep HX.out.2.2.2.1
        have al := hbp.lt
        have bl := hbq.lt
        have ac := hbp.cell i
        have bc := hbq.cell i
        have HR := Lib.hid (And.intro hR (And.intro hjl hll))
        have hbig : l.length + 1 ≤ 1099511627776 := by omega
        clear hbp hbq hR hjl
        rcases HX.out.1.at_ hlt with ⟨hpn, hc⟩ | ⟨m, bm, hpm, hc, hPA⟩
        · rw [hc] at ac
          rcases HX.out.2.1.at_ hlt with ⟨hqn, hd⟩ | ⟨pp, bp, hqm, hd, hPB⟩
          · rw [hd] at bc
            have HE := Lib.hid (show joinAt a b i = some [] by unfold joinAt; rw [hpn, hqn])
            clear hpn hqn hc hd hll
            go_wp2_with fail
            go_quiet (fail)
            go_wp2_with fail
            go_roundg (6 - (i + 1))
            case measure => omega
            case rel => exact ⟨i + 1, _, rs, l, by go_num, by omega, rfl, by have := joinL_snoc HR.out.2.1 HE.out; rw [List.append_nil] at this; exact this, by have := HR.out.2.2; omega, HR.out.1.step ((Keep.refl _ wr).drewN _)⟩
          · rw [hd] at bc
            have hpm := hpn
            obtain ⟨⟨mk, mnm, mAn, mnn, mcn, mAk, mnk, mck⟩, hmA, hmV⟩ := hPB
            simp only at hmA
            have HMV := Lib.hid (And.intro hmA hmV)
            have HE := Lib.hid (show joinAt a b i = some [pp.2] by unfold joinAt; rw [hpm, hqm])
            have hnf : NF pp.2 := (prt_prt (normB_nf HNN.out.2.2.2) HNN.out.2.1 hqm).nf
            have HNF := Lib.hid hnf
            clear hpm hqm hc hd hll hmA hmV hnf
            go_wp2_with fail
            go_quiet (fail)
            go_upto_region 20 with fail
            refine gen_world ?_
            intro wz hz
            have kz : Keep (fun _ => False) wr wz := by rw [hz]; exact (Keep.refl _ wr).drewN _
            clear hz
            have hmz := HQ.out wz _ _ _ (HR.out.1.step kz).keep HMV.out.1
            have hsk : Hid (∀ w', Keep (fun _ => False) wz w' → (bp < w'.heap.size ∧ w'.cell? ⟨bp, 2, none⟩ = some (.int .i64 mk) ∧ w'.cell? ⟨bp, 3, none⟩ = some (.string mnm) ∧ w'.cell? ⟨bp, 4, none⟩ = some (.slice mAn mnn mcn) ∧ w'.cell? ⟨bp, 5, none⟩ = some (.slice mAk mnk mck))) := fun w' hk' => ⟨(hk'.at_ hmz (fun x => x)).lt, (hk'.at_ hmz (fun x => x)).cell 2, (hk'.at_ hmz (fun x => x)).cell 3, (hk'.at_ hmz (fun x => x)).cell 4, (hk'.at_ hmz (fun x => x)).cell 5⟩
            have kd3 : Hid (Keep (fun _ => False) wz wz.drew) := (Keep.refl _ _).drew
            have hvz := (HMV.out.2.mono (Z := nX) (fun i _ x => x.elim)).step ((HT.out.2.2.weak (HR.out.1.step kz).keep (fun g hg => by rw [hg]; have := HT.out.2.1; omega)).trans kd3.out (fun _ _ x => x))
            have hcA := below_any _ pp.2 pp.2 false (Nat.le_refl _) HNF.out HNF.out wz.drew ⟨mk, mnm, mAn, mnn, mcn, mAk, mnk, mck⟩ ⟨mk, mnm, mAn, mnn, mcn, mAk, mnk, mck⟩ hvz hvz
            rw [below_refl false _ HNF.out] at hcA
            unfold Tv.val at hcA
            simp only at hcA
            have HKZ := Lib.hid kz
            clear al bl ac bc hmz hvz kz
            refine wp_region_held_n (S := fun w' => (bp < w'.heap.size ∧ w'.cell? ⟨bp, 2, none⟩ = some (.int .i64 mk) ∧ w'.cell? ⟨bp, 3, none⟩ = some (.string mnm) ∧ w'.cell? ⟨bp, 4, none⟩ = some (.slice mAn mnn mcn) ∧ w'.cell? ⟨bp, 5, none⟩ = some (.slice mAk mnk mck))) 10 rfl (by kernel_rfl) ?_ (fun hHeld => ?_)
            · exact hsk.out _ kd3.out
            refine' wpAnyH_tk (i := 0) (v := _) rfl (by kernel_rfl) (by decide +kernel) (by decide +kernel) (fun _ _ _ h => h) (Or.inl ⟨by rfl, ?_⟩) (by assumption) ?_
            rotate_left
            · (intro w hSw; (try dsimp only at hSw); (try go_simp); (try (with_reducible rfl)))
            (try simp only [Act.put, List.setIfInBounds_toArray, List.set_cons_zero, List.set_cons_succ])
            refine' wpAnyH_tk (i := 1) (v := _) rfl (by kernel_rfl) (by decide +kernel) (by decide +kernel) (fun _ _ _ h => h) (Or.inl ⟨by rfl, ?_⟩) (by assumption) ?_
            rotate_left
            · (intro w hSw; (try dsimp only at hSw); (try go_simp); (try (with_reducible rfl)))
            (try simp only [Act.put, List.setIfInBounds_toArray, List.set_cons_zero, List.set_cons_succ])
            refine' wpAnyH_tk (i := 2) (v := _) rfl (by kernel_rfl) (by decide +kernel) (by decide +kernel) (fun _ _ _ h => h) (Or.inl ⟨by rfl, ?_⟩) (by assumption) ?_
            rotate_left
            · (intro w hSw; (try dsimp only at hSw); (try go_simp); (try (with_reducible rfl)))
            (try simp only [Act.put, List.setIfInBounds_toArray, List.set_cons_zero, List.set_cons_succ])
            refine' wpAnyH_tk (i := 3) (v := _) rfl (by kernel_rfl) (by decide +kernel) (by decide +kernel) (fun _ _ _ h => h) (Or.inl ⟨by rfl, ?_⟩) (by assumption) ?_
            rotate_left
            · (intro w hSw; (try dsimp only at hSw); (try go_simp); (try (with_reducible rfl)))
            (try simp only [Act.put, List.setIfInBounds_toArray, List.set_cons_zero, List.set_cons_succ])
            refine' wpAnyH_tk (i := 4) (v := _) rfl (by kernel_rfl) (by decide +kernel) (by decide +kernel) (fun _ _ _ h => h) (Or.inl ⟨by rfl, ?_⟩) (by assumption) ?_
            rotate_left
            · (intro w hSw; (try dsimp only at hSw); (try go_simp); (try (with_reducible rfl)))
            (try simp only [Act.put, List.setIfInBounds_toArray, List.set_cons_zero, List.set_cons_succ])
            refine' wpAnyH_tk (i := 5) (v := _) rfl (by kernel_rfl) (by decide +kernel) (by decide +kernel) (fun _ _ _ h => h) (Or.inl ⟨by rfl, ?_⟩) (by assumption) ?_
            rotate_left
            · (intro w hSw; (try dsimp only at hSw); (try go_simp); (try (with_reducible rfl)))
            (try simp only [Act.put, List.setIfInBounds_toArray, List.set_cons_zero, List.set_cons_succ])
            refine' wpAnyH_tk (i := 6) (v := _) rfl (by kernel_rfl) (by decide +kernel) (by decide +kernel) (fun _ _ _ h => h) (Or.inl ⟨by rfl, ?_⟩) (by assumption) ?_
            rotate_left
            · (intro w hSw; (try dsimp only at hSw); (try go_simp); (try (with_reducible rfl)))
            (try simp only [Act.put, List.setIfInBounds_toArray, List.set_cons_zero, List.set_cons_succ])
            refine' wpAnyH_tk (i := 7) (v := _) rfl (by kernel_rfl) (by decide +kernel) (by decide +kernel) (fun _ _ _ h => h) (Or.inl ⟨by rfl, ?_⟩) (by assumption) ?_
            rotate_left
            · (intro w hSw; (try dsimp only at hSw); (try go_simp); (try (with_reducible rfl)))
            (try simp only [Act.put, List.setIfInBounds_toArray, List.set_cons_zero, List.set_cons_succ])
            refine wpAnyH_ready (rs := [8]) (by decide +kernel) (by simp) ?_
            refine AllReadyH_one rfl (fun K hK => ?_)
            go_simp
            go_at_call 34
            refine hcA.mono ?_
            rintro e w4 ⟨rfl, hk4⟩
            have KA := Lib.hid (kd3.out.trans hk4 (fun _ _ x => x))
            clear hk4 hcA
            refine hK.out _ _ ?_ (fun hHeld => ?_)
            · exact hsk.out _ KA.out
            clear hK K
            (try simp only [Act.put, List.setIfInBounds_toArray, List.set_cons_zero, List.set_cons_succ])
            refine' wpAnyH_tk (i := 9) (v := _) rfl (by kernel_rfl) (by decide +kernel) (by decide +kernel) (fun _ _ _ h => h) (Or.inl ⟨by rfl, ?_⟩) (by assumption) ?_
            rotate_left
            · (intro w hSw; (try dsimp only at hSw); (try go_simp); (try (with_reducible rfl)))
            (try simp only [Act.put, List.setIfInBounds_toArray, List.set_cons_zero, List.set_cons_succ])
            refine wpAnyH_done (by decide +kernel) ?_ _
            go_upto_region 21 with fail
            refine gen_world ?_
            intro wy hy
            have ky : Keep (fun _ => False) wr wy := by rw [hy]; exact HKZ.out.trans KA.out (fun _ _ x => x)
            clear hy
            have hRy := HR.out.1.step ky
            have hma := HQ.out wy _ _ _ hRy.keep HMV.out.1
            have m2 := hma.cell 2
            have m3 := hma.cell 3
            have m4 := hma.cell 4
            have m5 := hma.cell 5
            have ml := hma.lt
            have b3 := hRy.box.cell 3
            have bbl := hRy.box.lt
            have bf := hRy.box.frozen
            simp only [List.getElem?_toArray, List.getElem?_cons_succ, List.getElem?_cons_zero] at m2 m3 m4 m5 b3
            have HY := Lib.hid hRy
            clear hRy hma ky
            go_region_law (refine step_app rfl (.tmp 74) (.tmp 79) 23 rfl E25 (.slice Al l.length cl) l.length (tflat rs) rfl ((HY.out.own.alloc _).drew) wy.heap.size 1 1 #[.int .i64 mk, .string mnm, .slice mAn mnn mcn, .slice mAk mnk mck] rfl ((At.new_at (by simp)).drew) rfl (by simp [Value.oneCell']) (by decide) hbig (by decide) ?_; intro g' cap' w' ho' hk hg hgl; have ha := hk.at_ ((HY.out.box.alloc _).drew) (fun hx => by have h1 := HY.out.new ub hx; have h2 := HT.out.1; have h3 := HT.out.2.1; omega); have hz3 := ha.cell 3; have hzf := ha.frozen; have hzl := ha.lt; simp only [List.getElem?_toArray, List.getElem?_cons_succ, List.getElem?_cons_zero] at hz3)
            all_goals (
              have hRn := HY.out.app (r := ⟨mk, mnm, mAn, mnn, mcn, mAk, mnk, mck⟩) ho' hk hg (by have h1 := HT.out.1; have h3 := HT.out.2.1; omega) HMV.out.2
              have HRN := Lib.hid hRn
              clear hRn ho' hk hg hgl ha hz3 hzf hzl m2 m3 m4 m5 ml b3 bbl bf
              go_wp2_with fail
              go_roundg (6 - (i + 1))
              case measure => omega
              case rel => exact ⟨i + 1, _, _, _, by go_num, by omega, rfl, joinL_snoc HR.out.2.1 HE.out, by have := HR.out.2.2; rw [List.length_append, List.length_singleton]; omega, HRN.out⟩)
        · rw [hc] at ac
          rcases HX.out.2.1.at_ hlt with ⟨hqn, hd⟩ | ⟨pp, bp, hqm, hd, hPB⟩
          · rw [hd] at bc
            have hqm := hqn
            obtain ⟨⟨mk, mnm, mAn, mnn, mcn, mAk, mnk, mck⟩, hmA, hmV⟩ := hPA
            simp only at hmA
            have HMV := Lib.hid (And.intro hmA hmV)
            have HE := Lib.hid (show joinAt a b i = some [m.2] by unfold joinAt; rw [hpm, hqm])
            have hnf : NF m.2 := (prt_prt (normB_nf HNN.out.2.2.1) HNN.out.1 hpm).nf
            have HNF := Lib.hid hnf
            clear hpm hqm hc hd hll hmA hmV hnf
            go_wp2_with fail
            go_quiet (fail)
            go_upto_region 20 with fail
            refine gen_world ?_
            intro wz hz
            have kz : Keep (fun _ => False) wr wz := by rw [hz]; exact (Keep.refl _ wr).drewN _
            clear hz
            have hmz := HQ.out wz _ _ _ (HR.out.1.step kz).keep HMV.out.1
            have hsk : Hid (∀ w', Keep (fun _ => False) wz w' → (bm < w'.heap.size ∧ w'.cell? ⟨bm, 2, none⟩ = some (.int .i64 mk) ∧ w'.cell? ⟨bm, 3, none⟩ = some (.string mnm) ∧ w'.cell? ⟨bm, 4, none⟩ = some (.slice mAn mnn mcn) ∧ w'.cell? ⟨bm, 5, none⟩ = some (.slice mAk mnk mck))) := fun w' hk' => ⟨(hk'.at_ hmz (fun x => x)).lt, (hk'.at_ hmz (fun x => x)).cell 2, (hk'.at_ hmz (fun x => x)).cell 3, (hk'.at_ hmz (fun x => x)).cell 4, (hk'.at_ hmz (fun x => x)).cell 5⟩
            have kd3 : Hid (Keep (fun _ => False) wz wz.drew) := (Keep.refl _ _).drew
            have hvz := (HMV.out.2.mono (Z := nX) (fun i _ x => x.elim)).step ((HT.out.2.2.weak (HR.out.1.step kz).keep (fun g hg => by rw [hg]; have := HT.out.2.1; omega)).trans kd3.out (fun _ _ x => x))
            have hcA := below_any _ m.2 m.2 false (Nat.le_refl _) HNF.out HNF.out wz.drew ⟨mk, mnm, mAn, mnn, mcn, mAk, mnk, mck⟩ ⟨mk, mnm, mAn, mnn, mcn, mAk, mnk, mck⟩ hvz hvz
            rw [below_refl false _ HNF.out] at hcA
            unfold Tv.val at hcA
            simp only at hcA
            have HKZ := Lib.hid kz
            clear al bl ac bc hmz hvz kz
            refine wp_region_held_n (S := fun w' => (bm < w'.heap.size ∧ w'.cell? ⟨bm, 2, none⟩ = some (.int .i64 mk) ∧ w'.cell? ⟨bm, 3, none⟩ = some (.string mnm) ∧ w'.cell? ⟨bm, 4, none⟩ = some (.slice mAn mnn mcn) ∧ w'.cell? ⟨bm, 5, none⟩ = some (.slice mAk mnk mck))) 10 rfl (by kernel_rfl) ?_ (fun hHeld => ?_)
            · exact hsk.out _ kd3.out
            refine' wpAnyH_tk (i := 0) (v := _) rfl (by kernel_rfl) (by decide +kernel) (by decide +kernel) (fun _ _ _ h => h) (Or.inl ⟨by rfl, ?_⟩) (by assumption) ?_
            rotate_left
            · (intro w hSw; (try dsimp only at hSw); (try go_simp); (try (with_reducible rfl)))
            (try simp only [Act.put, List.setIfInBounds_toArray, List.set_cons_zero, List.set_cons_succ])
            refine' wpAnyH_tk (i := 1) (v := _) rfl (by kernel_rfl) (by decide +kernel) (by decide +kernel) (fun _ _ _ h => h) (Or.inl ⟨by rfl, ?_⟩) (by assumption) ?_
            rotate_left
            · (intro w hSw; (try dsimp only at hSw); (try go_simp); (try (with_reducible rfl)))
            (try simp only [Act.put, List.setIfInBounds_toArray, List.set_cons_zero, List.set_cons_succ])
            refine' wpAnyH_tk (i := 2) (v := _) rfl (by kernel_rfl) (by decide +kernel) (by decide +kernel) (fun _ _ _ h => h) (Or.inl ⟨by rfl, ?_⟩) (by assumption) ?_
            rotate_left
            · (intro w hSw; (try dsimp only at hSw); (try go_simp); (try (with_reducible rfl)))
            (try simp only [Act.put, List.setIfInBounds_toArray, List.set_cons_zero, List.set_cons_succ])
            refine' wpAnyH_tk (i := 3) (v := _) rfl (by kernel_rfl) (by decide +kernel) (by decide +kernel) (fun _ _ _ h => h) (Or.inl ⟨by rfl, ?_⟩) (by assumption) ?_
            rotate_left
            · (intro w hSw; (try dsimp only at hSw); (try go_simp); (try (with_reducible rfl)))
            (try simp only [Act.put, List.setIfInBounds_toArray, List.set_cons_zero, List.set_cons_succ])
            refine' wpAnyH_tk (i := 4) (v := _) rfl (by kernel_rfl) (by decide +kernel) (by decide +kernel) (fun _ _ _ h => h) (Or.inl ⟨by rfl, ?_⟩) (by assumption) ?_
            rotate_left
            · (intro w hSw; (try dsimp only at hSw); (try go_simp); (try (with_reducible rfl)))
            (try simp only [Act.put, List.setIfInBounds_toArray, List.set_cons_zero, List.set_cons_succ])
            refine' wpAnyH_tk (i := 5) (v := _) rfl (by kernel_rfl) (by decide +kernel) (by decide +kernel) (fun _ _ _ h => h) (Or.inl ⟨by rfl, ?_⟩) (by assumption) ?_
            rotate_left
            · (intro w hSw; (try dsimp only at hSw); (try go_simp); (try (with_reducible rfl)))
            (try simp only [Act.put, List.setIfInBounds_toArray, List.set_cons_zero, List.set_cons_succ])
            refine' wpAnyH_tk (i := 6) (v := _) rfl (by kernel_rfl) (by decide +kernel) (by decide +kernel) (fun _ _ _ h => h) (Or.inl ⟨by rfl, ?_⟩) (by assumption) ?_
            rotate_left
            · (intro w hSw; (try dsimp only at hSw); (try go_simp); (try (with_reducible rfl)))
            (try simp only [Act.put, List.setIfInBounds_toArray, List.set_cons_zero, List.set_cons_succ])
            refine' wpAnyH_tk (i := 7) (v := _) rfl (by kernel_rfl) (by decide +kernel) (by decide +kernel) (fun _ _ _ h => h) (Or.inl ⟨by rfl, ?_⟩) (by assumption) ?_
            rotate_left
            · (intro w hSw; (try dsimp only at hSw); (try go_simp); (try (with_reducible rfl)))
            (try simp only [Act.put, List.setIfInBounds_toArray, List.set_cons_zero, List.set_cons_succ])
            refine wpAnyH_ready (rs := [8]) (by decide +kernel) (by simp) ?_
            refine AllReadyH_one rfl (fun K hK => ?_)
            go_simp
            go_at_call 34
            refine hcA.mono ?_
            rintro e w4 ⟨rfl, hk4⟩
            have KA := Lib.hid (kd3.out.trans hk4 (fun _ _ x => x))
            clear hk4 hcA
            refine hK.out _ _ ?_ (fun hHeld => ?_)
            · exact hsk.out _ KA.out
            clear hK K
            (try simp only [Act.put, List.setIfInBounds_toArray, List.set_cons_zero, List.set_cons_succ])
            refine' wpAnyH_tk (i := 9) (v := _) rfl (by kernel_rfl) (by decide +kernel) (by decide +kernel) (fun _ _ _ h => h) (Or.inl ⟨by rfl, ?_⟩) (by assumption) ?_
            rotate_left
            · (intro w hSw; (try dsimp only at hSw); (try go_simp); (try (with_reducible rfl)))
            (try simp only [Act.put, List.setIfInBounds_toArray, List.set_cons_zero, List.set_cons_succ])
            refine wpAnyH_done (by decide +kernel) ?_ _
            go_upto_region 21 with fail
            refine gen_world ?_
            intro wy hy
            have ky : Keep (fun _ => False) wr wy := by rw [hy]; exact HKZ.out.trans KA.out (fun _ _ x => x)
            clear hy
            have hRy := HR.out.1.step ky
            have hma := HQ.out wy _ _ _ hRy.keep HMV.out.1
            have m2 := hma.cell 2
            have m3 := hma.cell 3
            have m4 := hma.cell 4
            have m5 := hma.cell 5
            have ml := hma.lt
            have b3 := hRy.box.cell 3
            have bbl := hRy.box.lt
            have bf := hRy.box.frozen
            simp only [List.getElem?_toArray, List.getElem?_cons_succ, List.getElem?_cons_zero] at m2 m3 m4 m5 b3
            have HY := Lib.hid hRy
            clear hRy hma ky
            go_region_law (refine step_app rfl (.tmp 74) (.tmp 79) 23 rfl E25 (.slice Al l.length cl) l.length (tflat rs) rfl ((HY.out.own.alloc _).drew) wy.heap.size 1 1 #[.int .i64 mk, .string mnm, .slice mAn mnn mcn, .slice mAk mnk mck] rfl ((At.new_at (by simp)).drew) rfl (by simp [Value.oneCell']) (by decide) hbig (by decide) ?_; intro g' cap' w' ho' hk hg hgl; have ha := hk.at_ ((HY.out.box.alloc _).drew) (fun hx => by have h1 := HY.out.new ub hx; have h2 := HT.out.1; have h3 := HT.out.2.1; omega); have hz3 := ha.cell 3; have hzf := ha.frozen; have hzl := ha.lt; simp only [List.getElem?_toArray, List.getElem?_cons_succ, List.getElem?_cons_zero] at hz3)
            all_goals (
              have hRn := HY.out.app (r := ⟨mk, mnm, mAn, mnn, mcn, mAk, mnk, mck⟩) ho' hk hg (by have h1 := HT.out.1; have h3 := HT.out.2.1; omega) HMV.out.2
              have HRN := Lib.hid hRn
              clear hRn ho' hk hg hgl ha hz3 hzf hzl m2 m3 m4 m5 ml b3 bbl bf
              go_wp2_with fail
              go_roundg (6 - (i + 1))
              case measure => omega
              case rel => exact ⟨i + 1, _, _, _, by go_num, by omega, rfl, joinL_snoc HR.out.2.1 HE.out, by have := HR.out.2.2; rw [List.length_append, List.length_singleton]; omega, HRN.out⟩)
          · rw [hd] at bc
            obtain ⟨⟨mk, mnm, mAn, mnn, mcn, mAk, mnk, mck⟩, hmA, hmV⟩ := hPA
            obtain ⟨⟨nk, nnm, nAn, nnn, ncn, nAk, nnk, nck⟩, hnA, hnV⟩ := hPB
            simp only at hmA hnA
            have HMV := Lib.hid (And.intro hmA hmV)
            have HNV := Lib.hid (And.intro hnA hnV)
            have hje : joinAt a b i = if belowT false m.2 pp.2 = true then some [pp.2] else if belowT false pp.2 m.2 = true then some [m.2] else none := by unfold joinAt; rw [hpm, hqm]
            have hnf : NF m.2 ∧ NF pp.2 := ⟨(prt_prt (normB_nf HNN.out.2.2.1) HNN.out.1 hpm).nf, (prt_prt (normB_nf HNN.out.2.2.2) HNN.out.2.1 hqm).nf⟩
            have HNF := Lib.hid (And.intro hnf hje)
            clear hpm hqm hc hd hll hmA hmV hnf hnA hnV hje
            go_wp2_with fail
            go_quiet (fail)
            go_upto_region 20 with fail
            refine gen_world ?_
            intro wz hz
            have kz : Keep (fun _ => False) wr wz := by rw [hz]; exact (Keep.refl _ wr).drewN _
            clear hz
            have hmz := HQ.out wz _ _ _ (HR.out.1.step kz).keep HMV.out.1
            have hnz := HQ.out wz _ _ _ (HR.out.1.step kz).keep HNV.out.1
            have hsk : Hid (∀ w', Keep (fun _ => False) wz w' → (bm < w'.heap.size ∧ w'.cell? ⟨bm, 2, none⟩ = some (.int .i64 mk) ∧ w'.cell? ⟨bm, 3, none⟩ = some (.string mnm) ∧ w'.cell? ⟨bm, 4, none⟩ = some (.slice mAn mnn mcn) ∧ w'.cell? ⟨bm, 5, none⟩ = some (.slice mAk mnk mck)) ∧ (bp < w'.heap.size ∧ w'.cell? ⟨bp, 2, none⟩ = some (.int .i64 nk) ∧ w'.cell? ⟨bp, 3, none⟩ = some (.string nnm) ∧ w'.cell? ⟨bp, 4, none⟩ = some (.slice nAn nnn ncn) ∧ w'.cell? ⟨bp, 5, none⟩ = some (.slice nAk nnk nck))) := fun w' hk' => ⟨⟨(hk'.at_ hmz (fun x => x)).lt, (hk'.at_ hmz (fun x => x)).cell 2, (hk'.at_ hmz (fun x => x)).cell 3, (hk'.at_ hmz (fun x => x)).cell 4, (hk'.at_ hmz (fun x => x)).cell 5⟩, ⟨(hk'.at_ hnz (fun x => x)).lt, (hk'.at_ hnz (fun x => x)).cell 2, (hk'.at_ hnz (fun x => x)).cell 3, (hk'.at_ hnz (fun x => x)).cell 4, (hk'.at_ hnz (fun x => x)).cell 5⟩⟩
            have kd3 : Hid (Keep (fun _ => False) wz wz.drew) := (Keep.refl _ _).drew
            have kvz : Hid (Keep (fun _ => False) wc wz) := HT.out.2.2.weak (HR.out.1.step kz).keep (fun g hg => by rw [hg]; have := HT.out.2.1; omega)
            have hcA := below_any _ m.2 pp.2 false (Nat.le_refl _) HNF.out.1.1 HNF.out.1.2 wz.drew ⟨mk, mnm, mAn, mnn, mcn, mAk, mnk, mck⟩ ⟨nk, nnm, nAn, nnn, ncn, nAk, nnk, nck⟩ ((HMV.out.2.mono (fun i _ x => x.elim)).step (kvz.out.trans kd3.out (fun _ _ x => x))) ((HNV.out.2.mono (fun i _ x => x.elim)).step (kvz.out.trans kd3.out (fun _ _ x => x)))
            unfold Tv.val at hcA
            simp only at hcA
            have HKZ := Lib.hid kz
            clear al bl ac bc hmz hnz kz
            cases hv1 : belowT false m.2 pp.2
            rotate_left
            · have HE := Lib.hid (show joinAt a b i = some [pp.2] by rw [HNF.out.2, if_pos hv1])
              rw [hv1] at hcA
              clear hv1
              refine wp_region_held_n (S := fun w' => (bm < w'.heap.size ∧ w'.cell? ⟨bm, 2, none⟩ = some (.int .i64 mk) ∧ w'.cell? ⟨bm, 3, none⟩ = some (.string mnm) ∧ w'.cell? ⟨bm, 4, none⟩ = some (.slice mAn mnn mcn) ∧ w'.cell? ⟨bm, 5, none⟩ = some (.slice mAk mnk mck)) ∧ (bp < w'.heap.size ∧ w'.cell? ⟨bp, 2, none⟩ = some (.int .i64 nk) ∧ w'.cell? ⟨bp, 3, none⟩ = some (.string nnm) ∧ w'.cell? ⟨bp, 4, none⟩ = some (.slice nAn nnn ncn) ∧ w'.cell? ⟨bp, 5, none⟩ = some (.slice nAk nnk nck))) 10 rfl (by kernel_rfl) ?_ (fun hHeld => ?_)
              · exact hsk.out _ kd3.out
              refine' wpAnyH_tk (i := 0) (v := _) rfl (by kernel_rfl) (by decide +kernel) (by decide +kernel) (fun _ _ _ h => h) (Or.inl ⟨by rfl, ?_⟩) (by assumption) ?_
              rotate_left
              · (intro w hSw; (try dsimp only at hSw); (try go_simp); (try (with_reducible rfl)))
              (try simp only [Act.put, List.setIfInBounds_toArray, List.set_cons_zero, List.set_cons_succ])
              refine' wpAnyH_tk (i := 1) (v := _) rfl (by kernel_rfl) (by decide +kernel) (by decide +kernel) (fun _ _ _ h => h) (Or.inl ⟨by rfl, ?_⟩) (by assumption) ?_
              rotate_left
              · (intro w hSw; (try dsimp only at hSw); (try go_simp); (try (with_reducible rfl)))
              (try simp only [Act.put, List.setIfInBounds_toArray, List.set_cons_zero, List.set_cons_succ])
              refine' wpAnyH_tk (i := 2) (v := _) rfl (by kernel_rfl) (by decide +kernel) (by decide +kernel) (fun _ _ _ h => h) (Or.inl ⟨by rfl, ?_⟩) (by assumption) ?_
              rotate_left
              · (intro w hSw; (try dsimp only at hSw); (try go_simp); (try (with_reducible rfl)))
              (try simp only [Act.put, List.setIfInBounds_toArray, List.set_cons_zero, List.set_cons_succ])
              refine' wpAnyH_tk (i := 3) (v := _) rfl (by kernel_rfl) (by decide +kernel) (by decide +kernel) (fun _ _ _ h => h) (Or.inl ⟨by rfl, ?_⟩) (by assumption) ?_
              rotate_left
              · (intro w hSw; (try dsimp only at hSw); (try go_simp); (try (with_reducible rfl)))
              (try simp only [Act.put, List.setIfInBounds_toArray, List.set_cons_zero, List.set_cons_succ])
              refine' wpAnyH_tk (i := 4) (v := _) rfl (by kernel_rfl) (by decide +kernel) (by decide +kernel) (fun _ _ _ h => h) (Or.inl ⟨by rfl, ?_⟩) (by assumption) ?_
              rotate_left
              · (intro w hSw; (try dsimp only at hSw); (try go_simp); (try (with_reducible rfl)))
              (try simp only [Act.put, List.setIfInBounds_toArray, List.set_cons_zero, List.set_cons_succ])
              refine' wpAnyH_tk (i := 5) (v := _) rfl (by kernel_rfl) (by decide +kernel) (by decide +kernel) (fun _ _ _ h => h) (Or.inl ⟨by rfl, ?_⟩) (by assumption) ?_
              rotate_left
              · (intro w hSw; (try dsimp only at hSw); (try go_simp); (try (with_reducible rfl)))
              (try simp only [Act.put, List.setIfInBounds_toArray, List.set_cons_zero, List.set_cons_succ])
              refine' wpAnyH_tk (i := 6) (v := _) rfl (by kernel_rfl) (by decide +kernel) (by decide +kernel) (fun _ _ _ h => h) (Or.inl ⟨by rfl, ?_⟩) (by assumption) ?_
              rotate_left
              · (intro w hSw; (try dsimp only at hSw); (try go_simp); (try (with_reducible rfl)))
              (try simp only [Act.put, List.setIfInBounds_toArray, List.set_cons_zero, List.set_cons_succ])
              refine' wpAnyH_tk (i := 7) (v := _) rfl (by kernel_rfl) (by decide +kernel) (by decide +kernel) (fun _ _ _ h => h) (Or.inl ⟨by rfl, ?_⟩) (by assumption) ?_
              rotate_left
              · (intro w hSw; (try dsimp only at hSw); (try go_simp); (try (with_reducible rfl)))
              (try simp only [Act.put, List.setIfInBounds_toArray, List.set_cons_zero, List.set_cons_succ])
              refine wpAnyH_ready (rs := [8]) (by decide +kernel) (by simp) ?_
              refine AllReadyH_one rfl (fun K hK => ?_)
              go_simp
              go_at_call 34
              refine hcA.mono ?_
              rintro e w4 ⟨rfl, hk4⟩
              have KA := Lib.hid (kd3.out.trans hk4 (fun _ _ x => x))
              clear hk4 hcA
              refine hK.out _ _ ?_ (fun hHeld => ?_)
              · exact hsk.out _ KA.out
              clear hK K
              (try simp only [Act.put, List.setIfInBounds_toArray, List.set_cons_zero, List.set_cons_succ])
              refine' wpAnyH_tk (i := 9) (v := _) rfl (by kernel_rfl) (by decide +kernel) (by decide +kernel) (fun _ _ _ h => h) (Or.inl ⟨by rfl, ?_⟩) (by assumption) ?_
              rotate_left
              · (intro w hSw; (try dsimp only at hSw); (try go_simp); (try (with_reducible rfl)))
              (try simp only [Act.put, List.setIfInBounds_toArray, List.set_cons_zero, List.set_cons_succ])
              refine wpAnyH_done (by decide +kernel) ?_ _
              go_upto_region 21 with fail
              refine gen_world ?_
              intro wy hy
              have ky : Keep (fun _ => False) wr wy := by rw [hy]; exact HKZ.out.trans KA.out (fun _ _ x => x)
              clear hy
              have hRy := HR.out.1.step ky
              have hma := HQ.out wy _ _ _ hRy.keep HNV.out.1
              have m2 := hma.cell 2
              have m3 := hma.cell 3
              have m4 := hma.cell 4
              have m5 := hma.cell 5
              have ml := hma.lt
              have b3 := hRy.box.cell 3
              have bbl := hRy.box.lt
              have bf := hRy.box.frozen
              simp only [List.getElem?_toArray, List.getElem?_cons_succ, List.getElem?_cons_zero] at m2 m3 m4 m5 b3
              have HY := Lib.hid hRy
              clear hRy hma ky
              go_region_law (refine step_app rfl (.tmp 74) (.tmp 79) 23 rfl E25 (.slice Al l.length cl) l.length (tflat rs) rfl ((HY.out.own.alloc _).drew) wy.heap.size 1 1 #[.int .i64 nk, .string nnm, .slice nAn nnn ncn, .slice nAk nnk nck] rfl ((At.new_at (by simp)).drew) rfl (by simp [Value.oneCell']) (by decide) hbig (by decide) ?_; intro g' cap' w' ho' hk hg hgl; have ha := hk.at_ ((HY.out.box.alloc _).drew) (fun hx => by have h1 := HY.out.new ub hx; have h2 := HT.out.1; have h3 := HT.out.2.1; omega); have hz3 := ha.cell 3; have hzf := ha.frozen; have hzl := ha.lt; simp only [List.getElem?_toArray, List.getElem?_cons_succ, List.getElem?_cons_zero] at hz3)
              all_goals (
                have hRn := HY.out.app (r := ⟨nk, nnm, nAn, nnn, ncn, nAk, nnk, nck⟩) ho' hk hg (by have h1 := HT.out.1; have h3 := HT.out.2.1; omega) HNV.out.2
                have HRN := Lib.hid hRn
                clear hRn ho' hk hg hgl ha hz3 hzf hzl m2 m3 m4 m5 ml b3 bbl bf
                go_wp2_with fail
                go_roundg (6 - (i + 1))
                case measure => omega
                case rel => exact ⟨i + 1, _, _, _, by go_num, by omega, rfl, joinL_snoc HR.out.2.1 HE.out, by have := HR.out.2.2; rw [List.length_append, List.length_singleton]; omega, HRN.out⟩)
            · have HE1 := Lib.hid (show joinAt a b i = if belowT false pp.2 m.2 = true then some [m.2] else none by rw [HNF.out.2, if_neg (by rw [hv1]; decide)])
              rw [hv1] at hcA
              clear hv1
              refine wp_region_held_n (S := fun w' => (bm < w'.heap.size ∧ w'.cell? ⟨bm, 2, none⟩ = some (.int .i64 mk) ∧ w'.cell? ⟨bm, 3, none⟩ = some (.string mnm) ∧ w'.cell? ⟨bm, 4, none⟩ = some (.slice mAn mnn mcn) ∧ w'.cell? ⟨bm, 5, none⟩ = some (.slice mAk mnk mck)) ∧ (bp < w'.heap.size ∧ w'.cell? ⟨bp, 2, none⟩ = some (.int .i64 nk) ∧ w'.cell? ⟨bp, 3, none⟩ = some (.string nnm) ∧ w'.cell? ⟨bp, 4, none⟩ = some (.slice nAn nnn ncn) ∧ w'.cell? ⟨bp, 5, none⟩ = some (.slice nAk nnk nck))) 10 rfl (by kernel_rfl) ?_ (fun hHeld => ?_)
              · exact hsk.out _ kd3.out
              refine' wpAnyH_tk (i := 0) (v := _) rfl (by kernel_rfl) (by decide +kernel) (by decide +kernel) (fun _ _ _ h => h) (Or.inl ⟨by rfl, ?_⟩) (by assumption) ?_
              rotate_left
              · (intro w hSw; (try dsimp only at hSw); (try go_simp); (try (with_reducible rfl)))
              (try simp only [Act.put, List.setIfInBounds_toArray, List.set_cons_zero, List.set_cons_succ])
              refine' wpAnyH_tk (i := 1) (v := _) rfl (by kernel_rfl) (by decide +kernel) (by decide +kernel) (fun _ _ _ h => h) (Or.inl ⟨by rfl, ?_⟩) (by assumption) ?_
              rotate_left
              · (intro w hSw; (try dsimp only at hSw); (try go_simp); (try (with_reducible rfl)))
              (try simp only [Act.put, List.setIfInBounds_toArray, List.set_cons_zero, List.set_cons_succ])
              refine' wpAnyH_tk (i := 2) (v := _) rfl (by kernel_rfl) (by decide +kernel) (by decide +kernel) (fun _ _ _ h => h) (Or.inl ⟨by rfl, ?_⟩) (by assumption) ?_
              rotate_left
              · (intro w hSw; (try dsimp only at hSw); (try go_simp); (try (with_reducible rfl)))
              (try simp only [Act.put, List.setIfInBounds_toArray, List.set_cons_zero, List.set_cons_succ])
              refine' wpAnyH_tk (i := 3) (v := _) rfl (by kernel_rfl) (by decide +kernel) (by decide +kernel) (fun _ _ _ h => h) (Or.inl ⟨by rfl, ?_⟩) (by assumption) ?_
              rotate_left
              · (intro w hSw; (try dsimp only at hSw); (try go_simp); (try (with_reducible rfl)))
              (try simp only [Act.put, List.setIfInBounds_toArray, List.set_cons_zero, List.set_cons_succ])
              refine' wpAnyH_tk (i := 4) (v := _) rfl (by kernel_rfl) (by decide +kernel) (by decide +kernel) (fun _ _ _ h => h) (Or.inl ⟨by rfl, ?_⟩) (by assumption) ?_
              rotate_left
              · (intro w hSw; (try dsimp only at hSw); (try go_simp); (try (with_reducible rfl)))
              (try simp only [Act.put, List.setIfInBounds_toArray, List.set_cons_zero, List.set_cons_succ])
              refine' wpAnyH_tk (i := 5) (v := _) rfl (by kernel_rfl) (by decide +kernel) (by decide +kernel) (fun _ _ _ h => h) (Or.inl ⟨by rfl, ?_⟩) (by assumption) ?_
              rotate_left
              · (intro w hSw; (try dsimp only at hSw); (try go_simp); (try (with_reducible rfl)))
              (try simp only [Act.put, List.setIfInBounds_toArray, List.set_cons_zero, List.set_cons_succ])
              refine' wpAnyH_tk (i := 6) (v := _) rfl (by kernel_rfl) (by decide +kernel) (by decide +kernel) (fun _ _ _ h => h) (Or.inl ⟨by rfl, ?_⟩) (by assumption) ?_
              rotate_left
              · (intro w hSw; (try dsimp only at hSw); (try go_simp); (try (with_reducible rfl)))
              (try simp only [Act.put, List.setIfInBounds_toArray, List.set_cons_zero, List.set_cons_succ])
              refine' wpAnyH_tk (i := 7) (v := _) rfl (by kernel_rfl) (by decide +kernel) (by decide +kernel) (fun _ _ _ h => h) (Or.inl ⟨by rfl, ?_⟩) (by assumption) ?_
              rotate_left
              · (intro w hSw; (try dsimp only at hSw); (try go_simp); (try (with_reducible rfl)))
              (try simp only [Act.put, List.setIfInBounds_toArray, List.set_cons_zero, List.set_cons_succ])
              refine wpAnyH_ready (rs := [8]) (by decide +kernel) (by simp) ?_
              refine AllReadyH_one rfl (fun K hK => ?_)
              go_simp
              go_at_call 34
              refine hcA.mono ?_
              rintro e w4 ⟨rfl, hk4⟩
              have KA := Lib.hid (kd3.out.trans hk4 (fun _ _ x => x))
              clear hk4 hcA
              refine hK.out _ _ ?_ (fun hHeld => ?_)
              · exact hsk.out _ KA.out
              clear hK K
              (try simp only [Act.put, List.setIfInBounds_toArray, List.set_cons_zero, List.set_cons_succ])
              refine' wpAnyH_tk (i := 9) (v := _) rfl (by kernel_rfl) (by decide +kernel) (by decide +kernel) (fun _ _ _ h => h) (Or.inl ⟨by rfl, ?_⟩) (by assumption) ?_
              rotate_left
              · (intro w hSw; (try dsimp only at hSw); (try go_simp); (try (with_reducible rfl)))
              (try simp only [Act.put, List.setIfInBounds_toArray, List.set_cons_zero, List.set_cons_succ])
              refine wpAnyH_done (by decide +kernel) ?_ _
              go_upto_region 22 with fail
              have ke3 : Hid (Keep (fun _ => False) w4 w4.drew) := (Keep.refl _ _).drew
              have hcB := below_any _ pp.2 m.2 false (Nat.le_refl _) HNF.out.1.2 HNF.out.1.1 w4.drew ⟨nk, nnm, nAn, nnn, ncn, nAk, nnk, nck⟩ ⟨mk, mnm, mAn, mnn, mcn, mAk, mnk, mck⟩ ((HNV.out.2.mono (fun i _ x => x.elim)).step ((kvz.out.trans KA.out (fun _ _ x => x)).trans ke3.out (fun _ _ x => x))) ((HMV.out.2.mono (fun i _ x => x.elim)).step ((kvz.out.trans KA.out (fun _ _ x => x)).trans ke3.out (fun _ _ x => x)))
              unfold Tv.val at hcB
              simp only at hcB
              cases hv2 : belowT false pp.2 m.2
              rotate_left
              · have HE := Lib.hid (show joinAt a b i = some [m.2] by rw [HE1.out, if_pos hv2])
                rw [hv2] at hcB
                clear hv2
                refine wp_region_held_n (S := fun w' => (bm < w'.heap.size ∧ w'.cell? ⟨bm, 2, none⟩ = some (.int .i64 mk) ∧ w'.cell? ⟨bm, 3, none⟩ = some (.string mnm) ∧ w'.cell? ⟨bm, 4, none⟩ = some (.slice mAn mnn mcn) ∧ w'.cell? ⟨bm, 5, none⟩ = some (.slice mAk mnk mck)) ∧ (bp < w'.heap.size ∧ w'.cell? ⟨bp, 2, none⟩ = some (.int .i64 nk) ∧ w'.cell? ⟨bp, 3, none⟩ = some (.string nnm) ∧ w'.cell? ⟨bp, 4, none⟩ = some (.slice nAn nnn ncn) ∧ w'.cell? ⟨bp, 5, none⟩ = some (.slice nAk nnk nck))) 10 rfl (by kernel_rfl) ?_ (fun hHeld => ?_)
                · exact hsk.out _ (KA.out.trans ke3.out (fun _ _ x => x))
                refine' wpAnyH_tk (i := 0) (v := _) rfl (by kernel_rfl) (by decide +kernel) (by decide +kernel) (fun _ _ _ h => h) (Or.inl ⟨by rfl, ?_⟩) (by assumption) ?_
                rotate_left
                · (intro w hSw; (try dsimp only at hSw); (try go_simp); (try (with_reducible rfl)))
                (try simp only [Act.put, List.setIfInBounds_toArray, List.set_cons_zero, List.set_cons_succ])
                refine' wpAnyH_tk (i := 1) (v := _) rfl (by kernel_rfl) (by decide +kernel) (by decide +kernel) (fun _ _ _ h => h) (Or.inl ⟨by rfl, ?_⟩) (by assumption) ?_
                rotate_left
                · (intro w hSw; (try dsimp only at hSw); (try go_simp); (try (with_reducible rfl)))
                (try simp only [Act.put, List.setIfInBounds_toArray, List.set_cons_zero, List.set_cons_succ])
                refine' wpAnyH_tk (i := 2) (v := _) rfl (by kernel_rfl) (by decide +kernel) (by decide +kernel) (fun _ _ _ h => h) (Or.inl ⟨by rfl, ?_⟩) (by assumption) ?_
                rotate_left
                · (intro w hSw; (try dsimp only at hSw); (try go_simp); (try (with_reducible rfl)))
                (try simp only [Act.put, List.setIfInBounds_toArray, List.set_cons_zero, List.set_cons_succ])
                refine' wpAnyH_tk (i := 3) (v := _) rfl (by kernel_rfl) (by decide +kernel) (by decide +kernel) (fun _ _ _ h => h) (Or.inl ⟨by rfl, ?_⟩) (by assumption) ?_
                rotate_left
                · (intro w hSw; (try dsimp only at hSw); (try go_simp); (try (with_reducible rfl)))
                (try simp only [Act.put, List.setIfInBounds_toArray, List.set_cons_zero, List.set_cons_succ])
                refine' wpAnyH_tk (i := 4) (v := _) rfl (by kernel_rfl) (by decide +kernel) (by decide +kernel) (fun _ _ _ h => h) (Or.inl ⟨by rfl, ?_⟩) (by assumption) ?_
                rotate_left
                · (intro w hSw; (try dsimp only at hSw); (try go_simp); (try (with_reducible rfl)))
                (try simp only [Act.put, List.setIfInBounds_toArray, List.set_cons_zero, List.set_cons_succ])
                refine' wpAnyH_tk (i := 5) (v := _) rfl (by kernel_rfl) (by decide +kernel) (by decide +kernel) (fun _ _ _ h => h) (Or.inl ⟨by rfl, ?_⟩) (by assumption) ?_
                rotate_left
                · (intro w hSw; (try dsimp only at hSw); (try go_simp); (try (with_reducible rfl)))
                (try simp only [Act.put, List.setIfInBounds_toArray, List.set_cons_zero, List.set_cons_succ])
                refine' wpAnyH_tk (i := 6) (v := _) rfl (by kernel_rfl) (by decide +kernel) (by decide +kernel) (fun _ _ _ h => h) (Or.inl ⟨by rfl, ?_⟩) (by assumption) ?_
                rotate_left
                · (intro w hSw; (try dsimp only at hSw); (try go_simp); (try (with_reducible rfl)))
                (try simp only [Act.put, List.setIfInBounds_toArray, List.set_cons_zero, List.set_cons_succ])
                refine' wpAnyH_tk (i := 7) (v := _) rfl (by kernel_rfl) (by decide +kernel) (by decide +kernel) (fun _ _ _ h => h) (Or.inl ⟨by rfl, ?_⟩) (by assumption) ?_
                rotate_left
                · (intro w hSw; (try dsimp only at hSw); (try go_simp); (try (with_reducible rfl)))
                (try simp only [Act.put, List.setIfInBounds_toArray, List.set_cons_zero, List.set_cons_succ])
                refine wpAnyH_ready (rs := [8]) (by decide +kernel) (by simp) ?_
                refine AllReadyH_one rfl (fun K hK => ?_)
                go_simp
                go_at_call 34
                refine hcB.mono ?_
                rintro e w5 ⟨rfl, hk5⟩
                have KB := Lib.hid (ke3.out.trans hk5 (fun _ _ x => x))
                clear hk5 hcB
                refine hK.out _ _ ?_ (fun hHeld => ?_)
                · exact hsk.out _ (KA.out.trans KB.out (fun _ _ x => x))
                clear hK K
                (try simp only [Act.put, List.setIfInBounds_toArray, List.set_cons_zero, List.set_cons_succ])
                refine' wpAnyH_tk (i := 9) (v := _) rfl (by kernel_rfl) (by decide +kernel) (by decide +kernel) (fun _ _ _ h => h) (Or.inl ⟨by rfl, ?_⟩) (by assumption) ?_
                rotate_left
                · (intro w hSw; (try dsimp only at hSw); (try go_simp); (try (with_reducible rfl)))
                (try simp only [Act.put, List.setIfInBounds_toArray, List.set_cons_zero, List.set_cons_succ])
                refine wpAnyH_done (by decide +kernel) ?_ _
                go_upto_region 23 with fail
                refine gen_world ?_
                intro wy hy
                have ky : Keep (fun _ => False) wr wy := by rw [hy]; exact (HKZ.out.trans KA.out (fun _ _ x => x)).trans KB.out (fun _ _ x => x)
                clear hy
                have hRy := HR.out.1.step ky
                have hma := HQ.out wy _ _ _ hRy.keep HMV.out.1
                have m2 := hma.cell 2
                have m3 := hma.cell 3
                have m4 := hma.cell 4
                have m5 := hma.cell 5
                have ml := hma.lt
                have b3 := hRy.box.cell 3
                have bbl := hRy.box.lt
                have bf := hRy.box.frozen
                simp only [List.getElem?_toArray, List.getElem?_cons_succ, List.getElem?_cons_zero] at m2 m3 m4 m5 b3
                have HY := Lib.hid hRy
                clear hRy hma ky
                go_region_law (refine step_app rfl (.tmp 93) (.tmp 98) 23 rfl E25 (.slice Al l.length cl) l.length (tflat rs) rfl ((HY.out.own.alloc _).drew) wy.heap.size 1 1 #[.int .i64 mk, .string mnm, .slice mAn mnn mcn, .slice mAk mnk mck] rfl ((At.new_at (by simp)).drew) rfl (by simp [Value.oneCell']) (by decide) hbig (by decide) ?_; intro g' cap' w' ho' hk hg hgl; have ha := hk.at_ ((HY.out.box.alloc _).drew) (fun hx => by have h1 := HY.out.new ub hx; have h2 := HT.out.1; have h3 := HT.out.2.1; omega); have hz3 := ha.cell 3; have hzf := ha.frozen; have hzl := ha.lt; simp only [List.getElem?_toArray, List.getElem?_cons_succ, List.getElem?_cons_zero] at hz3)
                all_goals (
                  have hRn := HY.out.app (r := ⟨mk, mnm, mAn, mnn, mcn, mAk, mnk, mck⟩) ho' hk hg (by have h1 := HT.out.1; have h3 := HT.out.2.1; omega) HMV.out.2
                  have HRN := Lib.hid hRn
                  clear hRn ho' hk hg hgl ha hz3 hzf hzl m2 m3 m4 m5 ml b3 bbl bf
                  go_wp2_with fail
                  go_roundg (6 - (i + 1))
                  case measure => omega
                  case rel => exact ⟨i + 1, _, _, _, by go_num, by omega, rfl, joinL_snoc HR.out.2.1 HE.out, by have := HR.out.2.2; rw [List.length_append, List.length_singleton]; omega, HRN.out⟩)
              · have HE := Lib.hid (show joinAt a b i = none by rw [HE1.out, if_neg (by rw [hv2]; decide)])
                rw [hv2] at hcB
                clear hv2
                refine wp_region_held_n (S := fun w' => (bm < w'.heap.size ∧ w'.cell? ⟨bm, 2, none⟩ = some (.int .i64 mk) ∧ w'.cell? ⟨bm, 3, none⟩ = some (.string mnm) ∧ w'.cell? ⟨bm, 4, none⟩ = some (.slice mAn mnn mcn) ∧ w'.cell? ⟨bm, 5, none⟩ = some (.slice mAk mnk mck)) ∧ (bp < w'.heap.size ∧ w'.cell? ⟨bp, 2, none⟩ = some (.int .i64 nk) ∧ w'.cell? ⟨bp, 3, none⟩ = some (.string nnm) ∧ w'.cell? ⟨bp, 4, none⟩ = some (.slice nAn nnn ncn) ∧ w'.cell? ⟨bp, 5, none⟩ = some (.slice nAk nnk nck))) 10 rfl (by kernel_rfl) ?_ (fun hHeld => ?_)
                · exact hsk.out _ (KA.out.trans ke3.out (fun _ _ x => x))
                refine' wpAnyH_tk (i := 0) (v := _) rfl (by kernel_rfl) (by decide +kernel) (by decide +kernel) (fun _ _ _ h => h) (Or.inl ⟨by rfl, ?_⟩) (by assumption) ?_
                rotate_left
                · (intro w hSw; (try dsimp only at hSw); (try go_simp); (try (with_reducible rfl)))
                (try simp only [Act.put, List.setIfInBounds_toArray, List.set_cons_zero, List.set_cons_succ])
                refine' wpAnyH_tk (i := 1) (v := _) rfl (by kernel_rfl) (by decide +kernel) (by decide +kernel) (fun _ _ _ h => h) (Or.inl ⟨by rfl, ?_⟩) (by assumption) ?_
                rotate_left
                · (intro w hSw; (try dsimp only at hSw); (try go_simp); (try (with_reducible rfl)))
                (try simp only [Act.put, List.setIfInBounds_toArray, List.set_cons_zero, List.set_cons_succ])
                refine' wpAnyH_tk (i := 2) (v := _) rfl (by kernel_rfl) (by decide +kernel) (by decide +kernel) (fun _ _ _ h => h) (Or.inl ⟨by rfl, ?_⟩) (by assumption) ?_
                rotate_left
                · (intro w hSw; (try dsimp only at hSw); (try go_simp); (try (with_reducible rfl)))
                (try simp only [Act.put, List.setIfInBounds_toArray, List.set_cons_zero, List.set_cons_succ])
                refine' wpAnyH_tk (i := 3) (v := _) rfl (by kernel_rfl) (by decide +kernel) (by decide +kernel) (fun _ _ _ h => h) (Or.inl ⟨by rfl, ?_⟩) (by assumption) ?_
                rotate_left
                · (intro w hSw; (try dsimp only at hSw); (try go_simp); (try (with_reducible rfl)))
                (try simp only [Act.put, List.setIfInBounds_toArray, List.set_cons_zero, List.set_cons_succ])
                refine' wpAnyH_tk (i := 4) (v := _) rfl (by kernel_rfl) (by decide +kernel) (by decide +kernel) (fun _ _ _ h => h) (Or.inl ⟨by rfl, ?_⟩) (by assumption) ?_
                rotate_left
                · (intro w hSw; (try dsimp only at hSw); (try go_simp); (try (with_reducible rfl)))
                (try simp only [Act.put, List.setIfInBounds_toArray, List.set_cons_zero, List.set_cons_succ])
                refine' wpAnyH_tk (i := 5) (v := _) rfl (by kernel_rfl) (by decide +kernel) (by decide +kernel) (fun _ _ _ h => h) (Or.inl ⟨by rfl, ?_⟩) (by assumption) ?_
                rotate_left
                · (intro w hSw; (try dsimp only at hSw); (try go_simp); (try (with_reducible rfl)))
                (try simp only [Act.put, List.setIfInBounds_toArray, List.set_cons_zero, List.set_cons_succ])
                refine' wpAnyH_tk (i := 6) (v := _) rfl (by kernel_rfl) (by decide +kernel) (by decide +kernel) (fun _ _ _ h => h) (Or.inl ⟨by rfl, ?_⟩) (by assumption) ?_
                rotate_left
                · (intro w hSw; (try dsimp only at hSw); (try go_simp); (try (with_reducible rfl)))
                (try simp only [Act.put, List.setIfInBounds_toArray, List.set_cons_zero, List.set_cons_succ])
                refine' wpAnyH_tk (i := 7) (v := _) rfl (by kernel_rfl) (by decide +kernel) (by decide +kernel) (fun _ _ _ h => h) (Or.inl ⟨by rfl, ?_⟩) (by assumption) ?_
                rotate_left
                · (intro w hSw; (try dsimp only at hSw); (try go_simp); (try (with_reducible rfl)))
                (try simp only [Act.put, List.setIfInBounds_toArray, List.set_cons_zero, List.set_cons_succ])
                refine wpAnyH_ready (rs := [8]) (by decide +kernel) (by simp) ?_
                refine AllReadyH_one rfl (fun K hK => ?_)
                go_simp
                go_at_call 34
                refine hcB.mono ?_
                rintro e w5 ⟨rfl, hk5⟩
                have KB := Lib.hid (ke3.out.trans hk5 (fun _ _ x => x))
                clear hk5 hcB
                refine hK.out _ _ ?_ (fun hHeld => ?_)
                · exact hsk.out _ (KA.out.trans KB.out (fun _ _ x => x))
                clear hK K
                (try simp only [Act.put, List.setIfInBounds_toArray, List.set_cons_zero, List.set_cons_succ])
                refine' wpAnyH_tk (i := 9) (v := _) rfl (by kernel_rfl) (by decide +kernel) (by decide +kernel) (fun _ _ _ h => h) (Or.inl ⟨by rfl, ?_⟩) (by assumption) ?_
                rotate_left
                · (intro w hSw; (try dsimp only at hSw); (try go_simp); (try (with_reducible rfl)))
                (try simp only [Act.put, List.setIfInBounds_toArray, List.set_cons_zero, List.set_cons_succ])
                refine wpAnyH_done (by decide +kernel) ?_ _
                have KC : Hid (Keep (fun _ => False) w1 w5) := HL.out w5 (HR.out.1.step ((HKZ.out.trans KA.out (fun _ _ x => x)).trans KB.out (fun _ _ x => x))).keep
                have HJ := Lib.hid (show joinT a b = ty0 by rw [HJM.out, joinL_none HE.out 6 (by omega)])
                obtain ⟨⟨xl, x0, x1, x2, x3⟩, ⟨yl, y0, y1, y2, y3⟩, ⟨rl, r0, r1, r2, r3⟩, ⟨f0, f1, f2, f3⟩, nl, n0, n1, n2, n3⟩ := HC1.out _ KC.out
                go_wp2_with fail
                (try simp only [Exit.inBlock, Exit.then])
                have ra := KC.out.at_ H.out.2.2.2.1 (fun x => x)
                refine bodyPost_ret (ret_cell1 rfl rfl ((((ra.set 0 _).set 1 _).set 2 _).set 3 _)) rfl ?_
                have kf := KF.out _ (.int .i64 0) (.string ⟨#[]⟩) (.slice none 0 0) (.slice none 0 0) KC.out
                exact ⟨⟨⟨0, ⟨#[]⟩, none, 0, 0, none, 0, 0⟩, rfl, by rw [HJ.out]; exact tv_base 0⟩, kf⟩
      · have hie : i = 6 := by omega
        subst hie
        have kwr : Keep (fun _ => False) wc wr := HT.out.2.2.weak hR.keep (fun g hg => by rw [hg]; have := HT.out.2.1; omega)
        have hb2 : b2_ < wc.heap.size := by have h1 := HX.out.2.2.2.2.at_ H.out.2.2.2.1 (fun x => x); exact h1.lt
        have hty := hR.fin (wf := wr) (rb := b2_) (fun i hi => by rw [hi]; exact hb2) HT.out.2.2.size hll (by have h1 := (HL.out wt (Keep.refl _ _)).at_ H.out.2.2.2.1 (fun x => x); exact h1.lt) (Keep.refl _ wr) kwr
        have KC : Hid (Keep (fun _ => False) w1 wr) := HL.out wr hR.keep
        have hnn := Norm_any (X := fun g => g = b2_) (fun i hi => by rw [hi]; have := kwr.size; omega) (H.out.2.2.2.2.2.1.step KC.out) hty
        obtain ⟨ul, u0, u1, u2, u3⟩ := hR.box.tcells
        have HJ0 := Lib.hid (show joinT a b = (NormT (.mk 7 ⟨#[]⟩ [] l)).getD ty0 by rw [HJM.out, hjl])
        unfold Tv.val at hnn
        simp only at hnn
        obtain ⟨⟨xl, x0, x1, x2, x3⟩, ⟨yl, y0, y1, y2, y3⟩, ⟨rl, r0, r1, r2, r3⟩, ⟨f0, f1, f2, f3⟩, nl, n0, n1, n2, n3⟩ := HC1.out wr KC.out
        clear hty kwr hR hjl hll hb2
        cases hno : NormT (.mk 7 ⟨#[]⟩ [] l)
        · rw [hno] at hnn HJ0
          have HJ := Lib.hid (show joinT a b = ty0 from HJ0.out)
          clear hno
          go_wp2_with (go_at_call 42; refine hnn.mono ?_; rintro e w4 ⟨he, hk4⟩; unfold NormP at he; simp only [Tv.val, tv0] at he; subst he; have KN := Lib.hid (KC.out.trans hk4 (fun _ _ x => x)); clear KC hk4 hnn xl x0 x1 x2 x3 yl y0 y1 y2 y3 rl r0 r1 r2 r3 f0 f1 f2 f3 nl n0 n1 n2 n3; have KC := KN; clear KN; obtain ⟨⟨xl, x0, x1, x2, x3⟩, ⟨yl, y0, y1, y2, y3⟩, ⟨rl, r0, r1, r2, r3⟩, ⟨f0, f1, f2, f3⟩, nl, n0, n1, n2, n3⟩ := HC1.out _ KC.out)
          (try simp only [Exit.inBlock, Exit.then])
          have ra := KC.out.at_ H.out.2.2.2.1 (fun x => x)
          refine bodyPost_ret (ret_cell1 rfl rfl (((((ra.set 0 _).set 1 _).set 2 _).set 3 _).alloc _)) rfl ?_
          have kf := KF.out _ (.int .i64 0) (.string ⟨#[]⟩) (.slice none 0 0) (.slice none 0 0) KC.out
          exact ⟨⟨⟨0, ⟨#[]⟩, none, 0, 0, none, 0, 0⟩, rfl, by rw [HJ.out]; exact tv_base 0⟩, kf.alloc _⟩
        · rename_i tt
          rw [hno] at hnn HJ0
          have HJ := Lib.hid (show joinT a b = tt from HJ0.out)
          clear hno
          go_wp2_with (go_at_call 42; refine hnn.mono ?_; rintro e w4 ⟨⟨⟨pk, pnm, pAn, pnn, pcn, pAk, pnk, pck⟩, he, hpV⟩, hk4⟩; simp only [Tv.val] at he; subst he; have KN := Lib.hid (KC.out.trans hk4 (fun _ _ x => x)); have HPV := Lib.hid hpV; clear KC hk4 hnn hpV xl x0 x1 x2 x3 yl y0 y1 y2 y3 rl r0 r1 r2 r3 f0 f1 f2 f3 nl n0 n1 n2 n3; have KC := KN; clear KN; obtain ⟨⟨xl, x0, x1, x2, x3⟩, ⟨yl, y0, y1, y2, y3⟩, ⟨rl, r0, r1, r2, r3⟩, ⟨f0, f1, f2, f3⟩, nl, n0, n1, n2, n3⟩ := HC1.out _ KC.out)
          (try simp only [Exit.inBlock, Exit.then])
          have ra := KC.out.at_ H.out.2.2.2.1 (fun x => x)
          refine bodyPost_ret (ret_cell1 rfl rfl (((((ra.set 0 _).set 1 _).set 2 _).set 3 _).alloc _)) rfl ?_
          have kf := KF.out _ (.int .i64 pk) (.string pnm) (.slice pAn pnn pcn) (.slice pAk pnk pck) KC.out
          exact ⟨⟨⟨pk, pnm, pAn, pnn, pcn, pAk, pnk, pck⟩, rfl, by rw [HJ.out]; exact (HPV.out.keep (Keep.set4 (Keep.refl (fun g => g = b2_) w4) (.inl rfl) (.int .i64 pk) (.string pnm) (.slice pAn pnn pcn) (.slice pAk pnk pck)) (fun _ _ hx => hx) (fun _ _ hx => hx.elim)).step ((Keep.refl (fun _ => False) _).alloc _)⟩, kf.alloc _⟩
end Go.Proofs.YtbanpohholnkaaaDoor
