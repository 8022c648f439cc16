/-
  Walk: rel.naive. Conditions: normal types.
-/
import Derived.Test.YtbanpohholnkaaaDoorWNaive
namespace Go.Proofs.YtbanpohholnkaaaDoor
open Go.RowKit

def NlA (a b : Ty) (w : World) (k : Nat) (v : Value) (wr : World) : Prop :=
  ∃ i : Nat, v = .int .i64 i ∧ i ≤ 6 ∧ k = 6 - i ∧ (∀ tag, tag < i → (prt a tag).isSome = (prt b tag).isSome) ∧ Keep (fun _ => False) w wr
theorem naiT_tags {a b : Ty} (a0 : a.kind ≠ 0) (b0 : b.kind ≠ 0) (h : ∀ tag, tag < 6 → (prt a tag).isSome = (prt b tag).isSome) : naiveT a b = eachB a b false (naiP naiveT) := by
  rw [naiveT_eq, if_neg (by simp [a0, b0])]
  have : (List.range 6).all (fun tag => decide ((prt a tag).isSome = (prt b tag).isSome)) = true := by
    rw [List.all_eq_true]
    exact fun x hx => decide_eq_true (h x (List.mem_range.1 hx))
  rw [this, Bool.true_and]
theorem naiT_bad {a b : Ty} (a0 : a.kind ≠ 0) (b0 : b.kind ≠ 0) {tag : Nat} (ht : tag < 6) (h : (prt a tag).isSome ≠ (prt b tag).isSome) : naiveT a b = false := by
  rw [naiveT_eq, if_neg (by simp [a0, b0])]
  have : (List.range 6).all (fun tag => decide ((prt a tag).isSome = (prt b tag).isSome)) = false := by
    cases hc : (List.range 6).all (fun tag => decide ((prt a tag).isSome = (prt b tag).isSome)) with
    | false => rfl
    | true =>
      rw [List.all_eq_true] at hc
      exact absurd (of_decide_eq_true (hc tag (List.mem_range.2 ht))) h
  rw [this, Bool.false_and]
set_option maxRecDepth 100000 in
set_option maxHeartbeats 8000000 in
theorem naive_any : ∀ (n : Nat) (a b : Ty), a.size + b.size ≤ n → NF a → NF b → NaiOk a b := by
  intro n
  induction n with
  | zero => intro a b h; have := a.size_pos; omega
  | succ n ih =>
    intro a b hsz na nb w r r' h h'
    have key : a.kind ≠ 0 → b.kind ≠ 0 → ∀ (w' : World), TyV w' nX r a → TyV w' nX r' b → Calls Tryd.prog 55 #[r.val, r'.val, .bool false, .func (.func 59) #[] #[]] w' fun e w'' => e = .returned (.bool (eachB a b false (naiP naiveT))) ∧ Keep (fun _ => False) w' w'' := fun a0 b0 w' h1 h2 => each_naive (naiP naiveT) na nb h1 h2 (fun tag m p w'' bm bp ht hm hp hk hPA hPB => nai1_any hPA hPB (fun x hx y hy => by
      have sx := (prt_prt na a0 hm).lt x hx
      have sy := (prt_prt nb b0 hp).lt y hy
      have nx := (prt_prt na a0 hm).nf.kid x hx
      have ny := (prt_prt nb b0 hp).nf.kid y hy
      exact ih x y (by omega) nx ny))
    obtain ⟨k, nm, An, nn, cn, Ak, nk, ck⟩ := r
    obtain ⟨k', nm', An', nn', cn', Ak', nk', ck'⟩ := r'
    have kw : Keep (fun _ => False) w ((w.alloc (.cells #[.int .i64 k, .string nm, .slice An nn cn, .slice Ak nk ck] 25)).alloc (.cells #[.int .i64 k', .string nm', .slice An' nn' cn', .slice Ak' nk' ck'] 25)) := ((Keep.refl _ w).alloc _).alloc _
    have a0 : At ((w.alloc (.cells #[.int .i64 k, .string nm, .slice An nn cn, .slice Ak nk ck] 25)).alloc (.cells #[.int .i64 k', .string nm', .slice An' nn' cn', .slice Ak' nk' ck'] 25)) w.heap.size 25 #[.int .i64 k, .string nm, .slice An nn cn, .slice Ak nk ck] := (At.new _ _ _).alloc _
    have a1 : At ((w.alloc (.cells #[.int .i64 k, .string nm, .slice An nn cn, .slice Ak nk ck] 25)).alloc (.cells #[.int .i64 k', .string nm', .slice An' nn' cn', .slice Ak' nk' ck'] 25)) (w.heap.size + 1) 25 #[.int .i64 k', .string nm', .slice An' nn' cn', .slice Ak' nk' ck'] := At.new_at (by simp)
    have hDA := fun (w' : World) (hk : Keep (fun _ => False) ((w.alloc (.cells #[.int .i64 k, .string nm, .slice An nn cn, .slice Ak nk ck] 25)).alloc (.cells #[.int .i64 k', .string nm', .slice An' nn' cn', .slice Ak' nk' ck'] 25)) w') => dynamic_any ((h.step kw).step hk)
    have hDB := fun (w' : World) (hk : Keep (fun _ => False) ((w.alloc (.cells #[.int .i64 k, .string nm, .slice An nn cn, .slice Ak nk ck] 25)).alloc (.cells #[.int .i64 k', .string nm', .slice An' nn' cn', .slice Ak' nk' ck'] 25)) w') => dynamic_any ((h'.step kw).step hk)
    have hE : a.kind ≠ 0 → b.kind ≠ 0 → ∀ (w' : World), Keep (fun _ => False) ((w.alloc (.cells #[.int .i64 k, .string nm, .slice An nn cn, .slice Ak nk ck] 25)).alloc (.cells #[.int .i64 k', .string nm', .slice An' nn' cn', .slice Ak' nk' ck'] 25)) w' → Calls Tryd.prog 55 _ w' _ := fun h1 h2 w' hk => key h1 h2 w' ((h.step kw).step hk) ((h'.step kw).step hk)
    have hPA := fun (w3 : World) (hk3 : Keep (fun _ => False) ((w.alloc (.cells #[.int .i64 k, .string nm, .slice An nn cn, .slice Ak nk ck] 25)).alloc (.cells #[.int .i64 k', .string nm', .slice An' nn' cn', .slice Ak' nk' ck'] 25)) w3) (w' : World) (X : Nat → Prop) (hk : Keep (fun _ => False) w3 w') (hX : ∀ g, X g → w3.heap.size ≤ g ∧ g < w'.heap.size) => parts_any (X := X) (fun g hg => (hX g hg).2) na (((h.step kw).step hk3).keep hk (fun _ _ x => x.elim) (fun i hi hx => by have := (hX i hx).1; omega))
    have hPB := fun (w3 : World) (hk3 : Keep (fun _ => False) ((w.alloc (.cells #[.int .i64 k, .string nm, .slice An nn cn, .slice Ak nk ck] 25)).alloc (.cells #[.int .i64 k', .string nm', .slice An' nn' cn', .slice Ak' nk' ck'] 25)) w3) (w' : World) (X : Nat → Prop) (hk : Keep (fun _ => False) w3 w') (hX : ∀ g, X g → w3.heap.size ≤ g ∧ g < w'.heap.size) => parts_any (X := X) (fun g hg => (hX g hg).2) nb (((h'.step kw).step hk3).keep hk (fun _ _ x => x.elim) (fun i hi hx => by have := (hX i hx).1; omega))
    have H := Lib.hid (And.intro kw (And.intro a0 a1))
    unfold Tv.val at hDA hDB hE hPA hPB ⊢
    simp only at hDA hDB hE hPA hPB ⊢
    clear key ih hsz na nb h h' kw a0 a1
    go_enter Tryd.func36, Tryd.ntmps36
    go_upto_region 1 with fail
    generalize ((w.alloc (.cells #[.int .i64 k, .string nm, .slice An nn cn, .slice Ak nk ck] 25)).alloc (.cells #[.int .i64 k', .string nm', .slice An' nn' cn', .slice Ak' nk' ck'] 25)) = w1 at *
    generalize w.heap.size = bx at *
    generalize bx + 1 = by_ at *
    have DA := Lib.hid hDA
    have DB := Lib.hid hDB
    have HEE := Lib.hid hE
    have HPA := Lib.hid hPA
    have HPB := Lib.hid hPB
    have HC : Hid (∀ w', Keep (fun _ => False) w1 w' → (bx < w'.heap.size ∧ w'.cell? ⟨bx, 0, none⟩ = some (.int .i64 k) ∧ w'.cell? ⟨bx, 1, none⟩ = some (.string nm) ∧ w'.cell? ⟨bx, 2, none⟩ = some (.slice An nn cn) ∧ w'.cell? ⟨bx, 3, none⟩ = some (.slice Ak nk ck)) ∧ (by_ < w'.heap.size ∧ w'.cell? ⟨by_, 0, none⟩ = some (.int .i64 k') ∧ w'.cell? ⟨by_, 1, none⟩ = some (.string nm') ∧ w'.cell? ⟨by_, 2, none⟩ = some (.slice An' nn' cn') ∧ w'.cell? ⟨by_, 3, none⟩ = some (.slice Ak' nk' ck'))) := fun w' hk => ⟨(hk.at_ H.out.2.1 (fun x => x)).tcells, (hk.at_ H.out.2.2 (fun x => x)).tcells⟩
    have KC : Hid (Keep (fun _ => False) w1 w1) := Keep.refl _ _
    obtain ⟨⟨xl, x0, x1, x2, x3⟩, ⟨yl, y0, y1, y2, y3⟩⟩ := HC.out w1 KC.out
    clear hDA hDB hE hPA hPB
    cases hda : decide (a.kind = 0)
    all_goals cases hdb : decide (b.kind = 0)
    all_goals rw [hda] at DA
    all_goals rw [hdb] at DB
    all_goals have HD := Lib.hid (And.intro hda hdb)
    all_goals clear hda hdb
    rotate_left
    iterate 3
      · have HR := Lib.hid (naiveT_eq a b)
        go_wp2_with (first | (go_at_call_of 47 (Value.agg #[Value.int IntKind.i64 k, Value.string nm, Value.slice An nn cn, Value.slice Ak nk ck]); (with_reducible refine (DA.out _ KC.out).mono ?_); rintro e w3 ⟨rfl, hk⟩; have KN := Lib.hid (KC.out.trans hk (fun _ _ x => x)); clear KC hk xl x0 x1 x2 x3 yl y0 y1 y2 y3; have KC := KN; clear KN; obtain ⟨⟨xl, x0, x1, x2, x3⟩, ⟨yl, y0, y1, y2, y3⟩⟩ := HC.out _ KC.out) | (go_at_call_of 47 (Value.agg #[Value.int IntKind.i64 k', Value.string nm', Value.slice An' nn' cn', Value.slice Ak' nk' ck']); (with_reducible refine (DB.out _ KC.out).mono ?_); rintro e w3 ⟨rfl, hk⟩; have KN := Lib.hid (KC.out.trans hk (fun _ _ x => x)); clear KC hk xl x0 x1 x2 x3 yl y0 y1 y2 y3; have KC := KN; clear KN; obtain ⟨⟨xl, x0, x1, x2, x3⟩, ⟨yl, y0, y1, y2, y3⟩⟩ := HC.out _ KC.out))
        go_ret
        refine ⟨?_, H.out.1.trans KC.out (fun _ _ x => x)⟩
        rw [HR.out]
        have e1 := HD.out.1
        have e2 := HD.out.2
        simp only [decide_eq_true_eq, decide_eq_false_iff_not] at e1 e2
        simp [e1, e2]
    · have ka : a.kind ≠ 0 := of_decide_eq_false HD.out.1
      have kb : b.kind ≠ 0 := of_decide_eq_false HD.out.2
      have HKK := Lib.hid (And.intro ka kb)
      clear ka kb
      go_upto_region 3 with (first | (go_at_call_of 47 (Value.agg #[Value.int IntKind.i64 k, Value.string nm, Value.slice An nn cn, Value.slice Ak nk ck]); (with_reducible refine (DA.out _ KC.out).mono ?_); rintro e w3 ⟨rfl, hk⟩; have KN := Lib.hid (KC.out.trans hk (fun _ _ x => x)); clear KC hk xl x0 x1 x2 x3 yl y0 y1 y2 y3; have KC := KN; clear KN; obtain ⟨⟨xl, x0, x1, x2, x3⟩, ⟨yl, y0, y1, y2, y3⟩⟩ := HC.out _ KC.out) | (go_at_call_of 47 (Value.agg #[Value.int IntKind.i64 k', Value.string nm', Value.slice An' nn' cn', Value.slice Ak' nk' ck']); (with_reducible refine (DB.out _ KC.out).mono ?_); rintro e w3 ⟨rfl, hk⟩; have KN := Lib.hid (KC.out.trans hk (fun _ _ x => x)); clear KC hk xl x0 x1 x2 x3 yl y0 y1 y2 y3; have KC := KN; clear KN; obtain ⟨⟨xl, x0, x1, x2, x3⟩, ⟨yl, y0, y1, y2, y3⟩⟩ := HC.out _ KC.out))
      have HA := Lib.hid (HPA.out w3 KC.out)
      have HB := Lib.hid (HPB.out w3 KC.out)
      have HC1 := HC
      clear HC
      have HC : Hid (∀ w', Keep (fun _ => False) w3 w' → (bx < w'.heap.size ∧ w'.cell? ⟨bx, 0, none⟩ = some (.int .i64 k) ∧ w'.cell? ⟨bx, 1, none⟩ = some (.string nm) ∧ w'.cell? ⟨bx, 2, none⟩ = some (.slice An nn cn) ∧ w'.cell? ⟨bx, 3, none⟩ = some (.slice Ak nk ck)) ∧ (by_ < w'.heap.size ∧ w'.cell? ⟨by_, 0, none⟩ = some (.int .i64 k') ∧ w'.cell? ⟨by_, 1, none⟩ = some (.string nm') ∧ w'.cell? ⟨by_, 2, none⟩ = some (.slice An' nn' cn') ∧ w'.cell? ⟨by_, 3, none⟩ = some (.slice Ak' nk' ck'))) := fun w' hk => HC1.out w' (KC.out.trans hk (fun _ _ x => x))
      clear xl x0 x1 x2 x3 yl y0 y1 y2 y3 HC1 DA DB HPA HPB
      go_cut [5, 6] (Two w3 a b)
      case first =>
        refine wp_region_inv (by kernel_rfl) (fun l act wz => ∃ v9 v10 v13 v14 v15 v16 : Value, act = ⟨#[.agg #[.int .i64 k, .string nm, .slice An nn cn, .slice Ak nk ck], .agg #[.int .i64 k', .string nm', .slice An' nn' cn', .slice Ak' nk' ck'], .pointer (some ⟨bx, 0, none⟩), .pointer (some ⟨by_, 0, none⟩), .bool false, v9, v10, undef, .agg #[.int .i64 k, .string nm, .slice An nn cn, .slice Ak nk ck], .bool false, .bool false, .agg #[.int .i64 k', .string nm', .slice An' nn' cn', .slice Ak' nk' ck'], .bool false, .bool false, undef, undef, v13, v14, v15, v16, undef, undef, undef, undef, undef, undef, undef, undef, undef, undef, undef, undef, undef, undef, undef, undef], []⟩ ∧ l.size = 8 ∧ TwoI w3 a b (.agg #[.int .i64 k, .string nm, .slice An nn cn, .slice Ak nk ck]) (.agg #[.int .i64 k', .string nm', .slice An' nn' cn', .slice Ak' nk' ck']) (fun j => l.getD j false = true) v9 v10 v13 v14 v15 v16 wz) (lt_of_all (by kernel_rfl)) ?_ ?_ ?_
        · exact ⟨_, _, _, _, _, _, rfl, by simp, TwoI.start _ _ _ _ _ _ _ _ _ _ _ (fun j h => by
            rcases Nat.lt_or_ge j 8 with hj | hj
            · simp [hj] at h
            · simp [hj] at h) (Keep.refl (fun _ => False) w3).drew⟩
        · intro i o l act wz ho hl hu hde hI
          obtain ⟨v9, v10, v13, v14, v15, v16, rfl, hsz, hI⟩ := hI
          have hi : i < 8 := (Array.getElem?_eq_some_iff.1 ho).1
          have hup := up_set hsz hi hu
          have hIH := Lib.hid hI
          have hUP := Lib.hid hup
          clear hI hup hl
          have hi8 : i = 0 ∨ i = 1 ∨ i = 2 ∨ i = 3 ∨ i = 4 ∨ i = 5 ∨ i = 6 ∨ i = 7 := by omega
          obtain ⟨⟨xl, x0, x1, x2, x3⟩, ⟨yl, y0, y1, y2, y3⟩⟩ := HC.out wz hIH.out.keep
          clear hi hu
          rcases hi8 with rfl | rfl | rfl | rfl | rfl | rfl | rfl | rfl
          all_goals simp only [List.getElem?_toArray, List.getElem?_cons_zero, List.getElem?_cons_succ, Option.some.injEq] at ho
          all_goals subst ho
          · refine wpOp_step (i := 0) rfl (fun K' hK => ?_)
            clear hde
            go_simp
            refine hK _ _ ⟨_, _, _, _, _, _, rfl, by simp [hsz], hIH.out.load0 hUP.out⟩
          · refine wpOp_step (i := 1) rfl (fun K' hK => ?_)
            have d0 : l.getD 0 false = true := hde { on := 0, ground := .data } (by simp) rfl
            obtain rfl := hIH.out.c13 d0
            have hc := HA.out _ _ hIH.out.keep (fun g hg => XX_lt hIH.out g hg)
            clear hde d0
            go_simp
            go_at_call 48
            refine hc.mono ?_
            rintro e w2 ⟨cs, rfl, hp, hk⟩
            refine hK _ _ ⟨_, _, _, _, _, _, rfl, by simp [hsz], hIH.out.call1 hUP.out hk hp⟩
          · refine wpOp_step (i := 2) rfl (fun K' hK => ?_)
            clear hde
            go_simp
            refine hK _ _ ⟨_, _, _, _, _, _, rfl, by simp [hsz], hIH.out.load2 hUP.out⟩
          · refine wpOp_step (i := 3) rfl (fun K' hK => ?_)
            have d0 : l.getD 2 false = true := hde { on := 2, ground := .data } (by simp) rfl
            obtain rfl := hIH.out.c15 d0
            have hc := HB.out _ _ hIH.out.keep (fun g hg => XX_lt hIH.out g hg)
            clear hde d0
            go_simp
            go_at_call 48
            refine hc.mono ?_
            rintro e w2 ⟨cs, rfl, hp, hk⟩
            refine hK _ _ ⟨_, _, _, _, _, _, rfl, by simp [hsz], hIH.out.call3 hUP.out hk hp⟩
          · refine wpOp_step (i := 4) rfl (fun K' hK => ?_)
            clear hde
            go_simp
            refine hK _ _ ⟨_, _, _, _, _, _, rfl, by simp [hsz], hIH.out.alloc4 hUP.out⟩
          · refine wpOp_step (i := 5) rfl (fun K' hK => ?_)
            clear hde
            go_simp
            refine hK _ _ ⟨_, _, _, _, _, _, rfl, by simp [hsz], hIH.out.alloc5 hUP.out⟩
          · refine wpOp_step (i := 6) rfl (fun K' hK => ?_)
            have d0 : l.getD 4 false = true := hde { on := 4, ground := .data } (by simp) rfl
            have d1 : l.getD 1 false = true := hde { on := 1, ground := .data } (by simp) rfl
            obtain ⟨p, cs, e9, hat, hge, hsix, _⟩ := hIH.out.c9 d0
            obtain ⟨ds, e14, hpt⟩ := hIH.out.c14 d1
            obtain ⟨p0, p1, p2, p3, p4, p5, rfl⟩ := hpt.ptrs
            have hst := hIH.out.store6 hUP.out e9 hat hsix d1 d0 ⟨_, _, _, _, _, _, rfl⟩ e14
            obtain ⟨z0, z1, z2, z3, z4, z5, rfl⟩ := hsix
            subst e9 e14
            obtain ⟨rl, r0, r1, r2, r3, r4, r5⟩ := hat.cells6
            have f0 := hat.frozen 0
            have f1 := hat.frozen 1
            have f2 := hat.frozen 2
            have f3 := hat.frozen 3
            have f4 := hat.frozen 4
            have f5 := hat.frozen 5
            have HST := Lib.hid hst
            clear hde d0 d1 hat hpt hst hge
            go_simp
            refine hK _ _ ⟨_, _, _, _, _, _, rfl, by simp [hsz], HST.out⟩
          · refine wpOp_step (i := 7) rfl (fun K' hK => ?_)
            have d0 : l.getD 5 false = true := hde { on := 5, ground := .data } (by simp) rfl
            have d1 : l.getD 3 false = true := hde { on := 3, ground := .data } (by simp) rfl
            obtain ⟨p, cs, e9, hat, hge, hsix, _⟩ := hIH.out.c10 d0
            obtain ⟨ds, e14, hpt⟩ := hIH.out.c16 d1
            obtain ⟨p0, p1, p2, p3, p4, p5, rfl⟩ := hpt.ptrs
            have hst := hIH.out.store7 hUP.out e9 hat hsix d1 d0 ⟨_, _, _, _, _, _, rfl⟩ e14
            obtain ⟨z0, z1, z2, z3, z4, z5, rfl⟩ := hsix
            subst e9 e14
            obtain ⟨rl, r0, r1, r2, r3, r4, r5⟩ := hat.cells6
            have f0 := hat.frozen 0
            have f1 := hat.frozen 1
            have f2 := hat.frozen 2
            have f3 := hat.frozen 3
            have f4 := hat.frozen 4
            have f5 := hat.frozen 5
            have HST := Lib.hid hst
            clear hde d0 d1 hat hpt hst hge
            go_simp
            refine hK _ _ ⟨_, _, _, _, _, _, rfl, by simp [hsz], HST.out⟩
        · intro l act wz hall hI
          obtain ⟨v9, v10, v13, v14, v15, v16, rfl, hsz, hI⟩ := hI
          have HF := Lib.hid (hI.fin hall)
          clear hI hall
          (try dsimp only)
          go_wp2_with fail
          go_meet
          exact HF.out
      case rest =>
        obtain ⟨p, q, cs, ds, rfl, rfl, hap, haq, hpv, hqv, hkx⟩ := hcut
        obtain ⟨p0, p1, p2, p3, p4, p5, rfl⟩ := hpv.ptrs
        obtain ⟨q0, q1, q2, q3, q4, q5, rfl⟩ := hqv.ptrs
        have h0 : Hid (NlA a b wc 6 (.int .i64 0) wc) := ⟨0, rfl, by decide, rfl, fun tag h => absurd h (Nat.not_lt_zero _), Keep.refl _ _⟩
        have HX := Lib.hid (And.intro hpv (And.intro hqv (And.intro hap (And.intro haq hkx))))
        clear hap haq hpv hqv hkx HA HB
        go_wp2_with fail
        go_loopg [20] 6 (NlA a b wc)
        case atStart => exact h0.out
        case round =>
          clear h0
          obtain ⟨i, rfl, hi, rfl, hall, hk⟩ := hrel
          have HK := Lib.hid (And.intro hall hk)
          by_cases hlt : i < 6
          · have i0 : (0 : Int) ≤ (i : Int) := by omega
            have i6 : (i : Int) < 6 := by omega
            have hbp := hk.at_ HX.out.2.2.1 (fun x => x)
            have hbq := hk.at_ HX.out.2.2.2.1 (fun x => x)
            have al := hbp.lt
            have bl := hbq.lt
            have ac := hbp.cell i
            have bc := hbq.cell i
            have nxt : (prt a i).isSome = (prt b i).isSome → ∀ tag, tag < i + 1 → (prt a tag).isSome = (prt b tag).isSome := fun h tag ht => by
              by_cases he : tag = i
              · rw [he]; exact h
              · exact HK.out.1 tag (by omega)
            have NXT := Lib.hid nxt
            clear hall nxt hbp hbq
            rcases HX.out.1.at_ hlt with ⟨hpn, hc⟩ | ⟨m, bm, hpm, hc, hPA⟩
            · rw [hc] at ac
              rcases HX.out.2.1.at_ hlt with ⟨hqn, hd⟩ | ⟨pp, bp, hqm, hd, hPB⟩
              · rw [hd] at bc
                have HE := Lib.hid (show (prt a i).isSome = (prt b i).isSome by rw [hpn, hqn])
                clear hpn hqn hc hd hk
                go_wp2_with fail
                go_quiet (fail)
                go_wp2_with fail
                go_roundg (6 - (i + 1))
                case measure => omega
                case rel => exact ⟨i + 1, by go_num, by omega, rfl, NXT.out HE.out, HK.out.2.drewN _⟩
              · rw [hd] at bc
                have HE := Lib.hid (show (prt a i).isSome ≠ (prt b i).isSome by rw [hpn, hqm]; simp)
                clear hpn hqm hc hd hk hPB
                go_wp2_with fail
                go_quiet (fail)
                go_wp2_with fail
                go_ret
                exact ⟨ret_bool (naiT_bad HKK.out.1 HKK.out.2 hlt HE.out).symm, ((H.out.1.trans KC.out (fun _ _ x => x)).trans HX.out.2.2.2.2 (fun _ _ x => x)).trans (HK.out.2.drewN _) (fun _ _ x => x)⟩
            · rw [hc] at ac
              rcases HX.out.2.1.at_ hlt with ⟨hqn, hd⟩ | ⟨pp, bp, hqm, hd, hPB⟩
              · rw [hd] at bc
                have HE := Lib.hid (show (prt a i).isSome ≠ (prt b i).isSome by rw [hpm, hqn]; simp)
                clear hpm hqn hc hd hk hPA
                go_wp2_with fail
                go_quiet (fail)
                go_wp2_with fail
                go_ret
                exact ⟨ret_bool (naiT_bad HKK.out.1 HKK.out.2 hlt HE.out).symm, ((H.out.1.trans KC.out (fun _ _ x => x)).trans HX.out.2.2.2.2 (fun _ _ x => x)).trans (HK.out.2.drewN _) (fun _ _ x => x)⟩
              · rw [hd] at bc
                have HE := Lib.hid (show (prt a i).isSome = (prt b i).isSome by rw [hpm, hqm]; rfl)
                clear hpm hqm hc hd hk hPA hPB
                go_wp2_with fail
                go_quiet (fail)
                go_wp2_with fail
                go_roundg (6 - (i + 1))
                case measure => omega
                case rel => exact ⟨i + 1, by go_num, by omega, rfl, NXT.out HE.out, HK.out.2.drewN _⟩
          · have hie : i = 6 := by omega
            subst hie
            have HN := Lib.hid (naiT_tags HKK.out.1 HKK.out.2 hall)
            have kz := HX.out.2.2.2.2.trans hk (fun _ _ x => x)
            obtain ⟨⟨xl, x0, x1, x2, x3⟩, ⟨yl, y0, y1, y2, y3⟩⟩ := HC.out wr kz
            have hec := HEE.out HKK.out.1 HKK.out.2 wr (KC.out.trans kz (fun _ _ x => x))
            have KZ := Lib.hid kz
            clear hall hk kz
            go_wp2_with (go_at_call 55; refine hec.mono ?_; rintro e w4 ⟨rfl, hk4⟩; have K4 := Lib.hid hk4; clear hk4 hec)
            go_ret
            exact ⟨ret_bool HN.out.symm, ((H.out.1.trans KC.out (fun _ _ x => x)).trans KZ.out (fun _ _ x => x)).trans K4.out (fun _ _ x => x)⟩
end Go.Proofs.YtbanpohholnkaaaDoor
