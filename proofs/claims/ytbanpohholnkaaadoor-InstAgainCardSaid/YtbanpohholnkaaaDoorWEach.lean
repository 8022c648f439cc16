/-
  Walk: rel.each, once a closure. Conditions: normal types; a contract of the closure.
-/
import Derived.Test.YtbanpohholnkaaaDoorWTwo
namespace Go.Proofs.YtbanpohholnkaaaDoor
open Go.RowKit

/-- What each asks at one tag. -/
def eachAt (a b : Ty) (missing : Bool) (ok : Nat → Bool × Ty → Bool × Ty → Bool) (tag : Nat) : Bool :=
  match prt a tag with
  | none => true
  | some m => match prt b tag with
    | none => missing
    | some p => ok tag m p
theorem eachB_at {a b : Ty} {missing : Bool} {ok : Nat → Bool × Ty → Bool × Ty → Bool} : eachB a b missing ok = (List.range 6).all (eachAt a b missing ok) := rfl
theorem eachB_yes {a b : Ty} {missing : Bool} {ok : Nat → Bool × Ty → Bool × Ty → Bool} (h : ∀ tag, tag < 6 → eachAt a b missing ok tag = true) : eachB a b missing ok = true := by
  rw [eachB_at, List.all_eq_true]
  exact fun x hx => h x (List.mem_range.1 hx)
theorem eachB_bad {a b : Ty} {missing : Bool} {ok : Nat → Bool × Ty → Bool × Ty → Bool} {tag : Nat} (ht : tag < 6) (h : eachAt a b missing ok tag = false) : eachB a b missing ok = false := by
  cases he : eachB a b missing ok with
  | false => rfl
  | true =>
    rw [eachB_at, List.all_eq_true] at he
    rw [he tag (List.mem_range.2 ht)] at h
    cases h
theorem PtV.at_ {w : World} {X : Nat → Prop} {t : Ty} {cs : Array Value} (h : PtV w X t (partsL t) cs) {tag : Nat} (ht : tag < 6) : (prt t tag = none ∧ cs[tag]? = some (.pointer none)) ∨ ∃ m b, prt t tag = some m ∧ cs[tag]? = some (.pointer (some ⟨b, 0, none⟩)) ∧ PartAt w X b tag m := by
  rw [prt_find ht]
  cases hf : (partsL t).find? fun k => decide (tagT k = (tag : Int)) with
  | none => exact .inl ⟨rfl, h.emp tag ht hf⟩
  | some k =>
    obtain ⟨b, h1, h2⟩ := h.has tag k ht hf
    exact .inr ⟨_, b, rfl, h1, h2⟩
theorem run_ixp {cs : Array Value} {v : Value} {i : Nat} (hi : i < 6) (h : cs[i]? = some v) (w : World) : Sem.run Tryd.prog (Instr.index 62 (.agg cs) (.int .i64 i)) w = .ok v w := by
  have hu := run_underlying Tryd.underlying62
  have hs := Tryd.sizeOf61 w
  have h1 : (0 ≤ (i : Int) ∧ (i : Int) < 6) := by omega
  simp [Instr.index, asIntOf, part, hu, hs, h1, h]
  intro h6
  omega
def EaA (w : World) (a b : Ty) (missing : Bool) (ok : Nat → Bool × Ty → Bool × Ty → Bool) (k : Nat) (v : Value) (wr : World) : Prop :=
  ∃ i : Nat, v = .int .i64 i ∧ i ≤ 6 ∧ k = 6 - i ∧ (∀ tag, tag < i → eachAt a b missing ok tag = true) ∧ Keep (fun _ => False) w wr
set_option maxRecDepth 100000 in
set_option maxHeartbeats 8000000 in
theorem each_below {w : World} {r r' : Tv} {a b : Ty} {missing : Bool} {cb : Nat} (ok : Nat → Bool × Ty → Bool × Ty → Bool) (na : NF a) (nb : NF b) (h : TyV w nX r a) (h' : TyV w nX r' b)
    (hf : ∀ (tag : Nat) (m p : Bool × Ty) (w' : World) (bm bp : Nat), tag < 6 → prt a tag = some m → prt b tag = some p → Keep (fun _ => False) w w' → PartAt w' nX bm tag m → PartAt w' nX bp tag p →
      Calls Tryd.prog 56 #[.pointer (some ⟨bm, 0, none⟩), .pointer (some ⟨bp, 0, none⟩), .pointer (some ⟨cb, 0, none⟩)] w' fun e w'' => e = .returned (.bool (ok tag m p)) ∧ Keep (fun _ => False) w' w'') :
    Calls Tryd.prog 55 #[r.val, r'.val, .bool missing, .func (.func 56) #[] #[.pointer (some ⟨cb, 0, none⟩)]] w fun e w' => e = .returned (.bool (eachB a b missing ok)) ∧ Keep (fun _ => False) w w' := by
  obtain ⟨k, nm, An, nn, cn, Ak, nk, ck⟩ := r
  obtain ⟨k', nm', An', nn', cn', Ak', nk', ck'⟩ := r'
  have kw : Keep (fun _ => False) w ((w.alloc (.cells #[.int .i64 k, .string nm, .slice An nn cn, .slice Ak nk ck] 25)).alloc (.cells #[.int .i64 k', .string nm', .slice An' nn' cn', .slice Ak' nk' ck'] 25)) := ((Keep.refl _ w).alloc _).alloc _
  have a0 : At ((w.alloc (.cells #[.int .i64 k, .string nm, .slice An nn cn, .slice Ak nk ck] 25)).alloc (.cells #[.int .i64 k', .string nm', .slice An' nn' cn', .slice Ak' nk' ck'] 25)) w.heap.size 25 #[.int .i64 k, .string nm, .slice An nn cn, .slice Ak nk ck] := (At.new _ _ _).alloc _
  have a1 : At ((w.alloc (.cells #[.int .i64 k, .string nm, .slice An nn cn, .slice Ak nk ck] 25)).alloc (.cells #[.int .i64 k', .string nm', .slice An' nn' cn', .slice Ak' nk' ck'] 25)) (w.heap.size + 1) 25 #[.int .i64 k', .string nm', .slice An' nn' cn', .slice Ak' nk' ck'] := At.new_at (by simp)
  have hA := fun (w' : World) (X : Nat → Prop) (hk : Keep (fun _ => False) ((w.alloc (.cells #[.int .i64 k, .string nm, .slice An nn cn, .slice Ak nk ck] 25)).alloc (.cells #[.int .i64 k', .string nm', .slice An' nn' cn', .slice Ak' nk' ck'] 25)) w') (hX : ∀ g, X g → ((w.alloc (.cells #[.int .i64 k, .string nm, .slice An nn cn, .slice Ak nk ck] 25)).alloc (.cells #[.int .i64 k', .string nm', .slice An' nn' cn', .slice Ak' nk' ck'] 25)).heap.size ≤ g ∧ g < w'.heap.size) => parts_any (X := X) (fun g hg => (hX g hg).2) na ((h.step kw).keep hk (fun _ _ x => x.elim) (fun i hi hx => by have := (hX i hx).1; omega))
  have hB := fun (w' : World) (X : Nat → Prop) (hk : Keep (fun _ => False) ((w.alloc (.cells #[.int .i64 k, .string nm, .slice An nn cn, .slice Ak nk ck] 25)).alloc (.cells #[.int .i64 k', .string nm', .slice An' nn' cn', .slice Ak' nk' ck'] 25)) w') (hX : ∀ g, X g → ((w.alloc (.cells #[.int .i64 k, .string nm, .slice An nn cn, .slice Ak nk ck] 25)).alloc (.cells #[.int .i64 k', .string nm', .slice An' nn' cn', .slice Ak' nk' ck'] 25)).heap.size ≤ g ∧ g < w'.heap.size) => parts_any (X := X) (fun g hg => (hX g hg).2) nb ((h'.step kw).keep hk (fun _ _ x => x.elim) (fun i hi hx => by have := (hX i hx).1; omega))
  have HF := Lib.hid (And.intro hf kw)
  have H := Lib.hid (And.intro a0 a1)
  unfold Tv.val at hA hB ⊢
  simp only at hA hB ⊢
  clear h h' hf kw a0 a1
  go_enter Tryd.func55, Tryd.ntmps55
  go_upto_region 1 with fail
  generalize ((w.alloc (.cells #[.int .i64 k, .string nm, .slice An nn cn, .slice Ak nk ck] 25)).alloc (.cells #[.int .i64 k', .string nm', .slice An' nn' cn', .slice Ak' nk' ck'] 25)) = w1 at *
  generalize w.heap.size = bx at *
  generalize bx + 1 = by_ at *
  have HA := Lib.hid hA
  have HB := Lib.hid hB
  have HC : Hid (∀ w', Keep (fun _ => False) w1 w' → (bx < w'.heap.size ∧ w'.cell? ⟨bx, 0, none⟩ = some (.int .i64 k) ∧ w'.cell? ⟨bx, 1, none⟩ = some (.string nm) ∧ w'.cell? ⟨bx, 2, none⟩ = some (.slice An nn cn) ∧ w'.cell? ⟨bx, 3, none⟩ = some (.slice Ak nk ck)) ∧ (by_ < w'.heap.size ∧ w'.cell? ⟨by_, 0, none⟩ = some (.int .i64 k') ∧ w'.cell? ⟨by_, 1, none⟩ = some (.string nm') ∧ w'.cell? ⟨by_, 2, none⟩ = some (.slice An' nn' cn') ∧ w'.cell? ⟨by_, 3, none⟩ = some (.slice Ak' nk' ck'))) := fun w' hk => ⟨(hk.at_ H.out.1 (fun x => x)).tcells, (hk.at_ H.out.2 (fun x => x)).tcells⟩
  clear hA hB
  go_cut [9, 10] (Two w1 a b)
  case first =>
    refine wp_region_inv (by kernel_rfl) (fun l act wz => ∃ v9 v10 v13 v14 v15 v16 : Value, act = ⟨#[.agg #[.int .i64 k, .string nm, .slice An nn cn, .slice Ak nk ck], .agg #[.int .i64 k', .string nm', .slice An' nn' cn', .slice Ak' nk' ck'], .bool missing, .func (.func 56) #[] #[.pointer (some ⟨cb, 0, none⟩)], .pointer (some ⟨bx, 0, none⟩), .pointer (some ⟨by_, 0, none⟩), undef, undef, .bool false, v9, v10, undef, undef, v13, v14, v15, v16, undef, undef, undef, undef, undef, undef, undef, undef, undef, undef, undef, undef, undef, undef, undef, undef, undef, undef, undef, undef, undef, undef, undef, undef, undef, undef, undef, undef, undef, undef, undef, undef], []⟩ ∧ l.size = 8 ∧ TwoI w1 a b (.agg #[.int .i64 k, .string nm, .slice An nn cn, .slice Ak nk ck]) (.agg #[.int .i64 k', .string nm', .slice An' nn' cn', .slice Ak' nk' ck']) (fun j => l.getD j false = true) v9 v10 v13 v14 v15 v16 wz) (lt_of_all (by kernel_rfl)) ?_ ?_ ?_
    · exact ⟨_, _, _, _, _, _, rfl, by simp, TwoI.start _ _ _ _ _ _ _ _ _ _ _ (fun j h => by
        rcases Nat.lt_or_ge j 8 with hj | hj
        · simp [hj] at h
        · simp [hj] at h) (Keep.refl (fun _ => False) w1).drew⟩
    · intro i o l act wz ho hl hu hde hI
      obtain ⟨v9, v10, v13, v14, v15, v16, rfl, hsz, hI⟩ := hI
      have hi : i < 8 := (Array.getElem?_eq_some_iff.1 ho).1
      have hup := up_set hsz hi hu
      have hIH := Lib.hid hI
      have hUP := Lib.hid hup
      clear hI hup hl
      have hi8 : i = 0 ∨ i = 1 ∨ i = 2 ∨ i = 3 ∨ i = 4 ∨ i = 5 ∨ i = 6 ∨ i = 7 := by omega
      obtain ⟨⟨xl, x0, x1, x2, x3⟩, ⟨yl, y0, y1, y2, y3⟩⟩ := HC.out wz hIH.out.keep
      clear hi hu
      rcases hi8 with rfl | rfl | rfl | rfl | rfl | rfl | rfl | rfl
      all_goals simp only [List.getElem?_toArray, List.getElem?_cons_zero, List.getElem?_cons_succ, Option.some.injEq] at ho
      all_goals subst ho
      · refine wpOp_step (i := 0) rfl (fun K' hK => ?_)
        clear hde
        go_simp
        refine hK _ _ ⟨_, _, _, _, _, _, rfl, by simp [hsz], hIH.out.load0 hUP.out⟩
      · refine wpOp_step (i := 1) rfl (fun K' hK => ?_)
        have d0 : l.getD 0 false = true := hde { on := 0, ground := .data } (by simp) rfl
        obtain rfl := hIH.out.c13 d0
        have hc := HA.out _ _ hIH.out.keep (fun g hg => XX_lt hIH.out g hg)
        clear hde d0
        go_simp
        go_at_call 48
        refine hc.mono ?_
        rintro e w2 ⟨cs, rfl, hp, hk⟩
        refine hK _ _ ⟨_, _, _, _, _, _, rfl, by simp [hsz], hIH.out.call1 hUP.out hk hp⟩
      · refine wpOp_step (i := 2) rfl (fun K' hK => ?_)
        clear hde
        go_simp
        refine hK _ _ ⟨_, _, _, _, _, _, rfl, by simp [hsz], hIH.out.load2 hUP.out⟩
      · refine wpOp_step (i := 3) rfl (fun K' hK => ?_)
        have d0 : l.getD 2 false = true := hde { on := 2, ground := .data } (by simp) rfl
        obtain rfl := hIH.out.c15 d0
        have hc := HB.out _ _ hIH.out.keep (fun g hg => XX_lt hIH.out g hg)
        clear hde d0
        go_simp
        go_at_call 48
        refine hc.mono ?_
        rintro e w2 ⟨cs, rfl, hp, hk⟩
        refine hK _ _ ⟨_, _, _, _, _, _, rfl, by simp [hsz], hIH.out.call3 hUP.out hk hp⟩
      · refine wpOp_step (i := 4) rfl (fun K' hK => ?_)
        clear hde
        go_simp
        refine hK _ _ ⟨_, _, _, _, _, _, rfl, by simp [hsz], hIH.out.alloc4 hUP.out⟩
      · refine wpOp_step (i := 5) rfl (fun K' hK => ?_)
        clear hde
        go_simp
        refine hK _ _ ⟨_, _, _, _, _, _, rfl, by simp [hsz], hIH.out.alloc5 hUP.out⟩
      · refine wpOp_step (i := 6) rfl (fun K' hK => ?_)
        have d0 : l.getD 4 false = true := hde { on := 4, ground := .data } (by simp) rfl
        have d1 : l.getD 1 false = true := hde { on := 1, ground := .data } (by simp) rfl
        obtain ⟨p, cs, e9, hat, hge, hsix, _⟩ := hIH.out.c9 d0
        obtain ⟨ds, e14, hpt⟩ := hIH.out.c14 d1
        obtain ⟨p0, p1, p2, p3, p4, p5, rfl⟩ := hpt.ptrs
        have hst := hIH.out.store6 hUP.out e9 hat hsix d1 d0 ⟨_, _, _, _, _, _, rfl⟩ e14
        obtain ⟨z0, z1, z2, z3, z4, z5, rfl⟩ := hsix
        subst e9 e14
        obtain ⟨rl, r0, r1, r2, r3, r4, r5⟩ := hat.cells6
        have f0 := hat.frozen 0
        have f1 := hat.frozen 1
        have f2 := hat.frozen 2
        have f3 := hat.frozen 3
        have f4 := hat.frozen 4
        have f5 := hat.frozen 5
        have HST := Lib.hid hst
        clear hde d0 d1 hat hpt hst hge
        go_simp
        refine hK _ _ ⟨_, _, _, _, _, _, rfl, by simp [hsz], HST.out⟩
      · refine wpOp_step (i := 7) rfl (fun K' hK => ?_)
        have d0 : l.getD 5 false = true := hde { on := 5, ground := .data } (by simp) rfl
        have d1 : l.getD 3 false = true := hde { on := 3, ground := .data } (by simp) rfl
        obtain ⟨p, cs, e9, hat, hge, hsix, _⟩ := hIH.out.c10 d0
        obtain ⟨ds, e14, hpt⟩ := hIH.out.c16 d1
        obtain ⟨p0, p1, p2, p3, p4, p5, rfl⟩ := hpt.ptrs
        have hst := hIH.out.store7 hUP.out e9 hat hsix d1 d0 ⟨_, _, _, _, _, _, rfl⟩ e14
        obtain ⟨z0, z1, z2, z3, z4, z5, rfl⟩ := hsix
        subst e9 e14
        obtain ⟨rl, r0, r1, r2, r3, r4, r5⟩ := hat.cells6
        have f0 := hat.frozen 0
        have f1 := hat.frozen 1
        have f2 := hat.frozen 2
        have f3 := hat.frozen 3
        have f4 := hat.frozen 4
        have f5 := hat.frozen 5
        have HST := Lib.hid hst
        clear hde d0 d1 hat hpt hst hge
        go_simp
        refine hK _ _ ⟨_, _, _, _, _, _, rfl, by simp [hsz], HST.out⟩
    · intro l act wz hall hI
      obtain ⟨v9, v10, v13, v14, v15, v16, rfl, hsz, hI⟩ := hI
      have HF := Lib.hid (hI.fin hall)
      clear hI hall
      (try dsimp only)
      go_wp2_with fail
      go_meet
      exact HF.out
  case rest =>
    obtain ⟨p, q, cs, ds, rfl, rfl, hap, haq, hpv, hqv, hkx⟩ := hcut
    obtain ⟨p0, p1, p2, p3, p4, p5, rfl⟩ := hpv.ptrs
    obtain ⟨rl, r0, r1, r2, r3, r4, r5⟩ := hap.cells6
    have h0 : Hid (EaA wc a b missing ok 6 (.int .i64 0) wc) := ⟨0, rfl, by decide, rfl, fun tag h => absurd h (Nat.not_lt_zero _), Keep.refl _ _⟩
    have HX := Lib.hid (And.intro hpv (And.intro hqv (And.intro haq (HF.out.2.trans hkx (fun _ _ x => x)))))
    clear hap haq hpv hqv hkx HC HA HB H
    go_wp2_with fail
    clear rl r0 r1 r2 r3 r4 r5
    go_loopg [18] 6 (EaA wc a b missing ok)
    case atStart => exact h0.out
    case round =>
      clear h0
      obtain ⟨i, rfl, hi, rfl, hall, hk⟩ := hrel
      have HK := Lib.hid (And.intro hall hk)
      by_cases hlt : i < 6
      · have i0 : (0 : Int) ≤ (i : Int) := by omega
        have i6 : (i : Int) < 6 := by omega
        have hbq := hk.at_ HX.out.2.2.1 (fun x => x)
        have bl := hbq.lt
        have bc := hbq.cell i
        have nxt : eachAt a b missing ok i = true → ∀ tag, tag < i + 1 → eachAt a b missing ok tag = true := fun h tag ht => by
          by_cases he : tag = i
          · rw [he]; exact h
          · exact HK.out.1 tag (by omega)
        have NXT := Lib.hid nxt
        clear hall nxt hbq
        rcases HX.out.1.at_ hlt with ⟨hpn, hc⟩ | ⟨m, bm, hpm, hc, hPA⟩
        · have hix := run_ixp hlt hc
          have HE := Lib.hid (show eachAt a b missing ok i = true by unfold eachAt; rw [hpn])
          clear hpn hc bc hk
          go_wp2_with fail
          go_roundg (6 - (i + 1))
          case measure => omega
          case rel => exact ⟨i + 1, by go_num, by omega, rfl, NXT.out HE.out, HK.out.2⟩
        · have hix := run_ixp hlt hc
          rcases HX.out.2.1.at_ hlt with ⟨hqn, hd⟩ | ⟨pp, bp, hqm, hd, hPB⟩
          · rw [hd] at bc
            have HE := Lib.hid (show eachAt a b missing ok i = missing by unfold eachAt; rw [hpm, hqn])
            clear hpm hc hqn hd hPA hk
            cases missing with
            | false =>
              go_wp2_with fail
              go_ret
              exact ⟨ret_bool (eachB_bad hlt HE.out).symm, HX.out.2.2.2.trans HK.out.2 (fun _ _ x => x)⟩
            | true =>
              go_wp2_with fail
              go_roundg (6 - (i + 1))
              case measure => omega
              case rel => exact ⟨i + 1, by go_num, by omega, rfl, NXT.out HE.out, HK.out.2⟩
          · rw [hd] at bc
            have hc2 := HF.out.1 i m pp wr bm bp hlt hpm hqm (HX.out.2.2.2.trans hk (fun _ _ x => x)) (hPA.step hk) (hPB.step hk)
            have HE := Lib.hid (show eachAt a b missing ok i = ok i m pp by unfold eachAt; rw [hpm, hqm])
            clear hpm hc hqm hd hPA hPB hk
            cases hv : ok i m pp with
            | false =>
              rw [hv] at hc2 HE
              clear hv
              go_wp2_with (go_at_call 56; refine hc2.mono ?_; rintro e w2 ⟨rfl, hk2⟩; have K2 := Lib.hid hk2; clear hk2 hc2)
              go_ret
              exact ⟨ret_bool (eachB_bad hlt HE.out).symm, (HX.out.2.2.2.trans HK.out.2 (fun _ _ x => x)).trans K2.out (fun _ _ x => x)⟩
            | true =>
              rw [hv] at hc2 HE
              clear hv
              go_wp2_with (go_at_call 56; refine hc2.mono ?_; rintro e w2 ⟨rfl, hk2⟩; have K2 := Lib.hid hk2; clear hk2 hc2)
              go_roundg (6 - (i + 1))
              case measure => omega
              case rel => exact ⟨i + 1, by go_num, by omega, rfl, NXT.out HE.out, HK.out.2.trans K2.out (fun _ _ x => x)⟩
      · have hie : i = 6 := by omega
        subst hie
        have HE := Lib.hid (eachB_yes hall)
        clear hall hk
        go_wp2_with fail
        go_ret
        exact ⟨ret_bool HE.out.symm, HX.out.2.2.2.trans HK.out.2 (fun _ _ x => x)⟩
set_option maxRecDepth 100000 in
set_option maxHeartbeats 8000000 in
theorem each_blames {w : World} {r r' : Tv} {a b : Ty} {missing : Bool} {cb : Nat} (ok : Nat → Bool × Ty → Bool × Ty → Bool) (na : NF a) (nb : NF b) (h : TyV w nX r a) (h' : TyV w nX r' b)
    (hf : ∀ (tag : Nat) (m p : Bool × Ty) (w' : World) (bm bp : Nat), tag < 6 → prt a tag = some m → prt b tag = some p → Keep (fun _ => False) w w' → PartAt w' nX bm tag m → PartAt w' nX bp tag p →
      Calls Tryd.prog 58 #[.pointer (some ⟨bm, 0, none⟩), .pointer (some ⟨bp, 0, none⟩), .pointer (some ⟨cb, 0, none⟩)] w' fun e w'' => e = .returned (.bool (ok tag m p)) ∧ Keep (fun _ => False) w' w'') :
    Calls Tryd.prog 55 #[r.val, r'.val, .bool missing, .func (.func 58) #[] #[.pointer (some ⟨cb, 0, none⟩)]] w fun e w' => e = .returned (.bool (eachB a b missing ok)) ∧ Keep (fun _ => False) w w' := by
  obtain ⟨k, nm, An, nn, cn, Ak, nk, ck⟩ := r
  obtain ⟨k', nm', An', nn', cn', Ak', nk', ck'⟩ := r'
  have kw : Keep (fun _ => False) w ((w.alloc (.cells #[.int .i64 k, .string nm, .slice An nn cn, .slice Ak nk ck] 25)).alloc (.cells #[.int .i64 k', .string nm', .slice An' nn' cn', .slice Ak' nk' ck'] 25)) := ((Keep.refl _ w).alloc _).alloc _
  have a0 : At ((w.alloc (.cells #[.int .i64 k, .string nm, .slice An nn cn, .slice Ak nk ck] 25)).alloc (.cells #[.int .i64 k', .string nm', .slice An' nn' cn', .slice Ak' nk' ck'] 25)) w.heap.size 25 #[.int .i64 k, .string nm, .slice An nn cn, .slice Ak nk ck] := (At.new _ _ _).alloc _
  have a1 : At ((w.alloc (.cells #[.int .i64 k, .string nm, .slice An nn cn, .slice Ak nk ck] 25)).alloc (.cells #[.int .i64 k', .string nm', .slice An' nn' cn', .slice Ak' nk' ck'] 25)) (w.heap.size + 1) 25 #[.int .i64 k', .string nm', .slice An' nn' cn', .slice Ak' nk' ck'] := At.new_at (by simp)
  have hA := fun (w' : World) (X : Nat → Prop) (hk : Keep (fun _ => False) ((w.alloc (.cells #[.int .i64 k, .string nm, .slice An nn cn, .slice Ak nk ck] 25)).alloc (.cells #[.int .i64 k', .string nm', .slice An' nn' cn', .slice Ak' nk' ck'] 25)) w') (hX : ∀ g, X g → ((w.alloc (.cells #[.int .i64 k, .string nm, .slice An nn cn, .slice Ak nk ck] 25)).alloc (.cells #[.int .i64 k', .string nm', .slice An' nn' cn', .slice Ak' nk' ck'] 25)).heap.size ≤ g ∧ g < w'.heap.size) => parts_any (X := X) (fun g hg => (hX g hg).2) na ((h.step kw).keep hk (fun _ _ x => x.elim) (fun i hi hx => by have := (hX i hx).1; omega))
  have hB := fun (w' : World) (X : Nat → Prop) (hk : Keep (fun _ => False) ((w.alloc (.cells #[.int .i64 k, .string nm, .slice An nn cn, .slice Ak nk ck] 25)).alloc (.cells #[.int .i64 k', .string nm', .slice An' nn' cn', .slice Ak' nk' ck'] 25)) w') (hX : ∀ g, X g → ((w.alloc (.cells #[.int .i64 k, .string nm, .slice An nn cn, .slice Ak nk ck] 25)).alloc (.cells #[.int .i64 k', .string nm', .slice An' nn' cn', .slice Ak' nk' ck'] 25)).heap.size ≤ g ∧ g < w'.heap.size) => parts_any (X := X) (fun g hg => (hX g hg).2) nb ((h'.step kw).keep hk (fun _ _ x => x.elim) (fun i hi hx => by have := (hX i hx).1; omega))
  have HF := Lib.hid (And.intro hf kw)
  have H := Lib.hid (And.intro a0 a1)
  unfold Tv.val at hA hB ⊢
  simp only at hA hB ⊢
  clear h h' hf kw a0 a1
  go_enter Tryd.func55, Tryd.ntmps55
  go_upto_region 1 with fail
  generalize ((w.alloc (.cells #[.int .i64 k, .string nm, .slice An nn cn, .slice Ak nk ck] 25)).alloc (.cells #[.int .i64 k', .string nm', .slice An' nn' cn', .slice Ak' nk' ck'] 25)) = w1 at *
  generalize w.heap.size = bx at *
  generalize bx + 1 = by_ at *
  have HA := Lib.hid hA
  have HB := Lib.hid hB
  have HC : Hid (∀ w', Keep (fun _ => False) w1 w' → (bx < w'.heap.size ∧ w'.cell? ⟨bx, 0, none⟩ = some (.int .i64 k) ∧ w'.cell? ⟨bx, 1, none⟩ = some (.string nm) ∧ w'.cell? ⟨bx, 2, none⟩ = some (.slice An nn cn) ∧ w'.cell? ⟨bx, 3, none⟩ = some (.slice Ak nk ck)) ∧ (by_ < w'.heap.size ∧ w'.cell? ⟨by_, 0, none⟩ = some (.int .i64 k') ∧ w'.cell? ⟨by_, 1, none⟩ = some (.string nm') ∧ w'.cell? ⟨by_, 2, none⟩ = some (.slice An' nn' cn') ∧ w'.cell? ⟨by_, 3, none⟩ = some (.slice Ak' nk' ck'))) := fun w' hk => ⟨(hk.at_ H.out.1 (fun x => x)).tcells, (hk.at_ H.out.2 (fun x => x)).tcells⟩
  clear hA hB
  go_cut [9, 10] (Two w1 a b)
  case first =>
    refine wp_region_inv (by kernel_rfl) (fun l act wz => ∃ v9 v10 v13 v14 v15 v16 : Value, act = ⟨#[.agg #[.int .i64 k, .string nm, .slice An nn cn, .slice Ak nk ck], .agg #[.int .i64 k', .string nm', .slice An' nn' cn', .slice Ak' nk' ck'], .bool missing, .func (.func 58) #[] #[.pointer (some ⟨cb, 0, none⟩)], .pointer (some ⟨bx, 0, none⟩), .pointer (some ⟨by_, 0, none⟩), undef, undef, .bool false, v9, v10, undef, undef, v13, v14, v15, v16, undef, undef, undef, undef, undef, undef, undef, undef, undef, undef, undef, undef, undef, undef, undef, undef, undef, undef, undef, undef, undef, undef, undef, undef, undef, undef, undef, undef, undef, undef, undef, undef], []⟩ ∧ l.size = 8 ∧ TwoI w1 a b (.agg #[.int .i64 k, .string nm, .slice An nn cn, .slice Ak nk ck]) (.agg #[.int .i64 k', .string nm', .slice An' nn' cn', .slice Ak' nk' ck']) (fun j => l.getD j false = true) v9 v10 v13 v14 v15 v16 wz) (lt_of_all (by kernel_rfl)) ?_ ?_ ?_
    · exact ⟨_, _, _, _, _, _, rfl, by simp, TwoI.start _ _ _ _ _ _ _ _ _ _ _ (fun j h => by
        rcases Nat.lt_or_ge j 8 with hj | hj
        · simp [hj] at h
        · simp [hj] at h) (Keep.refl (fun _ => False) w1).drew⟩
    · intro i o l act wz ho hl hu hde hI
      obtain ⟨v9, v10, v13, v14, v15, v16, rfl, hsz, hI⟩ := hI
      have hi : i < 8 := (Array.getElem?_eq_some_iff.1 ho).1
      have hup := up_set hsz hi hu
      have hIH := Lib.hid hI
      have hUP := Lib.hid hup
      clear hI hup hl
      have hi8 : i = 0 ∨ i = 1 ∨ i = 2 ∨ i = 3 ∨ i = 4 ∨ i = 5 ∨ i = 6 ∨ i = 7 := by omega
      obtain ⟨⟨xl, x0, x1, x2, x3⟩, ⟨yl, y0, y1, y2, y3⟩⟩ := HC.out wz hIH.out.keep
      clear hi hu
      rcases hi8 with rfl | rfl | rfl | rfl | rfl | rfl | rfl | rfl
      all_goals simp only [List.getElem?_toArray, List.getElem?_cons_zero, List.getElem?_cons_succ, Option.some.injEq] at ho
      all_goals subst ho
      · refine wpOp_step (i := 0) rfl (fun K' hK => ?_)
        clear hde
        go_simp
        refine hK _ _ ⟨_, _, _, _, _, _, rfl, by simp [hsz], hIH.out.load0 hUP.out⟩
      · refine wpOp_step (i := 1) rfl (fun K' hK => ?_)
        have d0 : l.getD 0 false = true := hde { on := 0, ground := .data } (by simp) rfl
        obtain rfl := hIH.out.c13 d0
        have hc := HA.out _ _ hIH.out.keep (fun g hg => XX_lt hIH.out g hg)
        clear hde d0
        go_simp
        go_at_call 48
        refine hc.mono ?_
        rintro e w2 ⟨cs, rfl, hp, hk⟩
        refine hK _ _ ⟨_, _, _, _, _, _, rfl, by simp [hsz], hIH.out.call1 hUP.out hk hp⟩
      · refine wpOp_step (i := 2) rfl (fun K' hK => ?_)
        clear hde
        go_simp
        refine hK _ _ ⟨_, _, _, _, _, _, rfl, by simp [hsz], hIH.out.load2 hUP.out⟩
      · refine wpOp_step (i := 3) rfl (fun K' hK => ?_)
        have d0 : l.getD 2 false = true := hde { on := 2, ground := .data } (by simp) rfl
        obtain rfl := hIH.out.c15 d0
        have hc := HB.out _ _ hIH.out.keep (fun g hg => XX_lt hIH.out g hg)
        clear hde d0
        go_simp
        go_at_call 48
        refine hc.mono ?_
        rintro e w2 ⟨cs, rfl, hp, hk⟩
        refine hK _ _ ⟨_, _, _, _, _, _, rfl, by simp [hsz], hIH.out.call3 hUP.out hk hp⟩
      · refine wpOp_step (i := 4) rfl (fun K' hK => ?_)
        clear hde
        go_simp
        refine hK _ _ ⟨_, _, _, _, _, _, rfl, by simp [hsz], hIH.out.alloc4 hUP.out⟩
      · refine wpOp_step (i := 5) rfl (fun K' hK => ?_)
        clear hde
        go_simp
        refine hK _ _ ⟨_, _, _, _, _, _, rfl, by simp [hsz], hIH.out.alloc5 hUP.out⟩
      · refine wpOp_step (i := 6) rfl (fun K' hK => ?_)
        have d0 : l.getD 4 false = true := hde { on := 4, ground := .data } (by simp) rfl
        have d1 : l.getD 1 false = true := hde { on := 1, ground := .data } (by simp) rfl
        obtain ⟨p, cs, e9, hat, hge, hsix, _⟩ := hIH.out.c9 d0
        obtain ⟨ds, e14, hpt⟩ := hIH.out.c14 d1
        obtain ⟨p0, p1, p2, p3, p4, p5, rfl⟩ := hpt.ptrs
        have hst := hIH.out.store6 hUP.out e9 hat hsix d1 d0 ⟨_, _, _, _, _, _, rfl⟩ e14
        obtain ⟨z0, z1, z2, z3, z4, z5, rfl⟩ := hsix
        subst e9 e14
        obtain ⟨rl, r0, r1, r2, r3, r4, r5⟩ := hat.cells6
        have f0 := hat.frozen 0
        have f1 := hat.frozen 1
        have f2 := hat.frozen 2
        have f3 := hat.frozen 3
        have f4 := hat.frozen 4
        have f5 := hat.frozen 5
        have HST := Lib.hid hst
        clear hde d0 d1 hat hpt hst hge
        go_simp
        refine hK _ _ ⟨_, _, _, _, _, _, rfl, by simp [hsz], HST.out⟩
      · refine wpOp_step (i := 7) rfl (fun K' hK => ?_)
        have d0 : l.getD 5 false = true := hde { on := 5, ground := .data } (by simp) rfl
        have d1 : l.getD 3 false = true := hde { on := 3, ground := .data } (by simp) rfl
        obtain ⟨p, cs, e9, hat, hge, hsix, _⟩ := hIH.out.c10 d0
        obtain ⟨ds, e14, hpt⟩ := hIH.out.c16 d1
        obtain ⟨p0, p1, p2, p3, p4, p5, rfl⟩ := hpt.ptrs
        have hst := hIH.out.store7 hUP.out e9 hat hsix d1 d0 ⟨_, _, _, _, _, _, rfl⟩ e14
        obtain ⟨z0, z1, z2, z3, z4, z5, rfl⟩ := hsix
        subst e9 e14
        obtain ⟨rl, r0, r1, r2, r3, r4, r5⟩ := hat.cells6
        have f0 := hat.frozen 0
        have f1 := hat.frozen 1
        have f2 := hat.frozen 2
        have f3 := hat.frozen 3
        have f4 := hat.frozen 4
        have f5 := hat.frozen 5
        have HST := Lib.hid hst
        clear hde d0 d1 hat hpt hst hge
        go_simp
        refine hK _ _ ⟨_, _, _, _, _, _, rfl, by simp [hsz], HST.out⟩
    · intro l act wz hall hI
      obtain ⟨v9, v10, v13, v14, v15, v16, rfl, hsz, hI⟩ := hI
      have HF := Lib.hid (hI.fin hall)
      clear hI hall
      (try dsimp only)
      go_wp2_with fail
      go_meet
      exact HF.out
  case rest =>
    obtain ⟨p, q, cs, ds, rfl, rfl, hap, haq, hpv, hqv, hkx⟩ := hcut
    obtain ⟨p0, p1, p2, p3, p4, p5, rfl⟩ := hpv.ptrs
    obtain ⟨rl, r0, r1, r2, r3, r4, r5⟩ := hap.cells6
    have h0 : Hid (EaA wc a b missing ok 6 (.int .i64 0) wc) := ⟨0, rfl, by decide, rfl, fun tag h => absurd h (Nat.not_lt_zero _), Keep.refl _ _⟩
    have HX := Lib.hid (And.intro hpv (And.intro hqv (And.intro haq (HF.out.2.trans hkx (fun _ _ x => x)))))
    clear hap haq hpv hqv hkx HC HA HB H
    go_wp2_with fail
    clear rl r0 r1 r2 r3 r4 r5
    go_loopg [18] 6 (EaA wc a b missing ok)
    case atStart => exact h0.out
    case round =>
      clear h0
      obtain ⟨i, rfl, hi, rfl, hall, hk⟩ := hrel
      have HK := Lib.hid (And.intro hall hk)
      by_cases hlt : i < 6
      · have i0 : (0 : Int) ≤ (i : Int) := by omega
        have i6 : (i : Int) < 6 := by omega
        have hbq := hk.at_ HX.out.2.2.1 (fun x => x)
        have bl := hbq.lt
        have bc := hbq.cell i
        have nxt : eachAt a b missing ok i = true → ∀ tag, tag < i + 1 → eachAt a b missing ok tag = true := fun h tag ht => by
          by_cases he : tag = i
          · rw [he]; exact h
          · exact HK.out.1 tag (by omega)
        have NXT := Lib.hid nxt
        clear hall nxt hbq
        rcases HX.out.1.at_ hlt with ⟨hpn, hc⟩ | ⟨m, bm, hpm, hc, hPA⟩
        · have hix := run_ixp hlt hc
          have HE := Lib.hid (show eachAt a b missing ok i = true by unfold eachAt; rw [hpn])
          clear hpn hc bc hk
          go_wp2_with fail
          go_roundg (6 - (i + 1))
          case measure => omega
          case rel => exact ⟨i + 1, by go_num, by omega, rfl, NXT.out HE.out, HK.out.2⟩
        · have hix := run_ixp hlt hc
          rcases HX.out.2.1.at_ hlt with ⟨hqn, hd⟩ | ⟨pp, bp, hqm, hd, hPB⟩
          · rw [hd] at bc
            have HE := Lib.hid (show eachAt a b missing ok i = missing by unfold eachAt; rw [hpm, hqn])
            clear hpm hc hqn hd hPA hk
            cases missing with
            | false =>
              go_wp2_with fail
              go_ret
              exact ⟨ret_bool (eachB_bad hlt HE.out).symm, HX.out.2.2.2.trans HK.out.2 (fun _ _ x => x)⟩
            | true =>
              go_wp2_with fail
              go_roundg (6 - (i + 1))
              case measure => omega
              case rel => exact ⟨i + 1, by go_num, by omega, rfl, NXT.out HE.out, HK.out.2⟩
          · rw [hd] at bc
            have hc2 := HF.out.1 i m pp wr bm bp hlt hpm hqm (HX.out.2.2.2.trans hk (fun _ _ x => x)) (hPA.step hk) (hPB.step hk)
            have HE := Lib.hid (show eachAt a b missing ok i = ok i m pp by unfold eachAt; rw [hpm, hqm])
            clear hpm hc hqm hd hPA hPB hk
            cases hv : ok i m pp with
            | false =>
              rw [hv] at hc2 HE
              clear hv
              go_wp2_with (go_at_call 58; refine hc2.mono ?_; rintro e w2 ⟨rfl, hk2⟩; have K2 := Lib.hid hk2; clear hk2 hc2)
              go_ret
              exact ⟨ret_bool (eachB_bad hlt HE.out).symm, (HX.out.2.2.2.trans HK.out.2 (fun _ _ x => x)).trans K2.out (fun _ _ x => x)⟩
            | true =>
              rw [hv] at hc2 HE
              clear hv
              go_wp2_with (go_at_call 58; refine hc2.mono ?_; rintro e w2 ⟨rfl, hk2⟩; have K2 := Lib.hid hk2; clear hk2 hc2)
              go_roundg (6 - (i + 1))
              case measure => omega
              case rel => exact ⟨i + 1, by go_num, by omega, rfl, NXT.out HE.out, HK.out.2.trans K2.out (fun _ _ x => x)⟩
      · have hie : i = 6 := by omega
        subst hie
        have HE := Lib.hid (eachB_yes hall)
        clear hall hk
        go_wp2_with fail
        go_ret
        exact ⟨ret_bool HE.out.symm, HX.out.2.2.2.trans HK.out.2 (fun _ _ x => x)⟩
set_option maxRecDepth 100000 in
set_option maxHeartbeats 8000000 in
theorem each_naive {w : World} {r r' : Tv} {a b : Ty} {missing : Bool} (ok : Nat → Bool × Ty → Bool × Ty → Bool) (na : NF a) (nb : NF b) (h : TyV w nX r a) (h' : TyV w nX r' b)
    (hf : ∀ (tag : Nat) (m p : Bool × Ty) (w' : World) (bm bp : Nat), tag < 6 → prt a tag = some m → prt b tag = some p → Keep (fun _ => False) w w' → PartAt w' nX bm tag m → PartAt w' nX bp tag p →
      Calls Tryd.prog 59 #[.pointer (some ⟨bm, 0, none⟩), .pointer (some ⟨bp, 0, none⟩)] w' fun e w'' => e = .returned (.bool (ok tag m p)) ∧ Keep (fun _ => False) w' w'') :
    Calls Tryd.prog 55 #[r.val, r'.val, .bool missing, .func (.func 59) #[] #[]] w fun e w' => e = .returned (.bool (eachB a b missing ok)) ∧ Keep (fun _ => False) w w' := by
  obtain ⟨k, nm, An, nn, cn, Ak, nk, ck⟩ := r
  obtain ⟨k', nm', An', nn', cn', Ak', nk', ck'⟩ := r'
  have kw : Keep (fun _ => False) w ((w.alloc (.cells #[.int .i64 k, .string nm, .slice An nn cn, .slice Ak nk ck] 25)).alloc (.cells #[.int .i64 k', .string nm', .slice An' nn' cn', .slice Ak' nk' ck'] 25)) := ((Keep.refl _ w).alloc _).alloc _
  have a0 : At ((w.alloc (.cells #[.int .i64 k, .string nm, .slice An nn cn, .slice Ak nk ck] 25)).alloc (.cells #[.int .i64 k', .string nm', .slice An' nn' cn', .slice Ak' nk' ck'] 25)) w.heap.size 25 #[.int .i64 k, .string nm, .slice An nn cn, .slice Ak nk ck] := (At.new _ _ _).alloc _
  have a1 : At ((w.alloc (.cells #[.int .i64 k, .string nm, .slice An nn cn, .slice Ak nk ck] 25)).alloc (.cells #[.int .i64 k', .string nm', .slice An' nn' cn', .slice Ak' nk' ck'] 25)) (w.heap.size + 1) 25 #[.int .i64 k', .string nm', .slice An' nn' cn', .slice Ak' nk' ck'] := At.new_at (by simp)
  have hA := fun (w' : World) (X : Nat → Prop) (hk : Keep (fun _ => False) ((w.alloc (.cells #[.int .i64 k, .string nm, .slice An nn cn, .slice Ak nk ck] 25)).alloc (.cells #[.int .i64 k', .string nm', .slice An' nn' cn', .slice Ak' nk' ck'] 25)) w') (hX : ∀ g, X g → ((w.alloc (.cells #[.int .i64 k, .string nm, .slice An nn cn, .slice Ak nk ck] 25)).alloc (.cells #[.int .i64 k', .string nm', .slice An' nn' cn', .slice Ak' nk' ck'] 25)).heap.size ≤ g ∧ g < w'.heap.size) => parts_any (X := X) (fun g hg => (hX g hg).2) na ((h.step kw).keep hk (fun _ _ x => x.elim) (fun i hi hx => by have := (hX i hx).1; omega))
  have hB := fun (w' : World) (X : Nat → Prop) (hk : Keep (fun _ => False) ((w.alloc (.cells #[.int .i64 k, .string nm, .slice An nn cn, .slice Ak nk ck] 25)).alloc (.cells #[.int .i64 k', .string nm', .slice An' nn' cn', .slice Ak' nk' ck'] 25)) w') (hX : ∀ g, X g → ((w.alloc (.cells #[.int .i64 k, .string nm, .slice An nn cn, .slice Ak nk ck] 25)).alloc (.cells #[.int .i64 k', .string nm', .slice An' nn' cn', .slice Ak' nk' ck'] 25)).heap.size ≤ g ∧ g < w'.heap.size) => parts_any (X := X) (fun g hg => (hX g hg).2) nb ((h'.step kw).keep hk (fun _ _ x => x.elim) (fun i hi hx => by have := (hX i hx).1; omega))
  have HF := Lib.hid (And.intro hf kw)
  have H := Lib.hid (And.intro a0 a1)
  unfold Tv.val at hA hB ⊢
  simp only at hA hB ⊢
  clear h h' hf kw a0 a1
  go_enter Tryd.func55, Tryd.ntmps55
  go_upto_region 1 with fail
  generalize ((w.alloc (.cells #[.int .i64 k, .string nm, .slice An nn cn, .slice Ak nk ck] 25)).alloc (.cells #[.int .i64 k', .string nm', .slice An' nn' cn', .slice Ak' nk' ck'] 25)) = w1 at *
  generalize w.heap.size = bx at *
  generalize bx + 1 = by_ at *
  have HA := Lib.hid hA
  have HB := Lib.hid hB
  have HC : Hid (∀ w', Keep (fun _ => False) w1 w' → (bx < w'.heap.size ∧ w'.cell? ⟨bx, 0, none⟩ = some (.int .i64 k) ∧ w'.cell? ⟨bx, 1, none⟩ = some (.string nm) ∧ w'.cell? ⟨bx, 2, none⟩ = some (.slice An nn cn) ∧ w'.cell? ⟨bx, 3, none⟩ = some (.slice Ak nk ck)) ∧ (by_ < w'.heap.size ∧ w'.cell? ⟨by_, 0, none⟩ = some (.int .i64 k') ∧ w'.cell? ⟨by_, 1, none⟩ = some (.string nm') ∧ w'.cell? ⟨by_, 2, none⟩ = some (.slice An' nn' cn') ∧ w'.cell? ⟨by_, 3, none⟩ = some (.slice Ak' nk' ck'))) := fun w' hk => ⟨(hk.at_ H.out.1 (fun x => x)).tcells, (hk.at_ H.out.2 (fun x => x)).tcells⟩
  clear hA hB
  go_cut [9, 10] (Two w1 a b)
  case first =>
    refine wp_region_inv (by kernel_rfl) (fun l act wz => ∃ v9 v10 v13 v14 v15 v16 : Value, act = ⟨#[.agg #[.int .i64 k, .string nm, .slice An nn cn, .slice Ak nk ck], .agg #[.int .i64 k', .string nm', .slice An' nn' cn', .slice Ak' nk' ck'], .bool missing, .func (.func 59) #[] #[], .pointer (some ⟨bx, 0, none⟩), .pointer (some ⟨by_, 0, none⟩), undef, undef, .bool false, v9, v10, undef, undef, v13, v14, v15, v16, undef, undef, undef, undef, undef, undef, undef, undef, undef, undef, undef, undef, undef, undef, undef, undef, undef, undef, undef, undef, undef, undef, undef, undef, undef, undef, undef, undef, undef, undef, undef, undef], []⟩ ∧ l.size = 8 ∧ TwoI w1 a b (.agg #[.int .i64 k, .string nm, .slice An nn cn, .slice Ak nk ck]) (.agg #[.int .i64 k', .string nm', .slice An' nn' cn', .slice Ak' nk' ck']) (fun j => l.getD j false = true) v9 v10 v13 v14 v15 v16 wz) (lt_of_all (by kernel_rfl)) ?_ ?_ ?_
    · exact ⟨_, _, _, _, _, _, rfl, by simp, TwoI.start _ _ _ _ _ _ _ _ _ _ _ (fun j h => by
        rcases Nat.lt_or_ge j 8 with hj | hj
        · simp [hj] at h
        · simp [hj] at h) (Keep.refl (fun _ => False) w1).drew⟩
    · intro i o l act wz ho hl hu hde hI
      obtain ⟨v9, v10, v13, v14, v15, v16, rfl, hsz, hI⟩ := hI
      have hi : i < 8 := (Array.getElem?_eq_some_iff.1 ho).1
      have hup := up_set hsz hi hu
      have hIH := Lib.hid hI
      have hUP := Lib.hid hup
      clear hI hup hl
      have hi8 : i = 0 ∨ i = 1 ∨ i = 2 ∨ i = 3 ∨ i = 4 ∨ i = 5 ∨ i = 6 ∨ i = 7 := by omega
      obtain ⟨⟨xl, x0, x1, x2, x3⟩, ⟨yl, y0, y1, y2, y3⟩⟩ := HC.out wz hIH.out.keep
      clear hi hu
      rcases hi8 with rfl | rfl | rfl | rfl | rfl | rfl | rfl | rfl
      all_goals simp only [List.getElem?_toArray, List.getElem?_cons_zero, List.getElem?_cons_succ, Option.some.injEq] at ho
      all_goals subst ho
      · refine wpOp_step (i := 0) rfl (fun K' hK => ?_)
        clear hde
        go_simp
        refine hK _ _ ⟨_, _, _, _, _, _, rfl, by simp [hsz], hIH.out.load0 hUP.out⟩
      · refine wpOp_step (i := 1) rfl (fun K' hK => ?_)
        have d0 : l.getD 0 false = true := hde { on := 0, ground := .data } (by simp) rfl
        obtain rfl := hIH.out.c13 d0
        have hc := HA.out _ _ hIH.out.keep (fun g hg => XX_lt hIH.out g hg)
        clear hde d0
        go_simp
        go_at_call 48
        refine hc.mono ?_
        rintro e w2 ⟨cs, rfl, hp, hk⟩
        refine hK _ _ ⟨_, _, _, _, _, _, rfl, by simp [hsz], hIH.out.call1 hUP.out hk hp⟩
      · refine wpOp_step (i := 2) rfl (fun K' hK => ?_)
        clear hde
        go_simp
        refine hK _ _ ⟨_, _, _, _, _, _, rfl, by simp [hsz], hIH.out.load2 hUP.out⟩
      · refine wpOp_step (i := 3) rfl (fun K' hK => ?_)
        have d0 : l.getD 2 false = true := hde { on := 2, ground := .data } (by simp) rfl
        obtain rfl := hIH.out.c15 d0
        have hc := HB.out _ _ hIH.out.keep (fun g hg => XX_lt hIH.out g hg)
        clear hde d0
        go_simp
        go_at_call 48
        refine hc.mono ?_
        rintro e w2 ⟨cs, rfl, hp, hk⟩
        refine hK _ _ ⟨_, _, _, _, _, _, rfl, by simp [hsz], hIH.out.call3 hUP.out hk hp⟩
      · refine wpOp_step (i := 4) rfl (fun K' hK => ?_)
        clear hde
        go_simp
        refine hK _ _ ⟨_, _, _, _, _, _, rfl, by simp [hsz], hIH.out.alloc4 hUP.out⟩
      · refine wpOp_step (i := 5) rfl (fun K' hK => ?_)
        clear hde
        go_simp
        refine hK _ _ ⟨_, _, _, _, _, _, rfl, by simp [hsz], hIH.out.alloc5 hUP.out⟩
      · refine wpOp_step (i := 6) rfl (fun K' hK => ?_)
        have d0 : l.getD 4 false = true := hde { on := 4, ground := .data } (by simp) rfl
        have d1 : l.getD 1 false = true := hde { on := 1, ground := .data } (by simp) rfl
        obtain ⟨p, cs, e9, hat, hge, hsix, _⟩ := hIH.out.c9 d0
        obtain ⟨ds, e14, hpt⟩ := hIH.out.c14 d1
        obtain ⟨p0, p1, p2, p3, p4, p5, rfl⟩ := hpt.ptrs
        have hst := hIH.out.store6 hUP.out e9 hat hsix d1 d0 ⟨_, _, _, _, _, _, rfl⟩ e14
        obtain ⟨z0, z1, z2, z3, z4, z5, rfl⟩ := hsix
        subst e9 e14
        obtain ⟨rl, r0, r1, r2, r3, r4, r5⟩ := hat.cells6
        have f0 := hat.frozen 0
        have f1 := hat.frozen 1
        have f2 := hat.frozen 2
        have f3 := hat.frozen 3
        have f4 := hat.frozen 4
        have f5 := hat.frozen 5
        have HST := Lib.hid hst
        clear hde d0 d1 hat hpt hst hge
        go_simp
        refine hK _ _ ⟨_, _, _, _, _, _, rfl, by simp [hsz], HST.out⟩
      · refine wpOp_step (i := 7) rfl (fun K' hK => ?_)
        have d0 : l.getD 5 false = true := hde { on := 5, ground := .data } (by simp) rfl
        have d1 : l.getD 3 false = true := hde { on := 3, ground := .data } (by simp) rfl
        obtain ⟨p, cs, e9, hat, hge, hsix, _⟩ := hIH.out.c10 d0
        obtain ⟨ds, e14, hpt⟩ := hIH.out.c16 d1
        obtain ⟨p0, p1, p2, p3, p4, p5, rfl⟩ := hpt.ptrs
        have hst := hIH.out.store7 hUP.out e9 hat hsix d1 d0 ⟨_, _, _, _, _, _, rfl⟩ e14
        obtain ⟨z0, z1, z2, z3, z4, z5, rfl⟩ := hsix
        subst e9 e14
        obtain ⟨rl, r0, r1, r2, r3, r4, r5⟩ := hat.cells6
        have f0 := hat.frozen 0
        have f1 := hat.frozen 1
        have f2 := hat.frozen 2
        have f3 := hat.frozen 3
        have f4 := hat.frozen 4
        have f5 := hat.frozen 5
        have HST := Lib.hid hst
        clear hde d0 d1 hat hpt hst hge
        go_simp
        refine hK _ _ ⟨_, _, _, _, _, _, rfl, by simp [hsz], HST.out⟩
    · intro l act wz hall hI
      obtain ⟨v9, v10, v13, v14, v15, v16, rfl, hsz, hI⟩ := hI
      have HF := Lib.hid (hI.fin hall)
      clear hI hall
      (try dsimp only)
      go_wp2_with fail
      go_meet
      exact HF.out
  case rest =>
    obtain ⟨p, q, cs, ds, rfl, rfl, hap, haq, hpv, hqv, hkx⟩ := hcut
    obtain ⟨p0, p1, p2, p3, p4, p5, rfl⟩ := hpv.ptrs
    obtain ⟨rl, r0, r1, r2, r3, r4, r5⟩ := hap.cells6
    have h0 : Hid (EaA wc a b missing ok 6 (.int .i64 0) wc) := ⟨0, rfl, by decide, rfl, fun tag h => absurd h (Nat.not_lt_zero _), Keep.refl _ _⟩
    have HX := Lib.hid (And.intro hpv (And.intro hqv (And.intro haq (HF.out.2.trans hkx (fun _ _ x => x)))))
    clear hap haq hpv hqv hkx HC HA HB H
    go_wp2_with fail
    clear rl r0 r1 r2 r3 r4 r5
    go_loopg [18] 6 (EaA wc a b missing ok)
    case atStart => exact h0.out
    case round =>
      clear h0
      obtain ⟨i, rfl, hi, rfl, hall, hk⟩ := hrel
      have HK := Lib.hid (And.intro hall hk)
      by_cases hlt : i < 6
      · have i0 : (0 : Int) ≤ (i : Int) := by omega
        have i6 : (i : Int) < 6 := by omega
        have hbq := hk.at_ HX.out.2.2.1 (fun x => x)
        have bl := hbq.lt
        have bc := hbq.cell i
        have nxt : eachAt a b missing ok i = true → ∀ tag, tag < i + 1 → eachAt a b missing ok tag = true := fun h tag ht => by
          by_cases he : tag = i
          · rw [he]; exact h
          · exact HK.out.1 tag (by omega)
        have NXT := Lib.hid nxt
        clear hall nxt hbq
        rcases HX.out.1.at_ hlt with ⟨hpn, hc⟩ | ⟨m, bm, hpm, hc, hPA⟩
        · have hix := run_ixp hlt hc
          have HE := Lib.hid (show eachAt a b missing ok i = true by unfold eachAt; rw [hpn])
          clear hpn hc bc hk
          go_wp2_with fail
          go_roundg (6 - (i + 1))
          case measure => omega
          case rel => exact ⟨i + 1, by go_num, by omega, rfl, NXT.out HE.out, HK.out.2⟩
        · have hix := run_ixp hlt hc
          rcases HX.out.2.1.at_ hlt with ⟨hqn, hd⟩ | ⟨pp, bp, hqm, hd, hPB⟩
          · rw [hd] at bc
            have HE := Lib.hid (show eachAt a b missing ok i = missing by unfold eachAt; rw [hpm, hqn])
            clear hpm hc hqn hd hPA hk
            cases missing with
            | false =>
              go_wp2_with fail
              go_ret
              exact ⟨ret_bool (eachB_bad hlt HE.out).symm, HX.out.2.2.2.trans HK.out.2 (fun _ _ x => x)⟩
            | true =>
              go_wp2_with fail
              go_roundg (6 - (i + 1))
              case measure => omega
              case rel => exact ⟨i + 1, by go_num, by omega, rfl, NXT.out HE.out, HK.out.2⟩
          · rw [hd] at bc
            have hc2 := HF.out.1 i m pp wr bm bp hlt hpm hqm (HX.out.2.2.2.trans hk (fun _ _ x => x)) (hPA.step hk) (hPB.step hk)
            have HE := Lib.hid (show eachAt a b missing ok i = ok i m pp by unfold eachAt; rw [hpm, hqm])
            clear hpm hc hqm hd hPA hPB hk
            cases hv : ok i m pp with
            | false =>
              rw [hv] at hc2 HE
              clear hv
              go_wp2_with (go_at_call 59; refine hc2.mono ?_; rintro e w2 ⟨rfl, hk2⟩; have K2 := Lib.hid hk2; clear hk2 hc2)
              go_ret
              exact ⟨ret_bool (eachB_bad hlt HE.out).symm, (HX.out.2.2.2.trans HK.out.2 (fun _ _ x => x)).trans K2.out (fun _ _ x => x)⟩
            | true =>
              rw [hv] at hc2 HE
              clear hv
              go_wp2_with (go_at_call 59; refine hc2.mono ?_; rintro e w2 ⟨rfl, hk2⟩; have K2 := Lib.hid hk2; clear hk2 hc2)
              go_roundg (6 - (i + 1))
              case measure => omega
              case rel => exact ⟨i + 1, by go_num, by omega, rfl, NXT.out HE.out, HK.out.2.trans K2.out (fun _ _ x => x)⟩
      · have hie : i = 6 := by omega
        subst hie
        have HE := Lib.hid (eachB_yes hall)
        clear hall hk
        go_wp2_with fail
        go_ret
        exact ⟨ret_bool HE.out.symm, HX.out.2.2.2.trans HK.out.2 (fun _ _ x => x)⟩
end Go.Proofs.YtbanpohholnkaaaDoor
