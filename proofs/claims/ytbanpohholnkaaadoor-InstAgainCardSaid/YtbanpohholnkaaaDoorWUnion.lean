/-
  Walk: types.union. Conditions: none beyond what it says.
-/
import Derived.Test.YtbanpohholnkaaaDoorNorm
namespace Go.Proofs.YtbanpohholnkaaaDoor
open Go.RowKit

theorem TyV.kds {w : World} {X : Nat → Prop} {r : Tv} {t : Ty} (h : TyV w X r t) : ∃ rs, r.nk = t.kids.length ∧ r.nk ≤ 140737488355328 ∧ Rd w X 4 (.slice r.Ak r.nk r.ck) r.nk (tflat rs) ∧ TysV w X rs t.kids := by
  obtain ⟨h1, _, _, _, rs, h5, h6, h7⟩ := h.out
  exact ⟨rs, h5, h1.2.2, h6, h7⟩
theorem TyV.knd {w : World} {X : Nat → Prop} {r : Tv} {t : Ty} (h : TyV w X r t) : r.k = t.kind := h.out.1.1
/-- A type, or none. -/
def OptP (X : Nat → Prop) (o : Option Ty) (e : Ending) (w : World) : Prop :=
  ∃ r : Tv, match o with
    | none => e = .returned (.tuple #[r.val, .bool false])
    | some t => e = .returned (.tuple #[r.val, .bool true]) ∧ TyV w X r t
theorem OptP.no {X : Nat → Prop} {o : Option Ty} {w : World} (h : o = none) (r : Tv) : OptP X o (.returned (.tuple #[r.val, .bool false])) w := by
  subst h
  exact ⟨r, rfl⟩
theorem OptP.yes {X : Nat → Prop} {o : Option Ty} {w : World} {t : Ty} {r : Tv} (h : o = some t) (ht : TyV w X r t) : OptP X o (.returned (.tuple #[r.val, .bool true])) w := by
  subst h
  exact ⟨r, rfl, ht⟩
theorem Keep.set4 {X : Nat → Prop} {a w : World} {b : Nat} (h : Keep X a w) (hp : X b ∨ a.heap.size ≤ b) (v0 v1 v2 v3 : Value) :
    Keep X a ((((w.setCell ⟨b, 0, none⟩ v0).setCell ⟨b, 1, none⟩ v1).setCell ⟨b, 2, none⟩ v2).setCell ⟨b, 3, none⟩ v3) :=
  Keep.setCell (p := ⟨b, 3, none⟩) (Keep.setCell (p := ⟨b, 2, none⟩) (Keep.setCell (p := ⟨b, 1, none⟩) (Keep.setCell (p := ⟨b, 0, none⟩) h hp v0) hp v1) hp v2) hp v3
def UnA (w : World) (X : Nat → Prop) (kids : List Ty) (rb bo : Nat) (k : Nat) (b : Value) (wr : World) : Prop :=
  ∃ (i : Nat) (cs : Array Value) (os : List (Option Ty)), b = .int .i64 i ∧ i ≤ kids.length ∧ k = kids.length - i ∧ Keep (fun _ => False) w wr ∧ OfV w wr X bo cs os ∧ putAll none6 (flatU (kids.take i)) = (true, os) ∧ At wr rb 25 tv0.vals.toArray
def UnB (w wi : World) (X : Nat → Prop) (ps ms : List Ty) (len rb bo : Nat) (k : Nat) (b : Value) (wr : World) : Prop :=
  ∃ (j : Nat) (cs : Array Value) (os : List (Option Ty)), b = .int .i64 j ∧ j ≤ len ∧ k = len - j ∧ Keep (fun i => i = bo) wi wr ∧ OfV w wr X bo cs os ∧ putAll none6 (ps ++ ms.take j) = (true, os) ∧ At wr rb 25 tv0.vals.toArray
theorem of_zero {w : World} {X : Nat → Prop} {bo : Nat} {w' : World} (h : At w' bo 105 #[.pointer none, .pointer none, .pointer none, .pointer none, .pointer none, .pointer none]) : OfV w w' X bo #[.pointer none, .pointer none, .pointer none, .pointer none, .pointer none, .pointer none] none6 := by
  refine ⟨h, rfl, rfl, fun i hi => ?_, fun i t hi => ?_⟩
  · have hi6 : i < 6 := by simpa [none6] using (List.getElem?_eq_some_iff.1 hi).1
    match i, hi6 with
    | 0, _ => rfl
    | 1, _ => rfl
    | 2, _ => rfl
    | 3, _ => rfl
    | 4, _ => rfl
    | 5, _ => rfl
  · have hi6 : i < 6 := by simpa [none6] using (List.getElem?_eq_some_iff.1 hi).1
    match i, hi6, hi with
    | 0, _, h => simp [none6] at h
    | 1, _, h => simp [none6] at h
    | 2, _, h => simp [none6] at h
    | 3, _, h => simp [none6] at h
    | 4, _, h => simp [none6] at h
    | 5, _, h => simp [none6] at h

theorem run_idx6 {cs : Array Value} {v : Value} {i : Nat} (hi : i < 6) (h : cs[i]? = some v) (w : World) : Sem.run Tryd.prog (Instr.index 105 (.agg cs) (.int .i64 i)) w = .ok v w := by
  have hu := run_underlying Tryd.underlying105

  have hs := Tryd.sizeOf104 w
  have h1 : (0 ≤ (i : Int) ∧ (i : Int) < 6) := by omega
  simp [Instr.index, asIntOf, part, hu, hs, h1, h]
  intro h6
  omega
structure UnR (w w2 wr : World) (X : Nat → Prop) (l : List Ty) (tb : Nat) (lv : Value) (rs : List Tv) : Prop where
  keep : Keep (fun g => g = tb) w2 wr
  box : At wr tb 25 #[.int .i64 7, .string ⟨#[]⟩, .slice none 0 0, lv]
  own : wr.ownsRow 0 25 4 lv l.length (tflat rs)
  tys : TysV w X rs l
  new : ∀ g, lv.ownBlock = some g → w2.heap.size ≤ g
theorem tflat_one_vals (r : Tv) : tflat [r] = r.vals := by simp [tflat]
theorem UnR.app {w w2 wr w' : World} {X : Nat → Prop} {l : List Ty} {tb g cap : Nat} {lv : Value} {rs : List Tv} {r : Tv} {m : Ty} {o : Obj} (h : UnR w w2 wr X l tb lv rs)
    (ho : w'.ownsRow 0 25 4 (.slice (some ⟨g, 0, none⟩) (l.length + 1) cap) (l.length + 1) (tflat rs ++ r.vals)) (hk : Keep (fun k => lv.ownBlock = some k) (wr.alloc o).drew w') (hg : lv.ownBlock = some g ∨ (wr.alloc o).drew.heap.size ≤ g) (ht : tb < w2.heap.size) (hm : TyV w X r m) :
    UnR w w2 (w'.setCell ⟨tb, 3, none⟩ (.slice (some ⟨g, 0, none⟩) (l.length + 1) cap)) X (l ++ [m]) tb (.slice (some ⟨g, 0, none⟩) (l.length + 1) cap) (rs ++ [r]) := by
  have hg2 : w2.heap.size ≤ g := by
    rcases hg with hg | hg
    · exact h.new _ hg
    · have := h.keep.size
      have e : (wr.alloc o).drew.heap.size = wr.heap.size + 1 := by simp
      omega
  have ha := hk.at_ ((h.box.alloc o).drew) (fun hx => by have := h.new tb hx; omega)
  refine ⟨?_, ha.set 3 _, ?_, h.tys.snoc hm, fun k hk => by simp only [Value.ownBlock, Option.some.injEq] at hk; omega⟩
  · refine Keep.setCell (X := fun g => g = tb) (p := ⟨tb, 3, none⟩) ?_ (.inl rfl) _
    exact ((h.keep.alloc o).drew).trans hk (fun i hi hx => by have := h.new i hx; omega)
  · rw [List.length_append, List.length_singleton, tflat_append, tflat_one_vals]
    exact ownsRow_setCell_ne ho (a := ⟨tb, 3, none⟩) (by simp only [Value.ownBlock, ne_eq, Option.some.injEq]; omega) _
theorem UnR.fin {w w2 wr wf : World} {X : Nat → Prop} {l : List Ty} {tb rb cl : Nat} {Al : Option Addr} {rs : List Tv} (hX : ∀ i, X i → i < w.heap.size) (h : UnR w w2 wr X l tb (.slice Al l.length cl) rs) (hw2 : w.heap.size ≤ w2.heap.size) (hl : l.length ≤ 6) (hrb : rb < w2.heap.size) (hf : Keep (fun g => g = rb) wr wf) (hk : Keep (fun _ => False) w wf) :
    TyV wf X ⟨7, ⟨#[]⟩, none, 0, 0, Al, l.length, cl⟩ (.mk 7 ⟨#[]⟩ [] l) :=
  TyV.mk (t := .mk 7 ⟨#[]⟩ [] l) (rs := rs) ⟨rfl, Nat.zero_le _, by simp only; omega⟩ rfl rfl (Rd.nil wf X 1) rfl
    (Rd.of_own (hf.own h.own (fun g hg e => by have := h.new g hg; omega)) (fun g hg hx => by have := h.new g hg; have := hX g hx; omega)) (h.tys.step hk)
def UnC (w w2 : World) (X : Nat → Prop) (os : List (Option Ty)) (tb : Nat) (k : Nat) (b : Value) (wr : World) : Prop :=
  ∃ (i : Nat) (lv : Value) (rs : List Tv), b = .int .i64 i ∧ i ≤ 6 ∧ k = 6 - i ∧ UnR w w2 wr X ((os.take i).filterMap id) tb lv rs
set_option maxRecDepth 100000 in
set_option maxHeartbeats 8000000 in
theorem union_any {w : World} {X : Nat → Prop} (hX : ∀ i, X i → i < w.heap.size) {A : Option Addr} {n c : Nat} {kids : List Ty} {rs : List Tv} (hb : n ≤ 140737488355328) (h : Rd w X 4 (.slice A n c) n (tflat rs)) (hv : TysV w X rs kids) :
    Calls Tryd.prog 77 #[.slice A n c] w fun e w' => OptP X (uniT kids) e w' ∧ Keep (fun _ => False) w w' := by
  have hn : kids.length = n := by rw [← hv.len, h.nlen]
  subst hn
  have H := Lib.hid (And.intro h (And.intro hv hX))
  have z0 : Keep (fun _ => False) w ((w.alloc (.cells #[.int .i64 0, .string ⟨#[]⟩, .slice none 0 0, .slice none 0 0] 25)).alloc (.cells #[.pointer none, .pointer none, .pointer none, .pointer none, .pointer none, .pointer none] 105)) := ((Keep.refl _ w).alloc _).alloc _
  have h0 : Hid (UnA w X kids w.heap.size (w.heap.size + 1) kids.length (.int .i64 0) ((w.alloc (.cells #[.int .i64 0, .string ⟨#[]⟩, .slice none 0 0, .slice none 0 0] 25)).alloc (.cells #[.pointer none, .pointer none, .pointer none, .pointer none, .pointer none, .pointer none] 105))) :=
    ⟨0, _, none6, rfl, Nat.zero_le _, rfl, z0, of_zero (At.new_at (by simp)), by simp [flatU, putAll], (At.new _ _ _).alloc _⟩
  clear h hv hX z0
  go_enter Tryd.func77, Tryd.ntmps77
  go_wp2
  have hrb : w.heap.size ≤ w.heap.size := Nat.le_refl _
  have hbo : w.heap.size ≤ w.heap.size + 1 := Nat.le_succ _
  generalize ((w.alloc (.cells #[.int .i64 0, .string ⟨#[]⟩, .slice none 0 0, .slice none 0 0] 25)).alloc (.cells #[.pointer none, .pointer none, .pointer none, .pointer none, .pointer none, .pointer none] 105)) = ws at *
  generalize hbe : w.heap.size + 1 = bo at *
  generalize hre : w.heap.size = rb at *
  have HRE := Lib.hid (And.intro hbe (And.intro hre (And.intro hrb hbo)))
  clear hbe hre hrb hbo
  go_loopg [17] kids.length (UnA w X kids rb bo)
  case atStart => exact h0.out
  case round =>
    clear h0
    obtain ⟨i, cs, os, rfl, hi, rfl, hkw, hof, hpu, hat⟩ := hrel
    have HG := Lib.hid (And.intro hkw (And.intro hof (And.intro hpu hat)))
    by_cases hlt : i < kids.length
    · obtain ⟨kd, hkd⟩ : ∃ kd, kids[i]? = some kd := ⟨_, List.getElem?_eq_getElem hlt⟩
      obtain ⟨⟨qk, qnm, qAn, qnn, qcn, qAk, qnk, qck⟩, hq, hqv⟩ := H.out.2.1.at_ hkd
      obtain ⟨b, o, rfl, hbz, _, c0, c1, c2, c3⟩ := (H.out.1.keep hkw (fun _ x => x.elim)).tcells (by omega) hq
      have hkk := hqv.knd
      simp only at c0 c1 c2 c3 hkk
      have HQ := Lib.hid (And.intro hqv hkd)
      have hbwo : bo < wr.heap.size := hof.at_.lt
      clear hkw hof hpu hat hkd hq
      by_cases h7 : kd.kind = 7
      · have hms : (if kd.kind = 7 then kd.kids else [kd]) = kd.kids := by rw [if_pos h7]
        have q7 : (qk == 7) = true := by rw [hkk, h7]; rfl
        obtain ⟨rs2, hnk, hnkb, hrd2, hv2⟩ := hqv.kds
        simp only at hnk hnkb hrd2
        subst hnk
        have kwi : Keep (fun _ => False) wr ((wr.alloc (.cells #[.int .i64 qk, .string qnm, .slice qAn qnn qcn, .slice qAk kd.kids.length qck] 25)).alloc (.cells #[.int .i64 qk, .string qnm, .slice qAn qnn qcn, .slice qAk kd.kids.length qck] 25)) := ((Keep.refl _ wr).alloc _).alloc _
        have hrd3 : Rd ((wr.alloc (.cells #[.int .i64 qk, .string qnm, .slice qAn qnn qcn, .slice qAk kd.kids.length qck] 25)).alloc (.cells #[.int .i64 qk, .string qnm, .slice qAn qnn qcn, .slice qAk kd.kids.length qck] 25)) (fun i => i = bo) 4 (.slice qAk kd.kids.length qck) kd.kids.length (tflat rs2) :=
          Rd.keep (Rd.mono (Y := fun i => i = bo) hrd2 (fun i hi hy => by obtain ⟨a1, a2, a3, a4⟩ := HRE.out; omega)) (HG.out.1.trans kwi (fun _ _ x => x)) (fun _ x => x.elim)
        have HRD := Lib.hid (And.intro hms (And.intro kwi (And.intro hrd3 hv2)))
        clear hms kwi hrd3 hrd2 hv2 hqv h7 hkk
        go_wp2_with fail
        have h1 : Hid (UnB w ((wr.alloc (.cells #[.int .i64 qk, .string qnm, .slice qAn qnn qcn, .slice qAk kd.kids.length qck] 25)).alloc (.cells #[.int .i64 qk, .string qnm, .slice qAn qnn qcn, .slice qAk kd.kids.length qck] 25)) X (flatU (kids.take i)) kd.kids kd.kids.length rb bo kd.kids.length (.int .i64 0) ((wr.alloc (.cells #[.int .i64 qk, .string qnm, .slice qAn qnn qcn, .slice qAk kd.kids.length qck] 25)).alloc (.cells #[.int .i64 qk, .string qnm, .slice qAn qnn qcn, .slice qAk kd.kids.length qck] 25))) := ⟨0, cs, os, rfl, Nat.zero_le _, rfl, Keep.refl _ _, HG.out.2.1.step HRD.out.2.1, by simpa using HG.out.2.2.1, HRD.out.2.1.at_ HG.out.2.2.2 (fun x => x)⟩
        generalize ((wr.alloc (.cells #[.int .i64 qk, .string qnm, .slice qAn qnn qcn, .slice qAk kd.kids.length qck] 25)).alloc (.cells #[.int .i64 qk, .string qnm, .slice qAn qnn qcn, .slice qAk kd.kids.length qck] 25)) = wi at *
        clear c0 c1 c2 c3
        go_loopg [30] kd.kids.length (UnB w wi X (flatU (kids.take i)) kd.kids kd.kids.length rb bo)
        case atStart => exact h1.out
        case round =>
          clear h1
          obtain ⟨j, cs2, os2, rfl, hj, rfl, hkw2, hof2, hpu2, hat2⟩ := hrel
          have hbw : w.heap.size ≤ bo := by obtain ⟨a1, a2, a3, a4⟩ := HRE.out; omega
          have hkww := (HG.out.1.trans HRD.out.2.1 (fun _ _ x => x)).weak hkw2 (fun i hi => by subst hi; exact hbw)
          by_cases hjl : j < kd.kids.length
          · obtain ⟨md, hmd⟩ : ∃ md, (kd.kids)[j]? = some md := ⟨_, List.getElem?_eq_getElem (by simpa using hjl)⟩
            obtain ⟨⟨pk, pnm, pAn, pnn, pcn, pAk, pnk, pck⟩, hp, hpv⟩ := HRD.out.2.2.2.at_ hmd
            obtain ⟨b2, o2, hA2, hbz2, _, d0, d1, d2, d3⟩ := (HRD.out.2.2.1.keep hkw2 (fun i hi => hi)).tcells hjl hp
            simp only at d0 d1 d2 d3
            skip
            subst hA2
            have kbx : Keep (fun _ => False) wr (wr.alloc (.cells #[.int .i64 pk, .string pnm, .slice pAn pnn pcn, .slice pAk pnk pck] 25)) := (Keep.refl _ wr).alloc _
            have hpc := put_any (hkww.trans kbx (fun _ _ x => x)) hbw (hof2.step kbx) hpv
            have hps := putAll_snoc (m := md) hpu2
            rw [List.append_assoc] at hps
            have hts : (kd.kids).take (j + 1) = (kd.kids).take j ++ [md] := by rw [List.take_add_one, hmd]; rfl
            rw [← hts] at hps
            have hpb : (putT os2 md).1 = false → uniT kids = none := fun hbad => uniT_bad (i := i) (j := j + 1) HQ.out.2 (by rw [HRD.out.1, hps]; exact hbad)
            unfold Tv.val at hpc
            simp only at hpc
            obtain ⟨⟨pz, pos⟩, hpt⟩ : ∃ z, putT os2 md = z := ⟨_, rfl⟩
            rw [hpt] at hpc hps hpb
            simp only at hpc hpb
            have r0 := hat2.frozen
            have r1 := hat2.lt
            have HM := Lib.hid (And.intro hkw2 (And.intro hps (And.intro hpb (And.intro kbx (And.intro hkww hat2)))))
            clear hkww hkw2 hof2 hpu2 hps hpb hpv hmd hp kbx hpt hts hat2
            cases pz with
            | true =>
              clear r0 r1
              go_wp2_with (go_at_call 87; refine hpc.mono ?_; rintro e w2 ⟨cs3, rfl, hof3, hk3⟩; have H3 := Lib.hid (And.intro hof3 hk3); clear hof3 hk3 hpc)
              go_roundg (kd.kids.length - (j + 1))
              case measure => omega
              case rel =>
                obtain ⟨hkw2, hps, hpb, kbx, hkww, hat2⟩ := HM.out
                obtain ⟨hof3, hk3⟩ := H3.out
                have hne : ¬ rb = bo := by obtain ⟨a1, a2, a3, a4⟩ := HRE.out; omega
                exact ⟨j + 1, cs3, pos, by go_num, by omega, rfl, (hkw2.trans kbx (fun _ _ x => x.elim)).trans hk3 (fun _ _ x => x), hof3, hps, hk3.at_ (kbx.at_ hat2 (fun x => x)) hne⟩
            | false =>
              have hne : ¬ rb = bo := by obtain ⟨a1, a2, a3, a4⟩ := HRE.out; omega
              go_wp2_with (go_at_call 87; refine hpc.mono ?_; rintro e w2 ⟨cs3, rfl, hof3, hk3⟩; have ra : At w2 rb 25 #[.int .i64 0, .string ⟨#[]⟩, .slice none 0 0, .slice none 0 0] := hk3.at_ (HM.out.2.2.2.1.at_ HM.out.2.2.2.2.2 (fun x => x)) hne; have rf0 := ra.frozen 0; have rf1 := ra.frozen 1; have rf2 := ra.frozen 2; have rf3 := ra.frozen 3; have rc0 := ra.cell 0; have rc1 := ra.cell 1; have rc2 := ra.cell 2; have rc3 := ra.cell 3; have rl := ra.lt; simp only [List.getElem?_toArray, List.getElem?_cons_succ, List.getElem?_cons_zero] at rc0 rc1 rc2 rc3; have H3 := Lib.hid (And.intro hof3 hk3); clear hof3 hk3 hpc ra)
              (try simp only [Exit.inBlock, Exit.then])
              refine bodyPost_ret (by simp [results, Tryd.results77, go_sem, rc0, rc1, rc2, rc3]; try rfl) rfl ?_
              obtain ⟨a1, a2, a3, a4⟩ := HRE.out
              exact ⟨OptP.no (by have := HM.out.2.2.1; simpa using this) tv0, Keep.set4 ((HM.out.2.2.2.2.1.trans HM.out.2.2.2.1 (fun _ _ x => x)).weak H3.out.2 (fun i hi => by subst hi; exact hbw)) (.inr (by omega)) _ _ _ _⟩
          · have hje : j = kd.kids.length := by omega
            subst hje
            have hts : (kd.kids).take (kd.kids.length) = kd.kids := List.take_of_length_le (by simp)
            rw [hts, ← HRD.out.1, ← flatU_take HQ.out.2] at hpu2
            have HM := Lib.hid (And.intro hkww (And.intro hof2 (And.intro hpu2 hat2)))
            clear hkww hof2 hpu2 hat2 hts hkw2
            go_wp2_with fail
            go_roundg (kids.length - (i + 1))
            case measure => omega
            case rel => exact ⟨i + 1, cs2, os2, by go_num, by omega, rfl, HM.out⟩
      · have hms : (if kd.kind = 7 then kd.kids else [kd]) = [kd] := by rw [if_neg h7]
        have q7 : (qk == 7) = false := by rw [hkk, beq_eq_false_iff_ne]; exact h7
        have kwi : Keep (fun _ => False) wr ((wr.alloc (.cells #[.int .i64 qk, .string qnm, .slice qAn qnn qcn, .slice qAk qnk qck] 25)).alloc (.cells #[.int .i64 qk, .string qnm, .slice qAn qnn qcn, .slice qAk qnk qck] 25)) := ((Keep.refl _ wr).alloc _).alloc _
        have hrd3 : Rd ((wr.alloc (.cells #[.int .i64 qk, .string qnm, .slice qAn qnn qcn, .slice qAk qnk qck] 25)).alloc (.cells #[.int .i64 qk, .string qnm, .slice qAn qnn qcn, .slice qAk qnk qck] 25)) (fun i => i = bo) 4 (.slice (some ⟨wr.heap.size + 1, 0, none⟩) 1 1) 1 (tflat [⟨qk, qnm, qAn, qnn, qcn, qAk, qnk, qck⟩]) :=
          ⟨rfl, _, 1, rfl, Nat.le_refl _, fun _ => ⟨wr.heap.size + 1, 0, rfl, by simp, by omega, fun j _ => by rw [Nat.zero_add, (At.new_at (by simp)).cell]; simp [tflat, Tv.vals]⟩⟩
        have hv2 : TysV w X [⟨qk, qnm, qAn, qnn, qcn, qAk, qnk, qck⟩] [kd] := ⟨hqv, trivial⟩
        have HRD := Lib.hid (And.intro hms (And.intro kwi (And.intro hrd3 hv2)))
        clear hms kwi hrd3 hv2 hqv h7 hkk
        go_wp2_with fail
        have h1 : Hid (UnB w ((wr.alloc (.cells #[.int .i64 qk, .string qnm, .slice qAn qnn qcn, .slice qAk qnk qck] 25)).alloc (.cells #[.int .i64 qk, .string qnm, .slice qAn qnn qcn, .slice qAk qnk qck] 25)) X (flatU (kids.take i)) [kd] 1 rb bo 1 (.int .i64 0) ((wr.alloc (.cells #[.int .i64 qk, .string qnm, .slice qAn qnn qcn, .slice qAk qnk qck] 25)).alloc (.cells #[.int .i64 qk, .string qnm, .slice qAn qnn qcn, .slice qAk qnk qck] 25))) := ⟨0, cs, os, rfl, Nat.zero_le _, rfl, Keep.refl _ _, HG.out.2.1.step HRD.out.2.1, by simpa using HG.out.2.2.1, HRD.out.2.1.at_ HG.out.2.2.2 (fun x => x)⟩
        generalize ((wr.alloc (.cells #[.int .i64 qk, .string qnm, .slice qAn qnn qcn, .slice qAk qnk qck] 25)).alloc (.cells #[.int .i64 qk, .string qnm, .slice qAn qnn qcn, .slice qAk qnk qck] 25)) = wi at *
        clear c0 c1 c2 c3
        go_loopg [30] 1 (UnB w wi X (flatU (kids.take i)) [kd] 1 rb bo)
        case atStart => exact h1.out
        case round =>
          clear h1
          obtain ⟨j, cs2, os2, rfl, hj, rfl, hkw2, hof2, hpu2, hat2⟩ := hrel
          have hbw : w.heap.size ≤ bo := by obtain ⟨a1, a2, a3, a4⟩ := HRE.out; omega
          have hkww := (HG.out.1.trans HRD.out.2.1 (fun _ _ x => x)).weak hkw2 (fun i hi => by subst hi; exact hbw)
          by_cases hjl : j < 1
          · obtain ⟨md, hmd⟩ : ∃ md, ([kd])[j]? = some md := ⟨_, List.getElem?_eq_getElem (by simpa using hjl)⟩
            obtain ⟨⟨pk, pnm, pAn, pnn, pcn, pAk, pnk, pck⟩, hp, hpv⟩ := HRD.out.2.2.2.at_ hmd
            obtain ⟨b2, o2, hA2, hbz2, _, d0, d1, d2, d3⟩ := (HRD.out.2.2.1.keep hkw2 (fun i hi => hi)).tcells hjl hp
            simp only at d0 d1 d2 d3
            skip
            simp only [Option.some.injEq, Addr.mk.injEq, and_true] at hA2
            obtain ⟨rfl, rfl⟩ := hA2
            simp only [Nat.zero_add] at d0 d1 d2 d3
            have kbx : Keep (fun _ => False) wr (wr.alloc (.cells #[.int .i64 pk, .string pnm, .slice pAn pnn pcn, .slice pAk pnk pck] 25)) := (Keep.refl _ wr).alloc _
            have hpc := put_any (hkww.trans kbx (fun _ _ x => x)) hbw (hof2.step kbx) hpv
            have hps := putAll_snoc (m := md) hpu2
            rw [List.append_assoc] at hps
            have hts : ([kd]).take (j + 1) = ([kd]).take j ++ [md] := by rw [List.take_add_one, hmd]; rfl
            rw [← hts] at hps
            have hpb : (putT os2 md).1 = false → uniT kids = none := fun hbad => uniT_bad (i := i) (j := j + 1) HQ.out.2 (by rw [HRD.out.1, hps]; exact hbad)
            unfold Tv.val at hpc
            simp only at hpc
            obtain ⟨⟨pz, pos⟩, hpt⟩ : ∃ z, putT os2 md = z := ⟨_, rfl⟩
            rw [hpt] at hpc hps hpb
            simp only at hpc hpb
            have r0 := hat2.frozen
            have r1 := hat2.lt
            have HM := Lib.hid (And.intro hkw2 (And.intro hps (And.intro hpb (And.intro kbx (And.intro hkww hat2)))))
            clear hkww hkw2 hof2 hpu2 hps hpb hpv hmd hp kbx hpt hts hat2
            cases pz with
            | true =>
              clear r0 r1
              go_wp2_with (go_at_call 87; refine hpc.mono ?_; rintro e w2 ⟨cs3, rfl, hof3, hk3⟩; have H3 := Lib.hid (And.intro hof3 hk3); clear hof3 hk3 hpc)
              go_roundg (1 - (j + 1))
              case measure => omega
              case rel =>
                obtain ⟨hkw2, hps, hpb, kbx, hkww, hat2⟩ := HM.out
                obtain ⟨hof3, hk3⟩ := H3.out
                have hne : ¬ rb = bo := by obtain ⟨a1, a2, a3, a4⟩ := HRE.out; omega
                exact ⟨j + 1, cs3, pos, by go_num, by omega, rfl, (hkw2.trans kbx (fun _ _ x => x.elim)).trans hk3 (fun _ _ x => x), hof3, hps, hk3.at_ (kbx.at_ hat2 (fun x => x)) hne⟩
            | false =>
              have hne : ¬ rb = bo := by obtain ⟨a1, a2, a3, a4⟩ := HRE.out; omega
              go_wp2_with (go_at_call 87; refine hpc.mono ?_; rintro e w2 ⟨cs3, rfl, hof3, hk3⟩; have ra : At w2 rb 25 #[.int .i64 0, .string ⟨#[]⟩, .slice none 0 0, .slice none 0 0] := hk3.at_ (HM.out.2.2.2.1.at_ HM.out.2.2.2.2.2 (fun x => x)) hne; have rf0 := ra.frozen 0; have rf1 := ra.frozen 1; have rf2 := ra.frozen 2; have rf3 := ra.frozen 3; have rc0 := ra.cell 0; have rc1 := ra.cell 1; have rc2 := ra.cell 2; have rc3 := ra.cell 3; have rl := ra.lt; simp only [List.getElem?_toArray, List.getElem?_cons_succ, List.getElem?_cons_zero] at rc0 rc1 rc2 rc3; have H3 := Lib.hid (And.intro hof3 hk3); clear hof3 hk3 hpc ra)
              (try simp only [Exit.inBlock, Exit.then])
              refine bodyPost_ret (by simp [results, Tryd.results77, go_sem, rc0, rc1, rc2, rc3]; try rfl) rfl ?_
              obtain ⟨a1, a2, a3, a4⟩ := HRE.out
              exact ⟨OptP.no (by have := HM.out.2.2.1; simpa using this) tv0, Keep.set4 ((HM.out.2.2.2.2.1.trans HM.out.2.2.2.1 (fun _ _ x => x)).weak H3.out.2 (fun i hi => by subst hi; exact hbw)) (.inr (by omega)) _ _ _ _⟩
          · have hje : j = 1 := by omega
            subst hje
            have hts : ([kd]).take (1) = [kd] := List.take_of_length_le (by simp)
            rw [hts, ← HRD.out.1, ← flatU_take HQ.out.2] at hpu2
            have HM := Lib.hid (And.intro hkww (And.intro hof2 (And.intro hpu2 hat2)))
            clear hkww hof2 hpu2 hat2 hts hkw2
            go_wp2_with fail
            go_roundg (kids.length - (i + 1))
            case measure => omega
            case rel => exact ⟨i + 1, cs2, os2, by go_num, by omega, rfl, HM.out⟩
    · have hie : i = kids.length := by omega
      subst hie
      rw [List.take_of_length_le (Nat.le_refl _)] at hpu
      have hun : uniT kids = uniOf (os.filterMap id) := by
        unfold uniT
        rw [hpu]
        simp
      have hcs : ∀ j : Nat, j < 6 → ∃ v, cs[j]? = some v := fun j hj => ⟨_, Array.getElem?_eq_getElem (by rw [hof.size]; exact hj)⟩
      obtain ⟨v0, e0⟩ := hcs 0 (by omega)
      obtain ⟨v1, e1⟩ := hcs 1 (by omega)
      obtain ⟨v2, e2⟩ := hcs 2 (by omega)
      obtain ⟨v3, e3⟩ := hcs 3 (by omega)
      obtain ⟨v4, e4⟩ := hcs 4 (by omega)
      obtain ⟨v5, e5⟩ := hcs 5 (by omega)
      have g0 := (hof.at_.cell 0).trans e0
      have g1 := (hof.at_.cell 1).trans e1
      have g2 := (hof.at_.cell 2).trans e2
      have g3 := (hof.at_.cell 3).trans e3
      have g4 := (hof.at_.cell 4).trans e4
      have g5 := (hof.at_.cell 5).trans e5
      have gl := hof.at_.lt
      have hcse : cs = #[v0, v1, v2, v3, v4, v5] := by
        apply Array.ext_getElem?
        intro j
        by_cases hj : j < 6
        · match j, hj with
          | 0, _ => rw [e0]; rfl
          | 1, _ => rw [e1]; rfl
          | 2, _ => rw [e2]; rfl
          | 3, _ => rw [e3]; rfl
          | 4, _ => rw [e4]; rfl
          | 5, _ => rw [e5]; rfl
        · rw [Array.getElem?_eq_none (by rw [hof.size]; omega), Array.getElem?_eq_none (by simp; omega)]
      have k2 : Keep (fun _ => False) wr (wr.alloc (.cells #[.int .i64 7, .string ⟨#[]⟩, .slice none 0 0, .slice none 0 0] 25)) := (Keep.refl _ wr).alloc _
      have hrbl := hat.lt
      have HC := Lib.hid (And.intro hcse (And.intro hof (And.intro (hkw.trans k2 (fun _ _ x => x)) (And.intro (k2.at_ hat (fun x => x)) k2))))
      have HU := Lib.hid hun
      have h3 : Hid (UnC w (wr.alloc (.cells #[.int .i64 7, .string ⟨#[]⟩, .slice none 0 0, .slice none 0 0] 25)) X os wr.heap.size 6 (.int .i64 0) (wr.alloc (.cells #[.int .i64 7, .string ⟨#[]⟩, .slice none 0 0, .slice none 0 0] 25))) := ⟨0, .slice none 0 0, [], rfl, Nat.zero_le _, rfl, ⟨Keep.refl _ _, At.new _ _ _, World.ownsRow_nil _ 0 25 4, trivial, fun g hg => by simp [Value.ownBlock] at hg⟩⟩
      have hsz : (wr.alloc (.cells #[.int .i64 7, .string ⟨#[]⟩, .slice none 0 0, .slice none 0 0] 25)).heap.size = wr.heap.size + 1 := by simp
      have hrn : ¬ rb = wr.heap.size := by omega
      have hbn : ¬ bo = wr.heap.size := by omega
      clear hcse hun hpu hkw hof hat e0 e1 e2 e3 e4 e5 hcs k2
      go_wp2_with fail
      clear g0 g1 g2 g3 g4 g5 gl
      generalize wr.alloc (.cells #[.int .i64 7, .string ⟨#[]⟩, .slice none 0 0, .slice none 0 0] 25) = wt at *
      generalize hte : wr.heap.size = tb at *
      have HT := Lib.hid (And.intro hsz (And.intro hrn (And.intro hbn hte)))
      clear hsz hrn hbn hte hrbl
      obtain ⟨wo, rfl⟩ : ∃ wo : World, wo = wr := ⟨_, rfl⟩
      go_loopg [43] 6 (UnC w wt X os tb)
      case atStart => exact h3.out
      case round =>
        clear h3
        obtain ⟨i, lv, rs3, rfl, hi, rfl, hR⟩ := hrel
        obtain ⟨Al, cl, rfl⟩ := own_slice hR.own
        have hlen6 : ((os.take i).filterMap id).length ≤ 6 := Nat.le_trans (List.length_filterMap_le _ _) (by simp; omega)
        have b3 := hR.box.cell 3
        simp only [List.getElem?_toArray, List.getElem?_cons_succ, List.getElem?_cons_zero] at b3
        have bl := hR.box.lt
        by_cases hlt : i < 6
        · have hol : os.length = 6 := HC.out.2.1.len
          obtain ⟨m, hm⟩ : ∃ m, os[i]? = some m := ⟨_, List.getElem?_eq_getElem (by omega)⟩
          have htk := filterMap_take hm
          cases m with
          | none =>
            have hv : (#[v0, v1, v2, v3, v4, v5] : Array Value)[i]? = some (.pointer none) := by rw [← HC.out.1]; exact HC.out.2.1.emp i hm
            have hix := run_idx6 hlt hv
            rw [show (none : Option Ty).toList = [] from rfl, List.append_nil] at htk
            have HR := Lib.hid (And.intro hR htk)
            clear hR htk hm hv
            go_wp2_with fail
            go_roundg (6 - (i + 1))
            case measure => omega
            case rel => exact ⟨i + 1, _, rs3, by go_num, by omega, rfl, by rw [HR.out.2]; exact HR.out.1⟩
          | some m =>
            obtain ⟨mb, ⟨mk, mnm, mAn, mnn, mcn, mAk, mnk, mck⟩, hv, hma, hmv⟩ := HC.out.2.1.has i m hm
            rw [HC.out.1] at hv
            have hix := run_idx6 hlt hv
            have hmt : ¬ mb = tb := by have := hma.lt; have := HT.out.2.2.2; omega
            have hma' : At wr mb 25 #[.int .i64 mk, .string mnm, .slice mAn mnn mcn, .slice mAk mnk mck] := hR.keep.at_ (HC.out.2.2.2.2.at_ hma (fun x => x)) hmt
            have m0 := hma'.cell 0
            have m1 := hma'.cell 1
            have m2 := hma'.cell 2
            have m3 := hma'.cell 3
            have ml := hma'.lt
            simp only [List.getElem?_toArray, List.getElem?_cons_succ, List.getElem?_cons_zero] at m0 m1 m2 m3
            have bf := hR.box.frozen
            have hbig : ((os.take i).filterMap id).length + 1 ≤ 1099511627776 := by omega
            rw [show (some m).toList = [m] from rfl] at htk
            have HR := Lib.hid (And.intro hR (And.intro htk hmv))
            clear hR htk hm hv hma hma' hmv
            generalize hll : ((os.take i).filterMap id) = l at *
            have HLL := Lib.hid hll
            clear hll
            go_wp2_with fail
            go_region_law (refine step_app rfl (.tmp 49) (.tmp 53) 23 rfl E25 (.slice Al l.length cl) l.length (tflat rs3) rfl ((HR.out.1.own.alloc _).drew) wr.heap.size 1 1 #[.int .i64 mk, .string mnm, .slice mAn mnn mcn, .slice mAk mnk mck] rfl ((At.new_at (by simp)).drew) rfl (by simp [Value.oneCell']) (by decide) hbig (by decide) ?_; intro g' cap' w' ho' hk hg hgl; have ha := hk.at_ ((HR.out.1.box.alloc _).drew) (fun hx => by have h1 := HR.out.1.new tb hx; have h2 := HT.out.1; omega); have hz3 := ha.cell 3; have hzf := ha.frozen; have hzl := ha.lt; simp only [List.getElem?_toArray, List.getElem?_cons_succ, List.getElem?_cons_zero] at hz3)
            all_goals (
              have hRn := HR.out.1.app (r := ⟨mk, mnm, mAn, mnn, mcn, mAk, mnk, mck⟩) ho' hk hg (by have := HT.out.1; omega) HR.out.2.2
              have HRN := Lib.hid hRn
              clear hRn ho' hk hg hgl ha hz3 hzf hzl m0 m1 m2 m3
              go_wp2_with fail
              go_roundg (6 - (i + 1))
              case measure => omega
              case rel => exact ⟨i + 1, _, _, by go_num, by omega, rfl, by rw [HR.out.2.1]; exact HRN.out⟩)
        · have hie : i = 6 := by omega
          subst hie
          have ht6 : os.take 6 = os := List.take_of_length_le (by rw [HC.out.2.1.len]; omega)
          rw [ht6] at hR hlen6 b3
          have hwb : w.heap.size ≤ tb := by
            have h1 := HT.out.2.2.2
            have h5 := HRE.out
            have h6 := HC.out.2.1.at_.lt
            omega
          have hkw : Keep (fun _ => False) w wr := HC.out.2.2.1.weak hR.keep (fun i hi => by
            rw [hi]
            exact hwb)
          have hrt : rb < wt.heap.size := HC.out.2.2.2.1.lt
          have hwr : w.heap.size ≤ rb := by
            have h5 := HRE.out
            omega
          have b0 := hR.box.cell 0
          have b1 := hR.box.cell 1
          have b2 := hR.box.cell 2
          simp only [List.getElem?_toArray, List.getElem?_cons_succ, List.getElem?_cons_zero] at b0 b1 b2
          have ra : At wr rb 25 #[.int .i64 0, .string ⟨#[]⟩, .slice none 0 0, .slice none 0 0] := hR.keep.at_ HC.out.2.2.2.1 HT.out.2.1
          have rf0 := ra.frozen 0
          have rf1 := ra.frozen 1
          have rf2 := ra.frozen 2
          have rf3 := ra.frozen 3
          have rc0 := ra.cell 0
          have rc1 := ra.cell 1
          have rc2 := ra.cell 2
          have rc3 := ra.cell 3
          have rl := ra.lt
          simp only [List.getElem?_toArray, List.getElem?_cons_succ, List.getElem?_cons_zero] at rc0 rc1 rc2 rc3
          have hkf : ∀ v0 v1 v2 v3, Keep (fun g => g = rb) wr ((((wr.setCell ⟨rb, 0, none⟩ v0).setCell ⟨rb, 1, none⟩ v1).setCell ⟨rb, 2, none⟩ v2).setCell ⟨rb, 3, none⟩ v3) := fun v0 v1 v2 v3 => Keep.set4 (Keep.refl (fun g => g = rb) wr) (.inl rfl) v0 v1 v2 v3
          have hrbt : ¬ rb = tb := HT.out.2.1
          have htbr : ¬ tb = rb := fun h => hrbt h.symm
          have hun := HU.out
          generalize hll : os.filterMap id = l at *
          clear hll
          generalize hnl : l.length = n at *
          have HR := Lib.hid (And.intro hR hnl)
          have HKW := Lib.hid (And.intro hkw hkf)
          have HUN := Lib.hid hun
          clear hR hkw hkf ra HU hun hnl
          match n, HR with
          | 0, HR =>
            have hl0 : l = [] := List.eq_nil_of_length_eq_zero HR.out.2
            subst hl0
            go_wp2_with fail
            go_region
            go_wp2_with fail
            (try simp only [Exit.inBlock, Exit.then])
            refine bodyPost_ret (by simp [results, Tryd.results77, go_sem, rc0, rc1, rc2, rc3]; try rfl) rfl ?_
            exact ⟨OptP.no HUN.out ⟨7, ⟨#[]⟩, none, 0, 0, Al, 0, cl⟩, HKW.out.1.weak (HKW.out.2 (.int .i64 7) (.string ⟨#[]⟩) (.slice none 0 0) (.slice Al 0 cl)).drew (fun i hi => by rw [hi]; exact hwr)⟩
          | 1, HR =>
            obtain ⟨x, hlx⟩ : ∃ x, l = [x] := List.length_eq_one_iff.1 HR.out.2
            subst hlx
            have hq0 := HR.out.1.tys.at_ (i := 0) (t := x) rfl
            obtain ⟨⟨mk, mnm, mAn, mnn, mcn, mAk, mnk, mck⟩, hq0, hqv⟩ := hq0
            obtain ⟨yb, yo, hyA, hyl, hyn, y0, y1, y2, y3⟩ := (Rd.of_own (X := fun g => g = rb) HR.out.1.own (fun g hg e => by have := HR.out.1.new g hg; omega)).tcells (by simp) hq0
            subst hyA
            simp only [Nat.zero_mul, Nat.add_zero] at y0 y1 y2 y3
            have HQ := Lib.hid hqv
            clear hq0 hqv
            go_wp2_with fail
            (try simp only [Exit.inBlock, Exit.then])
            refine bodyPost_ret (by simp [results, Tryd.results77, go_sem, rc0, rc1, rc2, rc3]; try rfl) rfl ?_
            have hkf := HKW.out.1.weak (HKW.out.2 (.int .i64 mk) (.string mnm) (.slice mAn mnn mcn) (.slice mAk mnk mck)) (fun i hi => by rw [hi]; exact hwr)
            exact ⟨OptP.yes (r := ⟨mk, mnm, mAn, mnn, mcn, mAk, mnk, mck⟩) HUN.out (HQ.out.step hkf), hkf⟩
          | n + 2, HR =>
            have d1 : (((n + 2 : Nat) : Int) == 1) = false := by rw [beq_eq_false_iff_ne]; omega
            go_wp2_with fail
            go_region
            go_wp2_with fail
            (try simp only [Exit.inBlock, Exit.then])
            refine bodyPost_ret (by simp [results, Tryd.results77, go_sem, rc0, rc1, rc2, rc3]; try rfl) rfl ?_
            obtain ⟨x, y, r, hlx⟩ : ∃ x y r, l = x :: y :: r := by
              have h2 := HR.out.2
              match l, h2 with
              | x :: y :: r, _ => exact ⟨x, y, r, rfl⟩
            have hkf := HKW.out.1.weak (HKW.out.2 (.int .i64 7) (.string ⟨#[]⟩) (.slice none 0 0) (.slice Al (n + 2) cl)).drew (fun i hi => by rw [hi]; exact hwr)
            have hR := HR.out.1
            rw [← HR.out.2] at hR
            have hty := hR.fin (fun i hi => by have h1 := H.out.2.2 i hi; have h2 := HRE.out; omega) HC.out.2.2.1.size (by rw [HR.out.2]; exact hlen6) hrt (HKW.out.2 (.int .i64 7) (.string ⟨#[]⟩) (.slice none 0 0) (.slice Al (n + 2) cl)).drew hkf
            rw [HR.out.2] at hty
            have hun2 : uniT kids = some (.mk 7 ⟨#[]⟩ [] l) := by rw [HUN.out, hlx]; rfl
            have hyes := OptP.yes (r := ⟨7, ⟨#[]⟩, none, 0, 0, Al, n + 2, cl⟩) hun2 hty
            rw [show decide (0 < (n : Int) + 2) = true by simp; omega]
            exact ⟨hyes, hkf⟩
end Go.Proofs.YtbanpohholnkaaaDoor
