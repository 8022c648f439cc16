/-
  Walk: types.norm. Conditions: the table strings.asciiSpace lies as the program lays it; the type has at most 200 nodes.
-/
import Derived.Test.YtbanpohholnkaaaDoorWRec
import Derived.Test.YtbanpohholnkaaaDoorNormB
namespace Go.Proofs.YtbanpohholnkaaaDoor
open Go.RowKit

set_option maxRecDepth 100000 in
set_option maxHeartbeats 8000000 in
theorem norm_any (t : Ty) : ∀ (w : World) (X : Nat → Prop) (r : Tv), (∀ i, X i → i < w.heap.size) → Tab w → t.size ≤ 100000 → TyV w X r t →
    Calls Tryd.prog 64 #[r.val] w fun e w' => OptP X (normT t) e w' ∧ Keep (fun _ => False) w w' := by
  induction t using Ty.ind with
  | h t ih =>
    intro w X r hX hT hsz h
    obtain ⟨k, nm, An, nn, cn, Ak, nk, ck⟩ := r
    obtain ⟨rs0, hnk, hnkb, hrd0, hv0⟩ := h.kds
    have hkk := h.knd
    have hnm := h.out.2.2.2.1
    have hnn := h.out.2.2.1
    have hnb := h.out.1.2.1
    simp only at hnk hnkb hrd0 hkk hnm hnn hnb
    have hlen : t.kids.length ≤ 100000 := by
      have := length_le_sizeL t.kids
      have := t.size_eq
      omega
    rw [normT_eq, ← hkk]
    have H := Lib.hid (And.intro h (And.intro ih (And.intro hX (And.intro hT (And.intro hsz (And.intro hrd0 (And.intro hv0 (And.intro hnm hnn))))))))
    have HN := Lib.hid (And.intro hnk hlen)
    have kw : Keep (fun _ => False) w ((w.alloc (.cells #[.int .i64 k, .string nm, .slice An nn cn, .slice Ak nk ck] 25)).alloc (.cells #[.int .i64 0, .string ⟨#[]⟩, .slice none 0 0, .slice none 0 0] 25)) := ((Keep.refl _ w).alloc _).alloc _
    have abx : At ((w.alloc (.cells #[.int .i64 k, .string nm, .slice An nn cn, .slice Ak nk ck] 25)).alloc (.cells #[.int .i64 0, .string ⟨#[]⟩, .slice none 0 0, .slice none 0 0] 25)) w.heap.size 25 #[.int .i64 k, .string nm, .slice An nn cn, .slice Ak nk ck] := (At.new _ _ _).alloc _
    have arb : At ((w.alloc (.cells #[.int .i64 k, .string nm, .slice An nn cn, .slice Ak nk ck] 25)).alloc (.cells #[.int .i64 0, .string ⟨#[]⟩, .slice none 0 0, .slice none 0 0] 25)) (w.heap.size + 1) 25 #[.int .i64 0, .string ⟨#[]⟩, .slice none 0 0, .slice none 0 0] := At.new_at (by simp)
    have HW := Lib.hid (And.intro kw (And.intro abx arb))
    unfold Tv.val
    simp only
    clear h ih hX hT hsz hrd0 hv0 hnm hnn hkk kw abx arb hlen
    by_cases h57 : 5 ≤ k ∧ k ≤ 7
    · have d5 : decide (5 ≤ k) = true := by simp; omega
      have d7 : decide (k ≤ 7) = true := by simp; omega
      have HK7 := Lib.hid h57
      have h0 : Hid (NmA ((w.alloc (.cells #[.int .i64 k, .string nm, .slice An nn cn, .slice Ak nk ck] 25)).alloc (.cells #[.int .i64 0, .string ⟨#[]⟩, .slice none 0 0, .slice none 0 0] 25)) (fun g => X g ∨ g = w.heap.size + 1) t.kids nk nk (.slice none 0 0) (.int .i64 0) ((w.alloc (.cells #[.int .i64 k, .string nm, .slice An nn cn, .slice Ak nk ck] 25)).alloc (.cells #[.int .i64 0, .string ⟨#[]⟩, .slice none 0 0, .slice none 0 0] 25))) :=
        ⟨0, _, [], [], rfl, rfl, Nat.zero_le _, rfl, ⟨Keep.refl _ _, World.ownsRow_nil _ 0 25 4, trivial, fun g hg => by simp [Value.ownBlock] at hg, by simp [normL]⟩⟩
      clear h57 hnk
      go_enter Tryd.func64, Tryd.ntmps64
      go_wp2_with fail
      generalize ((w.alloc (.cells #[.int .i64 k, .string nm, .slice An nn cn, .slice Ak nk ck] 25)).alloc (.cells #[.int .i64 0, .string ⟨#[]⟩, .slice none 0 0, .slice none 0 0] 25)) = w1 at *
      generalize hre : w.heap.size + 1 = rb at *
      generalize hbe : w.heap.size = bx at *
      have HRE := Lib.hid (And.intro hre hbe)
      clear hre hbe
      go_loopg [4, 20] nk (NmA w1 (fun g => X g ∨ g = rb) t.kids nk)
      case atStart => exact h0.out
      case round =>
        clear h0
        obtain ⟨i, lv, rs, l, rfl, rfl, hi, rfl, hR⟩ := hrel
        obtain ⟨Al, cl, rfl⟩ := own_slice hR.own
        have arb := hR.keep.at_ HW.out.2.2 (fun x => x)
        have abx := hR.keep.at_ HW.out.2.1 (fun x => x)
        have HR := Lib.hid (And.intro hR (And.intro arb abx))
        by_cases hlt : i < nk
        · have hkwr := HW.out.1.trans hR.keep (fun _ _ x => x)
          have htb := H.out.1.keep (Z := fun g => (X g ∨ g = rb) ∨ (Value.slice Al i cl).ownBlock = some g) hkwr (fun _ _ x => x.elim) (fun j hj hx => by
            rcases hx with (hx | hx) | hx
            · exact hx
            · have h3 := HRE.out
              omega
            · have h1 := hR.new j hx
              have h2 := HW.out.1.size
              have h3 := HRE.out
              omega)
          obtain ⟨kd, ⟨qk, qnm, qAn, qnn, qcn, qAk, qnk, qck⟩, b, o, hkd, hqv, hAk, hbz, _, c0, c1, c2, c3⟩ := htb.kid (i := i) hlt
          simp only at c0 c1 c2 c3 hAk
          subst hAk
          have hsize := size_mem (List.mem_of_getElem? hkd)
          have kal : Keep (fun _ => False) wr (wr.alloc (.cells #[.int .i64 qk, .string qnm, .slice qAn qnn qcn, .slice qAk qnk qck] 25)) := (Keep.refl _ wr).alloc _
          have hc := H.out.2.1 kd (Ty.kid_lt (List.mem_of_getElem? hkd)) (wr.alloc (.cells #[.int .i64 qk, .string qnm, .slice qAn qnn qcn, .slice qAk qnk qck] 25)) (fun g => (X g ∨ g = rb) ∨ (Value.slice Al i cl).ownBlock = some g) ⟨qk, qnm, qAn, qnn, qcn, qAk, qnk, qck⟩
            (fun j hj => by
              rcases hj with (hj | hj) | hj
              · have h1 := H.out.2.2.1 j hj
                have h2 := hkwr.size
                have h4 := kal.size
                have h5 := HRE.out
                omega
              · have h1 := arb.lt
                have h4 := kal.size
                omega
              · have h1 := own_lt hR.own hj
                have h4 := kal.size
                omega)
            (H.out.2.2.2.1.step (hkwr.trans kal (fun _ _ x => x)))
            (by have h1 := H.out.2.2.2.2.1; have h2 := t.size_eq; omega)
            (hqv.step kal)
          unfold Tv.val at hc
          simp only at hc
          have HQ := Lib.hid (And.intro hkd kal)
          have hbig : i + 1 ≤ 1099511627776 := by have := HN.out.2; have := HN.out.1; omega
          have hrb1 := arb.lt
          clear hkd hqv kal hR htb hkwr hsize arb abx
          cases ho : normT kd with
          | none =>
            rw [ho] at hc
            have hno : normL t.kids = none := normL_none HQ.out.1 ho
            have hnone : headT k t.names (normL t.kids) = none := by
              rw [hno]
              unfold headT
              have := HK7.out
              rw [if_neg (by omega)]
              split
              · rfl
              · split
                · rfl
                · split <;> rfl
            have HNO := Lib.hid hnone
            clear hno hnone ho
            go_wp2_with (go_at_call 64; refine hc.mono ?_; rintro e w2 ⟨⟨⟨pk, pnm, pAn, pnn, pcn, pAk, pnk, pck⟩, he⟩, hk2⟩; simp only [Tv.val] at he; subst he; have ra := hk2.at_ (HQ.out.2.at_ HR.out.2.1 (fun x => x)) (fun x => x); have rf0 := ra.frozen 0; have rf1 := ra.frozen 1; have rf2 := ra.frozen 2; have rf3 := ra.frozen 3; have rc0 := ra.cell 0; have rc1 := ra.cell 1; have rc2 := ra.cell 2; have rc3 := ra.cell 3; have rl := ra.lt; simp only [List.getElem?_toArray, List.getElem?_cons_succ, List.getElem?_cons_zero] at rc0 rc1 rc2 rc3; have H3 := Lib.hid hk2; clear hk2 hc ra)
            (try simp only [Exit.inBlock, Exit.then])
            have ra := H3.out.at_ (HQ.out.2.at_ HR.out.2.1 (fun x => x)) (fun x => x)
            refine bodyPost_ret (ret_cell rfl rfl (((((ra.set 0 _).set 1 _).set 2 _).set 3 _).alloc _)) rfl ?_
            refine ⟨OptP.no HNO.out tv0, ?_⟩
            have hkw : Keep (fun _ => False) w w2 := ((HW.out.1.trans HR.out.1.keep (fun _ _ x => x)).trans HQ.out.2 (fun _ _ x => x)).trans H3.out (fun _ _ x => x)
            exact (Keep.set4 hkw (.inr (by have := HRE.out; omega)) _ _ _ _).alloc _
          | some t' =>
            rw [ho] at hc
            have HO := Lib.hid ho
            clear ho
            go_wp2_with (first
              | (go_at_call 64; refine hc.mono ?_; rintro e w2 ⟨⟨⟨pk, pnm, pAn, pnn, pcn, pAk, pnk, pck⟩, he, htp⟩, hk2⟩; simp only [Tv.val] at he; subst he; have hown2 := hk2.own (HQ.out.2.own HR.out.1.own (fun _ _ x => x)) (fun _ _ x => x); have H3 := Lib.hid (And.intro hk2 (And.intro htp hown2)); clear hk2 hc htp hown2)
              | (at_builtin; refine wpList_app rfl (.tmp 32) (.tmp 34) 23 rfl E25 (.slice Al i cl) i (tflat rs) rfl ((H3.out.2.2.alloc _).alloc _) (w2.heap.size + 1) 1 1 #[.int .i64 pk, .string pnm, .slice pAn pnn pcn, .slice pAk pnk pck] rfl (At.new_at (by simp)) rfl (by simp [Value.oneCell']) (by decide) hbig (by decide) ?_))
            intro g cap w5 ho5 hk5 hg5 hgl5
            have H5 := Lib.hid (And.intro ho5 (And.intro hk5 hg5))
            clear ho5 hk5 hg5
            go_wp2_with fail
            go_roundg (nk - (i + 1))
            case measure => omega
            case rel =>
              obtain ⟨ho5, hk5, hg5⟩ := H5.out
              exact ⟨i + 1, _, _, _, rfl, by go_num, by omega, rfl, HR.out.1.app (r := ⟨pk, pnm, pAn, pnn, pcn, pAk, pnk, pck⟩) HQ.out.1 HO.out (HQ.out.2.trans H3.out.1 (fun _ _ x => x)) H3.out.2.1 (((Keep.refl _ w2).alloc _).alloc _) ho5 hk5 (by first | exact hg5 | simpa using hg5)⟩
        · have hie : i = nk := by omega
          subst hie
          have hkwr := HW.out.1.trans hR.keep (fun _ _ x => x)
          have hnl : normL t.kids = some l := by
            have := hR.eq
            rw [List.take_of_length_le (by have := HN.out.1; omega)] at this
            exact this
          have hll : l.length = i := by rw [normL_length hnl]; exact HN.out.1.symm
          have hXr : ∀ j, (X j ∨ j = rb) → j < wr.heap.size := fun j hj => by
            rcases hj with hj | hj
            · have h1 := H.out.2.2.1 j hj
              have h2 := hkwr.size
              have h5 := HRE.out
              omega
            · have h1 := arb.lt
              omega
          have hrow : Rd wr (fun g => X g ∨ g = rb) 4 (.slice Al i cl) i (tflat rs) := Rd.of_own hR.own (fun g hg hx => by
            have h0 := hR.new g hg
            have h3 := HW.out.2.2.lt
            rcases hx with hx | hx
            · have h1 := H.out.2.2.1 g hx
              have h2 := HW.out.1.size
              have h5 := HRE.out
              omega
            · omega)
          have htys : TysV wr (fun g => X g ∨ g = rb) rs l := hR.tys.keep (Keep.refl (fun _ => False) wr) (fun _ _ x => x.elim) (fun _ _ x => .inl x)
          have hnms : Rd wr (fun g => X g ∨ g = rb) 1 (.slice An nn cn) nn (strs t.names) := by
            refine ((Rd.mono (w := w) (Y := fun g => X g ∨ g = rb) H.out.2.2.2.2.2.2.2.1 (fun g hg hx => ?_)).keep hkwr (fun _ x => x.elim))
            rcases hx with hx | hx
            · exact hx
            · have h5 := HRE.out
              omega
          have x0 := abx.cell 0
          have x2 := abx.cell 2
          have rf := arb.frozen
          have rl := arb.lt
          have xl := abx.lt
          simp only [List.getElem?_toArray, List.getElem?_cons_succ, List.getElem?_cons_zero] at x0 x2
          have hfin : ∀ (w2 : World) (o : Option Ty) (r : Tv), Keep (fun _ => False) wr w2 → At w2 rb 25 #[.int .i64 0, .string ⟨#[]⟩, .slice none 0 0, .slice none 0 0] := fun w2 o r hk => hk.at_ arb (fun x => x)
          have hh : 5 ≤ k ∧ k ≤ 7 := HK7.out
          have hk567 : k = 5 ∨ k = 6 ∨ k = 7 := by omega
          have HT := Lib.hid (And.intro hkwr (And.intro hnl (And.intro hll (And.intro hXr (And.intro hrow (And.intro htys (And.intro hnms arb)))))))
          clear hkwr hnl hll hXr hrow htys hnms arb hR abx hfin hh
          rcases hk567 with rfl | rfl | rfl
          · have hrec := record_any (X := fun g => X g ∨ g = rb) HT.out.2.2.2.1 (H.out.2.2.2.1.step HT.out.1) hnb hnkb HT.out.2.2.2.2.2.2.1 HT.out.2.2.2.2.1 HT.out.2.2.2.2.2.1
            have he : headT 5 t.names (normL t.kids) = recT t.names l := by rw [HT.out.2.1]; rfl
            have HE := Lib.hid he
            clear he
            cases ho : recT t.names l with
            | none =>
              rw [ho] at hrec HE
              clear ho
              go_wp2_with (go_at_call 76; refine hrec.mono ?_; rintro e w2 ⟨⟨⟨pk, pnm, pAn, pnn, pcn, pAk, pnk, pck⟩, he⟩, hk2⟩; simp only [Tv.val] at he; subst he; have ra := hk2.at_ HT.out.2.2.2.2.2.2.2 (fun x => x); have rf0 := ra.frozen 0; have rf1 := ra.frozen 1; have rf2 := ra.frozen 2; have rf3 := ra.frozen 3; have rc0 := ra.cell 0; have rc1 := ra.cell 1; have rc2 := ra.cell 2; have rc3 := ra.cell 3; have rl2 := ra.lt; simp only [List.getElem?_toArray, List.getElem?_cons_succ, List.getElem?_cons_zero] at rc0 rc1 rc2 rc3; have H3 := Lib.hid (And.intro hk2 ra); clear hk2 hrec ra)
              (try simp only [Exit.inBlock, Exit.then])
              refine bodyPost_ret (ret_cell rfl rfl ((((H3.out.2.set 0 _).set 1 _).set 2 _).set 3 _)) rfl ?_
              exact ⟨OptP.no HE.out ⟨pk, pnm, pAn, pnn, pcn, pAk, pnk, pck⟩, Keep.set4 (HT.out.1.trans H3.out.1 (fun _ _ x => x)) (.inr (by have := HRE.out; omega)) _ _ _ _⟩
            | some t' =>
              rw [ho] at hrec HE
              clear ho
              go_wp2_with (go_at_call 76; refine hrec.mono ?_; rintro e w2 ⟨⟨⟨pk, pnm, pAn, pnn, pcn, pAk, pnk, pck⟩, he, htp⟩, hk2⟩; simp only [Tv.val] at he; subst he; have ra := hk2.at_ HT.out.2.2.2.2.2.2.2 (fun x => x); have rf0 := ra.frozen 0; have rf1 := ra.frozen 1; have rf2 := ra.frozen 2; have rf3 := ra.frozen 3; have rc0 := ra.cell 0; have rc1 := ra.cell 1; have rc2 := ra.cell 2; have rc3 := ra.cell 3; have rl2 := ra.lt; simp only [List.getElem?_toArray, List.getElem?_cons_succ, List.getElem?_cons_zero] at rc0 rc1 rc2 rc3; have H3 := Lib.hid (And.intro hk2 (And.intro ra htp)); clear hk2 hrec ra htp)
              (try simp only [Exit.inBlock, Exit.then])
              refine bodyPost_ret (ret_cell rfl rfl ((((H3.out.2.1.set 0 _).set 1 _).set 2 _).set 3 _)) rfl ?_
              have hs4 := Keep.set4 (Keep.refl (fun g => g = rb) w2) (.inl rfl) (.int .i64 pk) (.string pnm) (.slice pAn pnn pcn) (.slice pAk pnk pck)
              exact ⟨OptP.yes (r := ⟨pk, pnm, pAn, pnn, pcn, pAk, pnk, pck⟩) HE.out (H3.out.2.2.keep hs4 (fun _ _ hx => .inr hx) (fun _ _ hx => .inl hx)), (HT.out.1.trans H3.out.1 (fun _ _ x => x)).weak hs4 (fun g hg => by rw [hg]; have := HRE.out; omega)⟩
          · have he : headT 6 t.names (normL t.kids) = funT l := by rw [HT.out.2.1]; rfl
            have HE := Lib.hid he
            clear he
            have hs4 := Keep.set4 (Keep.refl (fun g => g = rb) wr) (.inl rfl) (.int .i64 6) (.string ⟨#[]⟩) (.slice none 0 0) (.slice Al i cl)
            have HS4 := Lib.hid hs4
            have rf0 := rf 0
            have rf1 := rf 1
            have rf2 := rf 2
            have rf3 := rf 3
            have rc0 := HT.out.2.2.2.2.2.2.2.cell 0
            have rc1 := HT.out.2.2.2.2.2.2.2.cell 1
            have rc2 := HT.out.2.2.2.2.2.2.2.cell 2
            have rc3 := HT.out.2.2.2.2.2.2.2.cell 3
            simp only [List.getElem?_toArray, List.getElem?_cons_succ, List.getElem?_cons_zero] at rc0 rc1 rc2 rc3
            clear hs4 rf
            by_cases h2 : i = 2
            · have d2 : ((i : Int) == 2) = true := by rw [beq_iff_eq]; omega
              have HH2 := Lib.hid h2
              clear h2
              go_wp2_with fail
              (try simp only [Exit.inBlock, Exit.then])
              refine bodyPost_ret (ret_cell rfl rfl ((((HT.out.2.2.2.2.2.2.2.set 0 _).set 1 _).set 2 _).set 3 _)) rfl ?_
              have hf : funT l = some (.mk 6 ⟨#[]⟩ [] l) := by unfold funT; rw [if_pos (by rw [HT.out.2.2.1]; exact HH2.out)]
              have hwf := HT.out.1.weak HS4.out (fun g hg => by rw [hg]; have := HRE.out; omega)
              refine ⟨OptP.yes (r := ⟨6, ⟨#[]⟩, none, 0, 0, Al, i, cl⟩) (HE.out.trans hf) ?_, hwf⟩
              refine TyV.mk (t := .mk 6 ⟨#[]⟩ [] l) (rs := rs) ⟨rfl, Nat.zero_le _, hnkb⟩ rfl rfl (Rd.nil _ X 1) HT.out.2.2.1.symm ?_ (HT.out.2.2.2.2.2.1.keep HS4.out (fun _ _ hx => .inr hx) (fun _ _ hx => .inl hx))
              exact (HT.out.2.2.2.2.1.keep HS4.out (fun _ hx => .inr hx)).mono (fun _ _ hx => .inl hx)
            · have d2 : ((i : Int) == 2) = false := by rw [beq_eq_false_iff_ne]; omega
              have HH2 := Lib.hid h2
              clear h2
              go_wp2_with fail
              (try simp only [Exit.inBlock, Exit.then])
              refine bodyPost_ret (ret_cell rfl rfl ((((HT.out.2.2.2.2.2.2.2.set 0 _).set 1 _).set 2 _).set 3 _)) rfl ?_
              have hf : funT l = none := by unfold funT; rw [if_neg (by rw [HT.out.2.2.1]; exact HH2.out)]
              exact ⟨OptP.no (HE.out.trans hf) ⟨6, ⟨#[]⟩, none, 0, 0, Al, i, cl⟩, HT.out.1.weak HS4.out (fun g hg => by rw [hg]; have := HRE.out; omega)⟩
          · have hrec := union_any (X := fun g => X g ∨ g = rb) HT.out.2.2.2.1 hnkb HT.out.2.2.2.2.1 HT.out.2.2.2.2.2.1
            have he : headT 7 t.names (normL t.kids) = uniT l := by rw [HT.out.2.1]; rfl
            have HE := Lib.hid he
            clear he
            cases ho : uniT l with
            | none =>
              rw [ho] at hrec HE
              clear ho
              go_wp2_with (go_at_call 77; refine hrec.mono ?_; rintro e w2 ⟨⟨⟨pk, pnm, pAn, pnn, pcn, pAk, pnk, pck⟩, he⟩, hk2⟩; simp only [Tv.val] at he; subst he; have ra := hk2.at_ HT.out.2.2.2.2.2.2.2 (fun x => x); have rf0 := ra.frozen 0; have rf1 := ra.frozen 1; have rf2 := ra.frozen 2; have rf3 := ra.frozen 3; have rc0 := ra.cell 0; have rc1 := ra.cell 1; have rc2 := ra.cell 2; have rc3 := ra.cell 3; have rl2 := ra.lt; simp only [List.getElem?_toArray, List.getElem?_cons_succ, List.getElem?_cons_zero] at rc0 rc1 rc2 rc3; have H3 := Lib.hid (And.intro hk2 ra); clear hk2 hrec ra)
              (try simp only [Exit.inBlock, Exit.then])
              refine bodyPost_ret (ret_cell rfl rfl ((((H3.out.2.set 0 _).set 1 _).set 2 _).set 3 _)) rfl ?_
              exact ⟨OptP.no HE.out ⟨pk, pnm, pAn, pnn, pcn, pAk, pnk, pck⟩, Keep.set4 (HT.out.1.trans H3.out.1 (fun _ _ x => x)) (.inr (by have := HRE.out; omega)) _ _ _ _⟩
            | some t' =>
              rw [ho] at hrec HE
              clear ho
              go_wp2_with (go_at_call 77; refine hrec.mono ?_; rintro e w2 ⟨⟨⟨pk, pnm, pAn, pnn, pcn, pAk, pnk, pck⟩, he, htp⟩, hk2⟩; simp only [Tv.val] at he; subst he; have ra := hk2.at_ HT.out.2.2.2.2.2.2.2 (fun x => x); have rf0 := ra.frozen 0; have rf1 := ra.frozen 1; have rf2 := ra.frozen 2; have rf3 := ra.frozen 3; have rc0 := ra.cell 0; have rc1 := ra.cell 1; have rc2 := ra.cell 2; have rc3 := ra.cell 3; have rl2 := ra.lt; simp only [List.getElem?_toArray, List.getElem?_cons_succ, List.getElem?_cons_zero] at rc0 rc1 rc2 rc3; have H3 := Lib.hid (And.intro hk2 (And.intro ra htp)); clear hk2 hrec ra htp)
              (try simp only [Exit.inBlock, Exit.then])
              refine bodyPost_ret (ret_cell rfl rfl ((((H3.out.2.1.set 0 _).set 1 _).set 2 _).set 3 _)) rfl ?_
              have hs4 := Keep.set4 (Keep.refl (fun g => g = rb) w2) (.inl rfl) (.int .i64 pk) (.string pnm) (.slice pAn pnn pcn) (.slice pAk pnk pck)
              exact ⟨OptP.yes (r := ⟨pk, pnm, pAn, pnn, pcn, pAk, pnk, pck⟩) HE.out (H3.out.2.2.keep hs4 (fun _ _ hx => .inr hx) (fun _ _ hx => .inl hx)), (HT.out.1.trans H3.out.1 (fun _ _ x => x)).weak hs4 (fun g hg => by rw [hg]; have := HRE.out; omega)⟩
    · by_cases h04 : 0 ≤ k ∧ k ≤ 4
      · have he : headT k t.names (normL t.kids) = some (.mk k ⟨#[]⟩ [] []) := by
          unfold headT
          rw [if_pos h04]
        have HE := Lib.hid he
        rw [he]
        have hk5 : k = 0 ∨ k = 1 ∨ k = 2 ∨ k = 3 ∨ k = 4 := by omega
        clear he h57 h04
        rcases hk5 with rfl | rfl | rfl | rfl | rfl
        all_goals (
          go_enter Tryd.func64, Tryd.ntmps64
          go_wp2_with fail
          (try simp only [Exit.inBlock, Exit.then])
          refine bodyPost_ret (by simp [results, Tryd.results64, go_sem]; try rfl) rfl ?_
          exact ⟨OptP.yes rfl (TyV.leaf _ X _), ((Keep.refl _ w).alloc _).alloc _⟩)
      · have he := headT_none t.names (normL t.kids) (k := k) (by omega)
        have HE := Lib.hid he
        have e0 : (k == 0) = false := by rw [beq_eq_false_iff_ne]; omega
        have e1 : (k == 1) = false := by rw [beq_eq_false_iff_ne]; omega
        have e2 : (k == 2) = false := by rw [beq_eq_false_iff_ne]; omega
        have e3 : (k == 3) = false := by rw [beq_eq_false_iff_ne]; omega
        have e4 : (k == 4) = false := by rw [beq_eq_false_iff_ne]; omega
        have e5 : (k == 5) = false := by rw [beq_eq_false_iff_ne]; omega
        have e6 : (k == 6) = false := by rw [beq_eq_false_iff_ne]; omega
        have e7 : (k == 7) = false := by rw [beq_eq_false_iff_ne]; omega
        generalize headT k t.names (normL t.kids) = o at *
        by_cases h7 : 7 < k
        · have d5 : decide (5 ≤ k) = true := by simp; omega
          have d7 : decide (k ≤ 7) = false := by simp; omega
          clear he h57 h04 h7
          go_enter Tryd.func64, Tryd.ntmps64
          go_wp2_with fail
          (try simp only [Exit.inBlock, Exit.then])
          refine bodyPost_ret (by simp [results, Tryd.results64, go_sem]; try rfl) rfl ?_
          exact ⟨OptP.no HE.out tv0, ((Keep.refl _ w).alloc _).alloc _⟩
        · have d5 : decide (5 ≤ k) = false := by simp; omega
          clear he h57 h04 h7
          go_enter Tryd.func64, Tryd.ntmps64
          go_wp2_with fail
          (try simp only [Exit.inBlock, Exit.then])
          refine bodyPost_ret (by simp [results, Tryd.results64, go_sem]; try rfl) rfl ?_
          exact ⟨OptP.no HE.out tv0, ((Keep.refl _ w).alloc _).alloc _⟩
end Go.Proofs.YtbanpohholnkaaaDoor
