/-
  Walk: gradusref03.union. Conditions: at most 100000 kids, each of them normal.
-/
import Derived.Test.YtomhhpjpmlpijaaDoorWRRec
import Derived.Test.YtomhhpjpmlpijaaDoorRUni
namespace Go.Proofs.YtomhhpjpmlpijaaDoor
open Go.RowKit

def RuA (w w1 : World) (X : Nat → Prop) (kids : List Ty) (k : Nat) (a b : Value) (wr : World) : Prop :=
  ∃ (i : Nat) (ra : List Tv), b = .int .i64 i ∧ i ≤ kids.length ∧ k = kids.length - i ∧ App w1 wr 25 4 a (flatU (kids.take i)).length (tflat ra) ∧ TysV w X ra (flatU (kids.take i))
def RuB (w w2 : World) (X : Nat → Prop) (L : List Ty) (tb : Nat) (k : Nat) (b : Value) (wr : World) : Prop :=
  ∃ (tg : Nat) (K : List Ty) (lv : Value) (rs : List Tv), b = .int .i64 tg ∧ tg ≤ 6 ∧ k = 6 - tg ∧ UT L tg 0 false K ∧ UnR w w2 wr X K tb lv rs
def RuC (w w2 : World) (X : Nat → Prop) (L : List Ty) (tb tg : Nat) (k : Nat) (a b : Value) (wr : World) : Prop :=
  ∃ (i : Nat) (had : Bool) (K : List Ty) (lv : Value) (rs : List Tv), a = .bool had ∧ b = .int .i64 i ∧ i ≤ L.length ∧ k = L.length - i ∧ UT L tg i had K ∧ UnR w w2 wr X K tb lv rs
theorem wl1 {n : Nat} (h : n ≤ 6) : wrap64 (((n + 1 : Nat) : Int) - 1) = (n : Int) := by unfold wrap64; omega
theorem wl2 {n : Nat} (h : n ≤ 6) : wrap64 ((n : Int) + 1 - 1) = (n : Int) := by unfold wrap64; omega
theorem wl3 {n : Nat} (h : n ≤ 6) : wrap64 (n : Int) = (n : Int) := by unfold wrap64; omega
theorem wf1 {n : Nat} (h : n ≤ 6) : IntKind.i64.wrap (((n + 1 : Nat) : Int) - 1) = (n : Int) := by rw [IntKind.wrap_i64]; omega
theorem wf2 {n : Nat} (h : n ≤ 6) : IntKind.i64.wrap ((n : Int) + 1 - 1) = (n : Int) := by rw [IntKind.wrap_i64]; omega
theorem wf3 {n : Nat} (h : n ≤ 6) : IntKind.i64.wrap (n : Int) = (n : Int) := by rw [IntKind.wrap_i64]; omega
theorem UnR.on {w w2 wr w' : World} {X : Nat → Prop} {l : List Ty} {tb : Nat} {lv : Value} {rs : List Tv} (h : UnR w w2 wr X l tb lv rs) (hk : Keep (fun _ => False) wr w') : UnR w w2 w' X l tb lv rs :=
  ⟨h.keep.trans hk (fun _ _ x => x.elim), hk.at_ h.box (fun x => x), hk.own h.own (fun _ _ x => x), h.tys, h.new⟩
set_option maxRecDepth 100000 in
set_option maxHeartbeats 16000000 in
theorem runion_any {w : World} {X : Nat → Prop} (hX : ∀ i, X i → i < w.heap.size) {A : Option Addr} {n c : Nat} {kids : List Ty} {rs : List Tv} (hb : n ≤ 100000) (hNF : ∀ k ∈ kids, NF k) (h : Rd w X 4 (.slice A n c) n (tflat rs)) (hv : TysV w X rs kids) :
    Calls Tryd.prog 39 #[.slice A n c] w fun e w' => OptP X (uniT kids) e w' ∧ Keep (fun _ => False) w w' := by
  have hn : kids.length = n := by rw [← hv.len, h.nlen]
  subst hn
  have kw : Keep (fun _ => False) w (w.alloc (.cells #[.int .i64 0, .string ⟨#[]⟩, .slice none 0 0, .slice none 0 0] 25)) := (Keep.refl _ w).alloc _
  have arb : At (w.alloc (.cells #[.int .i64 0, .string ⟨#[]⟩, .slice none 0 0, .slice none 0 0] 25)) w.heap.size 25 #[.int .i64 0, .string ⟨#[]⟩, .slice none 0 0, .slice none 0 0] := At.new _ _ _
  have H := Lib.hid (And.intro h (And.intro hv (And.intro hX (And.intro hNF (And.intro kw arb)))))
  have h0 : Hid (RuA w (w.alloc (.cells #[.int .i64 0, .string ⟨#[]⟩, .slice none 0 0, .slice none 0 0] 25)) X kids kids.length (.slice none 0 0) (.int .i64 0) (w.alloc (.cells #[.int .i64 0, .string ⟨#[]⟩, .slice none 0 0, .slice none 0 0] 25))) :=
    ⟨0, [], rfl, Nat.zero_le _, rfl, ⟨World.ownsRow_nil _ 0 25 4, Keep.refl _ _, fun g hg => by simp [Value.ownBlock] at hg⟩, trivial⟩
  have HB := Lib.hid hb
  clear h hv hX hNF kw arb hb
  go_enter Tryd.func39, Tryd.ntmps39
  go_wp2_with fail
  generalize (w.alloc (.cells #[.int .i64 0, .string ⟨#[]⟩, .slice none 0 0, .slice none 0 0] 25)) = w1 at *
  obtain ⟨rb, hrb⟩ : ∃ rb, w.heap.size = rb := ⟨_, rfl⟩
  rw [hrb] at H ⊢
  have HRB := Lib.hid hrb
  clear hrb
  go_loopg [4, 5] kids.length (RuA w w1 X kids)
  case atStart => exact h0.out
  case round =>
    clear h0
    obtain ⟨i, ra, rfl, hi, rfl, hA, hty⟩ := hrel
    have hkb := HB.out
    have hfl : (flatU (kids.take i)).length ≤ 600000 := by
      have h1 := flat_len (kids := kids.take i) fun k hk => H.out.2.2.2.1 k (List.mem_of_mem_take hk)
      have h2 := HB.out
      rw [List.length_take] at h1
      omega
    have hkw : Keep (fun _ => False) w wr := H.out.2.2.2.2.1.trans hA.keep (fun _ _ x => x)
    by_cases hlt : i < kids.length
    · obtain ⟨kd, hkd⟩ : ∃ kd, kids[i]? = some kd := ⟨_, List.getElem?_eq_getElem hlt⟩
      obtain ⟨⟨qk, qnm, qAn, qnn, qcn, qAk, qnk, qck⟩, hq, hqv⟩ := H.out.2.1.at_ hkd
      obtain ⟨b, o, rfl, hbz, _, c0, c1, c2, c3⟩ := (H.out.1.keep hkw (fun _ x => x.elim)).tcells (by omega) hq
      have hkk := hqv.knd
      have hnx := flatU_take hkd
      simp only at c0 c1 c2 c3 hkk
      by_cases h7 : kd.kind = 7
      · rw [if_pos h7] at hnx
        have q7 : (qk == 7) = true := by rw [hkk, h7]; rfl
        obtain ⟨rs2, hnk, hnkb, hrd2, hv2⟩ := hqv.kds
        simp only at hnk hnkb hrd2
        subst hnk
        have h6 : kd.kids.length ≤ 600000 := by
          have h1 := flat_len (kids := kids.take (i + 1)) fun k hk => H.out.2.2.2.1 k (List.mem_of_mem_take hk)
          have h2 := HB.out
          rw [hnx, List.length_append, List.length_take] at h1
          omega
        have HG := Lib.hid (And.intro hA (And.intro hty (And.intro hnx (And.intro (hrd2.keep (Y := fun _ => False) hkw (fun _ x => x.elim)) hv2))))
        obtain ⟨fl, hfe⟩ : ∃ fl, (flatU (kids.take i)).length = fl := ⟨_, rfl⟩
        rw [hfe] at hfl hA
        have HA := Lib.hid (And.intro hA hfe)
        obtain ⟨Aa, ca, rfl⟩ := own_slice hA.own
        clear hA hty hnx hrd2 hv2 hqv h7 hkk hkw hkd hq hnkb hfe
        go_wp2_with (at_builtin; refine wpList_app_rd rfl (.tmp 23) (.tmp 28) 23 rfl E25 (.slice Aa fl ca) fl (tflat ra) rfl HA.out.1.own (.slice qAk kd.kids.length qck) kd.kids.length (tflat rs2) rfl HG.out.2.2.2.1 (fun u hu => tflat_one _ u hu) (by omega) (by decide) ?_; intro v1 w5 ho hk hn; have A1 := Lib.hid (App.next HA.out.1 (Keep.refl _ _) ho hk hn); clear ho hk hn)
        go_roundg (kids.length - (i + 1))
        case measure => omega
        case rel => exact ⟨i + 1, ra ++ rs2, by go_num, by omega, rfl, by rw [HG.out.2.2.1, List.length_append, tflat_append, HA.out.2]; exact A1.out, by rw [HG.out.2.2.1]; exact HG.out.2.1.append HG.out.2.2.2.2⟩
      · rw [if_neg h7] at hnx
        have q7 : (qk == 7) = false := by rw [hkk, beq_eq_false_iff_ne]; exact h7
        have HG := Lib.hid (And.intro hA (And.intro hty (And.intro hnx (And.intro trivial hqv))))
        obtain ⟨fl, hfe⟩ : ∃ fl, (flatU (kids.take i)).length = fl := ⟨_, rfl⟩
        rw [hfe] at hfl hA
        have HA := Lib.hid (And.intro hA hfe)
        obtain ⟨Aa, ca, rfl⟩ := own_slice hA.own
        clear hA hty hnx hqv h7 hkk hkw hkd hq hfe
        go_wp2_with (at_builtin; refine wpList_app_rd rfl (.tmp 30) (.tmp 35) 23 rfl E25 (.slice Aa fl ca) fl (tflat ra) rfl (HA.out.1.own.alloc _) (.slice (some ⟨wr.heap.size, 0, none⟩) 1 1) 1 (⟨qk, qnm, qAn, qnn, qcn, qAk, qnk, qck⟩ : Tv).vals rfl (Rd.of_at (X := fun _ => False) (At.new wr 25 #[.int .i64 qk, .string qnm, .slice qAn qnn qcn, .slice qAk qnk qck]) (fun x => x) rfl (Nat.le_refl _)) (by simp [Tv.vals, Value.oneCell']) (by omega) (by decide) ?_; intro v1 w5 ho hk hn; have A1 := Lib.hid (App.next HA.out.1 ((Keep.refl _ wr).alloc _) ho hk hn); clear ho hk hn)
        go_roundg (kids.length - (i + 1))
        case measure => omega
        case rel => exact ⟨i + 1, ra ++ [⟨qk, qnm, qAn, qnn, qcn, qAk, qnk, qck⟩], by go_num, by omega, rfl, by rw [HG.out.2.2.1, List.length_append, tflat_append, tflat_one_vals, List.length_singleton, HA.out.2]; exact A1.out, by rw [HG.out.2.2.1]; exact HG.out.2.1.snoc HG.out.2.2.2.2⟩
    · have hie : i = kids.length := by omega
      subst hie
      rw [List.take_of_length_le (Nat.le_refl _)] at hA hty hfl
      obtain ⟨L, hL⟩ : ∃ L, flatU kids = L := ⟨_, rfl⟩
      rw [hL] at hA hty hfl
      obtain ⟨Aa, ca, rfl⟩ := own_slice hA.own
      have k2 : Keep (fun _ => False) wr (wr.alloc (.cells #[.int .i64 7, .string ⟨#[]⟩, .slice none 0 0, .slice none 0 0] 25)) := (Keep.refl _ wr).alloc _
      have hrd : Rd (wr.alloc (.cells #[.int .i64 7, .string ⟨#[]⟩, .slice none 0 0, .slice none 0 0] 25)) (fun g => g = wr.heap.size) 4 (.slice Aa L.length ca) L.length (tflat ra) :=
        Rd.of_own (hA.own.alloc _) (fun g hg e => by have := own_lt hA.own hg; omega)
      have ar2 := k2.at_ (hA.keep.at_ H.out.2.2.2.2.2 (fun x => x)) (fun x => x)
      have hrn : ¬ rb = wr.heap.size := by have := (hA.keep.at_ H.out.2.2.2.2.2 (fun x => x)).lt; omega
      have hwt : w.heap.size ≤ wr.heap.size := hkw.size
      have h3 : Hid (RuB w (wr.alloc (.cells #[.int .i64 7, .string ⟨#[]⟩, .slice none 0 0, .slice none 0 0] 25)) X L wr.heap.size 6 (.int .i64 0) (wr.alloc (.cells #[.int .i64 7, .string ⟨#[]⟩, .slice none 0 0, .slice none 0 0] 25))) :=
        ⟨0, [], .slice none 0 0, [], rfl, Nat.zero_le _, rfl, UT.start L, ⟨Keep.refl _ _, At.new _ _ _, World.ownsRow_nil _ 0 25 4, trivial, fun g hg => by simp [Value.ownBlock] at hg⟩⟩
      have hsz : (wr.alloc (.cells #[.int .i64 7, .string ⟨#[]⟩, .slice none 0 0, .slice none 0 0] 25)).heap.size = wr.heap.size + 1 := by simp
      have HC := Lib.hid (And.intro hL (And.intro hty (And.intro (hkw.trans k2 (fun _ _ x => x)) (And.intro hrd (And.intro ar2 (And.intro hsz (And.intro hrn hwt)))))))
      clear hL hty k2 hrd ar2 hrn hwt hsz hA hkw
      go_wp2_with fail
      generalize (wr.alloc (.cells #[.int .i64 7, .string ⟨#[]⟩, .slice none 0 0, .slice none 0 0] 25)) = wt at *
      generalize wr.heap.size = tb at *
      go_loopg [7] 6 (RuB w wt X L tb)
      case atStart => exact h3.out
      case round =>
        clear h3
        obtain ⟨tg, KK, lv, rs3, rfl, htg, rfl, hU, hR⟩ := hrel
        by_cases htl : tg < 6
        · have hs : Hid (RuC w wt X L tb tg L.length (.bool false) (.int .i64 0) wr) := ⟨0, false, KK, lv, rs3, rfl, rfl, Nat.zero_le _, rfl, hU, hR⟩
          have dtl : decide ((tg : Int) < 6) = true := by simp; omega
          have dtl' : decide (tg < 6) = true := by simp; omega
          clear hU hR
          go_wp2_with fail
          go_loopg [8, 9] L.length (RuC w wt X L tb tg)
          case atStart => exact hs.out
          case round =>
            clear hs
            obtain ⟨i, had, K2, lv2, rs4, rfl, rfl, hi, rfl, hU, hR⟩ := hrel
            by_cases hlt : i < L.length
            · obtain ⟨x, hx⟩ : ∃ x, L[i]? = some x := ⟨_, List.getElem?_eq_getElem hlt⟩
              obtain ⟨⟨qk, qnm, qAn, qnn, qcn, qAk, qnk, qck⟩, hq, hqv⟩ := HC.out.2.1.at_ hx
              obtain ⟨b, o, hAa, hbz0, hbt, d0, d1, d2, d3⟩ := HC.out.2.2.2.1.tcells hlt hq
              subst hAa
              have hkk := hqv.knd
              simp only at d0 d1 d2 d3 hkk
              have HCW : Hid (∀ w', Keep (fun g => g = tb) wt w' → b < w'.heap.size ∧ w'.cell? ⟨b, o + i * 4, none⟩ = some (.int .i64 qk) ∧ w'.cell? ⟨b, o + i * 4 + 1, none⟩ = some (.string qnm) ∧ w'.cell? ⟨b, o + i * 4 + 2, none⟩ = some (.slice qAn qnn qcn) ∧ w'.cell? ⟨b, o + i * 4 + 3, none⟩ = some (.slice qAk qnk qck)) := fun w' hk => by
                have hs := hk.size
                exact ⟨by omega, hk.cell d0 hbt, hk.cell d1 hbt, hk.cell d2 hbt, hk.cell d3 hbt⟩
              have hlen := hU.len
              obtain ⟨Al, cl, rfl⟩ := own_slice hR.own
              have hwk : Keep (fun _ => False) w wr := HC.out.2.2.1.weak hR.keep (fun j hj => by rw [hj]; exact HC.out.2.2.2.2.2.2.2)
              have i0 : (0 : Int) ≤ (i : Int) := by omega
              have i1 : (i : Int) < (L.length : Int) := by omega
              have HX := Lib.hid (And.intro hx (And.intro hqv hwk))
              have HU := Lib.hid hU
              have HR := Lib.hid hR
              clear hx hqv hwk hq hU hR hbz0 hbt d0 d1 d2 d3
              by_cases hz : x.kind = 0
              · have z0 : (qk == 0) = true := by rw [hkk, hz]; rfl
                have hno : uniT kids = none := uni_any (x := x) (by rw [HC.out.1]; exact List.mem_of_getElem? HX.out.1) hz
                have HNO := Lib.hid hno
                have hra := HR.out.keep.at_ HC.out.2.2.2.2.1 HC.out.2.2.2.2.2.2.1
                obtain ⟨hbz, c0, c1, c2, c3⟩ := HCW.out wr HR.out.keep
                obtain ⟨bl, b0, b1, b2, b3⟩ := HR.out.box.tcells
                obtain ⟨rl, r0, r1, r2, r3⟩ := hra.tcells
                have rf0 := hra.frozen 0
                have rf1 := hra.frozen 1
                have rf2 := hra.frozen 2
                have rf3 := hra.frozen 3
                have HRA := Lib.hid hra
                clear hkk hz hno hra
                go_wp2_with fail
                (try simp only [Exit.inBlock, Exit.then])
                refine bodyPost_ret (ret_cell rfl rfl ((((HRA.out.set 0 _).set 1 _).set 2 _).set 3 _)) rfl ?_
                exact ⟨OptP.no HNO.out ⟨7, ⟨#[]⟩, none, 0, 0, _, _, _⟩, Keep.set4 HX.out.2.2 (.inr (by have := HRB.out; omega)) _ _ _ _⟩
              · have z0 : (qk == 0) = false := by rw [hkk, beq_eq_false_iff_ne]; exact hz
                have htc := rTag_any (HX.out.2.1.step HX.out.2.2)
                unfold Tv.val at htc
                simp only at htc
                have HZ := Lib.hid hz
                clear hkk hz
                by_cases ht : tagT x = tg
                · rw [ht] at htc
                  have HT := Lib.hid ht
                  have dt : ((tg : Int) != (tg : Int)) = false := by simp
                  clear ht
                  cases had with
                  | false =>
                    obtain ⟨hbz, c0, c1, c2, c3⟩ := HCW.out wr HR.out.keep
                    go_wp2_with (go_at_call 48; refine htc.mono ?_; rintro e w2 ⟨rfl, hk2⟩; have hR2 := HR.out.on hk2; clear hbz c0 c1 c2 c3; obtain ⟨hbz, c0, c1, c2, c3⟩ := HCW.out w2 hR2.keep; obtain ⟨bl, b0, b1, b2, b3⟩ := hR2.box.tcells; have bf := hR2.box.frozen; have H2 := Lib.hid (And.intro hk2 hR2); clear hk2 hR2 htc)
                    have hbig : K2.length + 1 ≤ 1099511627776 := by omega
                    go_region_law (refine step_app rfl (.tmp 65) (.tmp 70) 23 rfl E25 (.slice Al K2.length cl) K2.length (tflat rs4) rfl ((H2.out.2.own.alloc _).drew) w2.heap.size 1 1 #[.int .i64 qk, .string qnm, .slice qAn qnn qcn, .slice qAk qnk qck] rfl ((At.new_at (by simp)).drew) rfl (by simp [Value.oneCell']) (by decide) hbig (by decide) ?_; intro g' cap' w' ho' hk hg hgl; have ha := hk.at_ ((H2.out.2.box.alloc _).drew) (fun hx => by have h1 := H2.out.2.new tb hx; have h2 := HC.out.2.2.2.2.2.1; omega); have hz3 := ha.cell 3; have hzf := ha.frozen; have hzl := ha.lt; simp only [List.getElem?_toArray, List.getElem?_cons_succ, List.getElem?_cons_zero] at hz3)
                    all_goals (
                      have hRn := H2.out.2.app (r := ⟨qk, qnm, qAn, qnn, qcn, qAk, qnk, qck⟩) ho' hk hg (by have := HC.out.2.2.2.2.2.1; omega) HX.out.2.1
                      clear ho' hk hg hgl ha hz3 hzf hzl hbz c0 c1 c2 c3 bl b0 b1 b2 b3 bf
                      go_upto_region 21 with fail
                      refine gen_w ?_
                      intro wv hwv
                      rw [← hwv] at hRn
                      clear hwv
                      obtain ⟨lvv, hlvv⟩ : ∃ l, Value.slice (some ⟨g', 0, none⟩) (K2.length + 1) cap' = l := ⟨_, rfl⟩
                      rw [hlvv] at hRn
                      have HV := Lib.hid hRn
                      have HUT := Lib.hid (HU.out.first HX.out.1 HZ.out HT.out)
                      clear hRn hlvv
                      go_wp2_with fail
                      have hln : (K2 ++ [x]).length = K2.length + 1 := by simp
                      have hown := HV.out.own
                      rw [hln] at hown
                      obtain ⟨Al2, cl2, hlv2⟩ := own_slice hown
                      cases hlv2
                      obtain ⟨⟨pk, pnm, pAn, pnn, pcn, pAk, pnk, pck⟩, hp, hpv⟩ := HV.out.tys.at_ (i := K2.length) (t := x) (by simp)
                      obtain ⟨yb, yo, hyA, hyl, _, y0, y1, y2, y3⟩ := (Rd.of_own (X := fun g => g = tb) hown (fun g hg e => by have h1 := HV.out.new g (by first | exact hg | (rw [hln]; exact hg)); have h2 := HC.out.2.2.2.2.2.1; omega)).tcells (i := K2.length) (by omega) hp
                      subst hyA
                      have v3 := HV.out.box.cell 3
                      try rw [hln] at v3
                      have vl := HV.out.box.lt
                      simp only [List.getElem?_toArray, List.getElem?_cons_succ, List.getElem?_cons_zero] at v3 y0 y1 y2 y3
                      have hkv : Keep (fun _ => False) w wv := HC.out.2.2.1.weak HV.out.keep (fun j hj => by rw [hj]; exact HC.out.2.2.2.2.2.2.2)
                      have hsm := rSame_any x x wv.drew ⟨qk, qnm, qAn, qnn, qcn, qAk, qnk, qck⟩ ⟨pk, pnm, pAn, pnn, pcn, pAk, pnk, pck⟩ (HX.out.2.1.step (hkv.trans (Keep.refl _ wv).drew (fun _ _ x => x))) (hpv.step (hkv.trans (Keep.refl _ wv).drew (fun _ _ x => x)))
                      rw [sameT_refl] at hsm
                      unfold Tv.val at hsm
                      simp only at hsm
                      have cv := HCW.out wv HV.out.keep
                      have hn6 : K2.length ≤ 6 := by first | omega | (rw [hln] at hlen; omega)
                      obtain ⟨n0, hn0⟩ : ∃ n0, K2.length = n0 := ⟨_, rfl⟩
                      rw [hn0] at v3 y0 y1 y2 y3 hn6
                      have HSK : Hid (∀ w', Keep (fun _ => False) wv w' → (b < w'.heap.size ∧ w'.cell? ⟨b, o + i * 4, none⟩ = some (.int .i64 qk) ∧ w'.cell? ⟨b, o + i * 4 + 1, none⟩ = some (.string qnm) ∧ w'.cell? ⟨b, o + i * 4 + 2, none⟩ = some (.slice qAn qnn qcn) ∧ w'.cell? ⟨b, o + i * 4 + 3, none⟩ = some (.slice qAk qnk qck)) ∧ tb < w'.heap.size ∧ w'.cell? ⟨tb, 3, none⟩ = some (.slice (some ⟨yb, yo, none⟩) (n0 + 1) cl2) ∧ (yb < w'.heap.size ∧ w'.cell? ⟨yb, yo + n0 * 4, none⟩ = some (.int .i64 pk) ∧ w'.cell? ⟨yb, yo + n0 * 4 + 1, none⟩ = some (.string pnm) ∧ w'.cell? ⟨yb, yo + n0 * 4 + 2, none⟩ = some (.slice pAn pnn pcn) ∧ w'.cell? ⟨yb, yo + n0 * 4 + 3, none⟩ = some (.slice pAk pnk pck))) := fun w' hk => by
                        have hs := hk.size
                        obtain ⟨a, b, c, d, e⟩ := cv
                        exact ⟨⟨by omega, hk.cell b (fun x => x), hk.cell c (fun x => x), hk.cell d (fun x => x), hk.cell e (fun x => x)⟩, by omega, hk.cell v3 (fun x => x), by omega, hk.cell y0 (fun x => x), hk.cell y1 (fun x => x), hk.cell y2 (fun x => x), hk.cell y3 (fun x => x)⟩
                      have HKV := Lib.hid hkv
                      clear hln hown hp hpv v3 vl hyl y0 y1 y2 y3 hkv cv hn0
                      have hsx := HSK.out wv (Keep.refl _ _)
                      have j0 : (0 : Int) ≤ (n0 : Int) := by omega
                      have j1 : (n0 : Int) < ((n0 + 1 : Nat) : Int) := by omega
                      have j2 : (n0 : Int) < (n0 : Int) + 1 := by omega
                      have e1 := wl1 hn6
                      have e2 := wl2 hn6
                      have e3 := wl3 hn6
                      have f1 := wf1 hn6
                      have f2 := wf2 hn6
                      have f3 := wf3 hn6
                      go_region_held3 (fun w' => (b < w'.heap.size ∧ w'.cell? ⟨b, o + i * 4, none⟩ = some (.int .i64 qk) ∧ w'.cell? ⟨b, o + i * 4 + 1, none⟩ = some (.string qnm) ∧ w'.cell? ⟨b, o + i * 4 + 2, none⟩ = some (.slice qAn qnn qcn) ∧ w'.cell? ⟨b, o + i * 4 + 3, none⟩ = some (.slice qAk qnk qck)) ∧ tb < w'.heap.size ∧ w'.cell? ⟨tb, 3, none⟩ = some (.slice (some ⟨yb, yo, none⟩) (n0 + 1) cl2) ∧ (yb < w'.heap.size ∧ w'.cell? ⟨yb, yo + n0 * 4, none⟩ = some (.int .i64 pk) ∧ w'.cell? ⟨yb, yo + n0 * 4 + 1, none⟩ = some (.string pnm) ∧ w'.cell? ⟨yb, yo + n0 * 4 + 2, none⟩ = some (.slice pAn pnn pcn) ∧ w'.cell? ⟨yb, yo + n0 * 4 + 3, none⟩ = some (.slice pAk pnk pck)))
                        (first | exact hsx | exact HSK.out _ ((Keep.refl _ wv).drew.trans KA.out (fun _ _ x => x)))
                        ((go_at_call 15; refine hsm.mono ?_; rintro e wA ⟨rfl, hkA⟩; have KA := Lib.hid hkA; clear hkA hsm))
                      clear f1 f2 f3 e1 e2 e3 j0 j1 j2
                      have kA : Keep (fun _ => False) wv wA := (Keep.refl _ wv).drew.trans KA.out (fun _ _ x => x)
                      clear hsx
                      go_wp2_with fail
                      go_roundg (L.length - (i + 1))
                      case measure => omega
                      case rel => exact ⟨i + 1, true, _, _, _, rfl, by go_num, by omega, rfl, HUT.out, HV.out.on kA⟩)
                  | true =>
                    obtain ⟨K0, x0, hK0, hx0, ht0⟩ := HU.out.last
                    by_cases hyes : x = x0
                    · subst hyes
                      subst hK0
                      have HUT := Lib.hid (HU.out.again HX.out.1 HZ.out rfl)
                      clear hx0 ht0
                      obtain ⟨hbz, c0, c1, c2, c3⟩ := HCW.out wr HR.out.keep
                      go_wp2_with (go_at_call 48; refine htc.mono ?_; rintro e wv ⟨rfl, hk2⟩; have HV := Lib.hid (HR.out.on hk2); clear hk2 htc hbz c0 c1 c2 c3)
                      have hln : (K0 ++ [x]).length = K0.length + 1 := by simp
                      have hown := HV.out.own
                      rw [hln] at hown
                      obtain ⟨Al2, cl2, hlv2⟩ := own_slice hown
                      cases hlv2
                      obtain ⟨⟨pk, pnm, pAn, pnn, pcn, pAk, pnk, pck⟩, hp, hpv⟩ := HV.out.tys.at_ (i := K0.length) (t := x) (by simp)
                      obtain ⟨yb, yo, hyA, hyl, _, y0, y1, y2, y3⟩ := (Rd.of_own (X := fun g => g = tb) hown (fun g hg e => by have h1 := HV.out.new g (by first | exact hg | (rw [hln]; exact hg)); have h2 := HC.out.2.2.2.2.2.1; omega)).tcells (i := K0.length) (by omega) hp
                      subst hyA
                      have v3 := HV.out.box.cell 3
                      try rw [hln] at v3
                      have vl := HV.out.box.lt
                      simp only [List.getElem?_toArray, List.getElem?_cons_succ, List.getElem?_cons_zero] at v3 y0 y1 y2 y3
                      have hkv : Keep (fun _ => False) w wv := HC.out.2.2.1.weak HV.out.keep (fun j hj => by rw [hj]; exact HC.out.2.2.2.2.2.2.2)
                      have hsm := rSame_any x x wv.drew ⟨qk, qnm, qAn, qnn, qcn, qAk, qnk, qck⟩ ⟨pk, pnm, pAn, pnn, pcn, pAk, pnk, pck⟩ (HX.out.2.1.step (hkv.trans (Keep.refl _ wv).drew (fun _ _ x => x))) (hpv.step (hkv.trans (Keep.refl _ wv).drew (fun _ _ x => x)))
                      rw [sameT_refl] at hsm
                      unfold Tv.val at hsm
                      simp only at hsm
                      have cv := HCW.out wv HV.out.keep
                      have hn6 : K0.length ≤ 6 := by first | omega | (rw [hln] at hlen; omega)
                      obtain ⟨n0, hn0⟩ : ∃ n0, K0.length = n0 := ⟨_, rfl⟩
                      rw [hn0] at v3 y0 y1 y2 y3 hn6
                      have HSK : Hid (∀ w', Keep (fun _ => False) wv w' → (b < w'.heap.size ∧ w'.cell? ⟨b, o + i * 4, none⟩ = some (.int .i64 qk) ∧ w'.cell? ⟨b, o + i * 4 + 1, none⟩ = some (.string qnm) ∧ w'.cell? ⟨b, o + i * 4 + 2, none⟩ = some (.slice qAn qnn qcn) ∧ w'.cell? ⟨b, o + i * 4 + 3, none⟩ = some (.slice qAk qnk qck)) ∧ tb < w'.heap.size ∧ w'.cell? ⟨tb, 3, none⟩ = some (.slice (some ⟨yb, yo, none⟩) (n0 + 1) cl) ∧ (yb < w'.heap.size ∧ w'.cell? ⟨yb, yo + n0 * 4, none⟩ = some (.int .i64 pk) ∧ w'.cell? ⟨yb, yo + n0 * 4 + 1, none⟩ = some (.string pnm) ∧ w'.cell? ⟨yb, yo + n0 * 4 + 2, none⟩ = some (.slice pAn pnn pcn) ∧ w'.cell? ⟨yb, yo + n0 * 4 + 3, none⟩ = some (.slice pAk pnk pck))) := fun w' hk => by
                        have hs := hk.size
                        obtain ⟨a, b, c, d, e⟩ := cv
                        exact ⟨⟨by omega, hk.cell b (fun x => x), hk.cell c (fun x => x), hk.cell d (fun x => x), hk.cell e (fun x => x)⟩, by omega, hk.cell v3 (fun x => x), by omega, hk.cell y0 (fun x => x), hk.cell y1 (fun x => x), hk.cell y2 (fun x => x), hk.cell y3 (fun x => x)⟩
                      have HKV := Lib.hid hkv
                      clear hln hown hp hpv v3 vl hyl y0 y1 y2 y3 hkv cv hn0
                      have hsx := HSK.out wv (Keep.refl _ _)
                      have j0 : (0 : Int) ≤ (n0 : Int) := by omega
                      have j1 : (n0 : Int) < ((n0 + 1 : Nat) : Int) := by omega
                      have j2 : (n0 : Int) < (n0 : Int) + 1 := by omega
                      have e1 := wl1 hn6
                      have e2 := wl2 hn6
                      have e3 := wl3 hn6
                      have f1 := wf1 hn6
                      have f2 := wf2 hn6
                      have f3 := wf3 hn6
                      go_region_held3 (fun w' => (b < w'.heap.size ∧ w'.cell? ⟨b, o + i * 4, none⟩ = some (.int .i64 qk) ∧ w'.cell? ⟨b, o + i * 4 + 1, none⟩ = some (.string qnm) ∧ w'.cell? ⟨b, o + i * 4 + 2, none⟩ = some (.slice qAn qnn qcn) ∧ w'.cell? ⟨b, o + i * 4 + 3, none⟩ = some (.slice qAk qnk qck)) ∧ tb < w'.heap.size ∧ w'.cell? ⟨tb, 3, none⟩ = some (.slice (some ⟨yb, yo, none⟩) (n0 + 1) cl) ∧ (yb < w'.heap.size ∧ w'.cell? ⟨yb, yo + n0 * 4, none⟩ = some (.int .i64 pk) ∧ w'.cell? ⟨yb, yo + n0 * 4 + 1, none⟩ = some (.string pnm) ∧ w'.cell? ⟨yb, yo + n0 * 4 + 2, none⟩ = some (.slice pAn pnn pcn) ∧ w'.cell? ⟨yb, yo + n0 * 4 + 3, none⟩ = some (.slice pAk pnk pck)))
                        (first | exact hsx | exact HSK.out _ ((Keep.refl _ wv).drew.trans KA.out (fun _ _ x => x)))
                        ((go_at_call 15; refine hsm.mono ?_; rintro e wA ⟨rfl, hkA⟩; have KA := Lib.hid hkA; clear hkA hsm))
                      clear f1 f2 f3 e1 e2 e3 j0 j1 j2
                      have kA : Keep (fun _ => False) wv wA := (Keep.refl _ wv).drew.trans KA.out (fun _ _ x => x)
                      clear hsx
                      go_wp2_with fail
                      go_roundg (L.length - (i + 1))
                      case measure => omega
                      case rel => exact ⟨i + 1, true, _, _, _, rfl, by go_num, by omega, rfl, HUT.out, HV.out.on kA⟩
                    · have hno : uniT kids = none := uni_ne (x := x) (y := x0) (by rw [HC.out.1]; exact List.mem_of_getElem? HX.out.1) (by rw [HC.out.1]; exact hx0) (HT.out.trans ht0.symm) hyes
                      subst hK0
                      have HNO := Lib.hid hno
                      clear hno hx0 ht0
                      obtain ⟨hbz, c0, c1, c2, c3⟩ := HCW.out wr HR.out.keep
                      go_wp2_with (go_at_call 48; refine htc.mono ?_; rintro e wv ⟨rfl, hk2⟩; have HV := Lib.hid (HR.out.on hk2); clear hk2 htc hbz c0 c1 c2 c3)
                      have hln : (K0 ++ [x0]).length = K0.length + 1 := by simp
                      have hown := HV.out.own
                      rw [hln] at hown
                      obtain ⟨Al2, cl2, hlv2⟩ := own_slice hown
                      cases hlv2
                      obtain ⟨⟨pk, pnm, pAn, pnn, pcn, pAk, pnk, pck⟩, hp, hpv⟩ := HV.out.tys.at_ (i := K0.length) (t := x0) (by simp)
                      obtain ⟨yb, yo, hyA, hyl, _, y0, y1, y2, y3⟩ := (Rd.of_own (X := fun g => g = tb) hown (fun g hg e => by have h1 := HV.out.new g (by first | exact hg | (rw [hln]; exact hg)); have h2 := HC.out.2.2.2.2.2.1; omega)).tcells (i := K0.length) (by omega) hp
                      subst hyA
                      have v3 := HV.out.box.cell 3
                      try rw [hln] at v3
                      have vl := HV.out.box.lt
                      simp only [List.getElem?_toArray, List.getElem?_cons_succ, List.getElem?_cons_zero] at v3 y0 y1 y2 y3
                      have hkv : Keep (fun _ => False) w wv := HC.out.2.2.1.weak HV.out.keep (fun j hj => by rw [hj]; exact HC.out.2.2.2.2.2.2.2)
                      have hsm := rSame_any x x0 wv.drew ⟨qk, qnm, qAn, qnn, qcn, qAk, qnk, qck⟩ ⟨pk, pnm, pAn, pnn, pcn, pAk, pnk, pck⟩ (HX.out.2.1.step (hkv.trans (Keep.refl _ wv).drew (fun _ _ x => x))) (hpv.step (hkv.trans (Keep.refl _ wv).drew (fun _ _ x => x)))
                      rw [sameT_ne hyes] at hsm
                      unfold Tv.val at hsm
                      simp only at hsm
                      have cv := HCW.out wv HV.out.keep
                      have hn6 : K0.length ≤ 6 := by first | omega | (rw [hln] at hlen; omega)
                      obtain ⟨n0, hn0⟩ : ∃ n0, K0.length = n0 := ⟨_, rfl⟩
                      rw [hn0] at v3 y0 y1 y2 y3 hn6
                      have HSK : Hid (∀ w', Keep (fun _ => False) wv w' → (b < w'.heap.size ∧ w'.cell? ⟨b, o + i * 4, none⟩ = some (.int .i64 qk) ∧ w'.cell? ⟨b, o + i * 4 + 1, none⟩ = some (.string qnm) ∧ w'.cell? ⟨b, o + i * 4 + 2, none⟩ = some (.slice qAn qnn qcn) ∧ w'.cell? ⟨b, o + i * 4 + 3, none⟩ = some (.slice qAk qnk qck)) ∧ tb < w'.heap.size ∧ w'.cell? ⟨tb, 3, none⟩ = some (.slice (some ⟨yb, yo, none⟩) (n0 + 1) cl) ∧ (yb < w'.heap.size ∧ w'.cell? ⟨yb, yo + n0 * 4, none⟩ = some (.int .i64 pk) ∧ w'.cell? ⟨yb, yo + n0 * 4 + 1, none⟩ = some (.string pnm) ∧ w'.cell? ⟨yb, yo + n0 * 4 + 2, none⟩ = some (.slice pAn pnn pcn) ∧ w'.cell? ⟨yb, yo + n0 * 4 + 3, none⟩ = some (.slice pAk pnk pck))) := fun w' hk => by
                        have hs := hk.size
                        obtain ⟨a, b, c, d, e⟩ := cv
                        exact ⟨⟨by omega, hk.cell b (fun x => x), hk.cell c (fun x => x), hk.cell d (fun x => x), hk.cell e (fun x => x)⟩, by omega, hk.cell v3 (fun x => x), by omega, hk.cell y0 (fun x => x), hk.cell y1 (fun x => x), hk.cell y2 (fun x => x), hk.cell y3 (fun x => x)⟩
                      have HKV := Lib.hid hkv
                      clear hln hown hp hpv v3 vl hyl y0 y1 y2 y3 hkv cv hn0
                      have hsx := HSK.out wv (Keep.refl _ _)
                      have j0 : (0 : Int) ≤ (n0 : Int) := by omega
                      have j1 : (n0 : Int) < ((n0 + 1 : Nat) : Int) := by omega
                      have j2 : (n0 : Int) < (n0 : Int) + 1 := by omega
                      have e1 := wl1 hn6
                      have e2 := wl2 hn6
                      have e3 := wl3 hn6
                      have f1 := wf1 hn6
                      have f2 := wf2 hn6
                      have f3 := wf3 hn6
                      go_region_held3 (fun w' => (b < w'.heap.size ∧ w'.cell? ⟨b, o + i * 4, none⟩ = some (.int .i64 qk) ∧ w'.cell? ⟨b, o + i * 4 + 1, none⟩ = some (.string qnm) ∧ w'.cell? ⟨b, o + i * 4 + 2, none⟩ = some (.slice qAn qnn qcn) ∧ w'.cell? ⟨b, o + i * 4 + 3, none⟩ = some (.slice qAk qnk qck)) ∧ tb < w'.heap.size ∧ w'.cell? ⟨tb, 3, none⟩ = some (.slice (some ⟨yb, yo, none⟩) (n0 + 1) cl) ∧ (yb < w'.heap.size ∧ w'.cell? ⟨yb, yo + n0 * 4, none⟩ = some (.int .i64 pk) ∧ w'.cell? ⟨yb, yo + n0 * 4 + 1, none⟩ = some (.string pnm) ∧ w'.cell? ⟨yb, yo + n0 * 4 + 2, none⟩ = some (.slice pAn pnn pcn) ∧ w'.cell? ⟨yb, yo + n0 * 4 + 3, none⟩ = some (.slice pAk pnk pck)))
                        (first | exact hsx | exact HSK.out _ ((Keep.refl _ wv).drew.trans KA.out (fun _ _ x => x)))
                        ((go_at_call 15; refine hsm.mono ?_; rintro e wA ⟨rfl, hkA⟩; have KA := Lib.hid hkA; clear hkA hsm))
                      clear f1 f2 f3 e1 e2 e3 j0 j1 j2
                      have kA : Keep (fun _ => False) wv wA := (Keep.refl _ wv).drew.trans KA.out (fun _ _ x => x)
                      have hRA := HV.out.on kA
                      have hra := hRA.keep.at_ HC.out.2.2.2.2.1 HC.out.2.2.2.2.2.2.1
                      obtain ⟨bl, b0, b1, b2, b3⟩ := hRA.box.tcells
                      obtain ⟨rl, r0, r1, r2, r3⟩ := hra.tcells
                      have rf0 := hra.frozen 0
                      have rf1 := hra.frozen 1
                      have rf2 := hra.frozen 2
                      have rf3 := hra.frozen 3
                      have HRA := Lib.hid (And.intro hra kA)
                      clear hsx hra hRA kA
                      go_wp2_with fail
                      (try simp only [Exit.inBlock, Exit.then])
                      refine bodyPost_ret (ret_cell rfl rfl ((((HRA.out.1.set 0 _).set 1 _).set 2 _).set 3 _)) rfl ?_
                      exact ⟨OptP.no HNO.out ⟨7, ⟨#[]⟩, none, 0, 0, _, _, _⟩, Keep.set4 (HKV.out.trans HRA.out.2 (fun _ _ x => x)) (.inr (by have := HRB.out; omega)) _ _ _ _⟩
                · have dt : (tagT x != (tg : Int)) = true := by simpa using ht
                  have HT := Lib.hid ht
                  clear ht
                  have HSKIP := Lib.hid (HU.out.skip HX.out.1 HZ.out HT.out)
                  clear HT
                  generalize tagT x = tx at *
                  obtain ⟨hbz, c0, c1, c2, c3⟩ := HCW.out wr HR.out.keep
                  go_wp2_with (go_at_call 48; refine htc.mono ?_; rintro e w2 ⟨rfl, hk2⟩; have H2 := Lib.hid hk2; clear hk2 htc)
                  go_roundg (L.length - (i + 1))
                  case measure => omega
                  case rel => exact ⟨i + 1, had, K2, _, rs4, rfl, by go_num, by omega, rfl, HSKIP.out, HR.out.on H2.out⟩
            · have hie : i = L.length := by omega
              subst hie
              have hnx := hU.next
              have HN := Lib.hid (And.intro hnx hR)
              clear hnx hR hU
              go_wp2_with fail
              go_roundg (6 - (tg + 1))
              case measure => omega
              case rel => exact ⟨tg + 1, K2, lv2, rs4, by go_num, by omega, rfl, HN.out.1, HN.out.2⟩
        · have hie : tg = 6 := by omega
          subst hie
          have hun : uniT kids = uniOf KK := UT.fin H.out.2.2.2.1 (by rw [HC.out.1]; exact hU)
          have hlen6 : KK.length ≤ 6 := hU.len0
          obtain ⟨Al, cl, rfl⟩ := own_slice hR.own
          have bl := hR.box.lt
          have hkw : Keep (fun _ => False) w wr := HC.out.2.2.1.weak hR.keep (fun i hi => by rw [hi]; exact HC.out.2.2.2.2.2.2.2)
          have hrt : rb < wt.heap.size := HC.out.2.2.2.2.1.lt
          have b0 := hR.box.cell 0
          have b1 := hR.box.cell 1
          have b2 := hR.box.cell 2
          have b3 := hR.box.cell 3
          simp only [List.getElem?_toArray, List.getElem?_cons_succ, List.getElem?_cons_zero] at b0 b1 b2 b3
          have ra : At wr rb 25 #[.int .i64 0, .string ⟨#[]⟩, .slice none 0 0, .slice none 0 0] := hR.keep.at_ HC.out.2.2.2.2.1 HC.out.2.2.2.2.2.2.1
          have rf0 := ra.frozen 0
          have rf1 := ra.frozen 1
          have rf2 := ra.frozen 2
          have rf3 := ra.frozen 3
          have rc0 := ra.cell 0
          have rc1 := ra.cell 1
          have rc2 := ra.cell 2
          have rc3 := ra.cell 3
          have rl := ra.lt
          simp only [List.getElem?_toArray, List.getElem?_cons_succ, List.getElem?_cons_zero] at rc0 rc1 rc2 rc3
          have hkf : ∀ v0 v1 v2 v3, Keep (fun g => g = rb) wr ((((wr.setCell ⟨rb, 0, none⟩ v0).setCell ⟨rb, 1, none⟩ v1).setCell ⟨rb, 2, none⟩ v2).setCell ⟨rb, 3, none⟩ v3) := fun v0 v1 v2 v3 => Keep.set4 (Keep.refl (fun g => g = rb) wr) (.inl rfl) v0 v1 v2 v3
          have hrbt : ¬ rb = tb := HC.out.2.2.2.2.2.2.1
          have htbr : ¬ tb = rb := fun h => hrbt h.symm
          obtain ⟨l, hll⟩ : ∃ l, KK = l := ⟨_, rfl⟩
          subst hll
          generalize hnl : KK.length = n at *
          have HR := Lib.hid (And.intro hR hnl)
          have HKW := Lib.hid (And.intro hkw hkf)
          have HUN := Lib.hid hun
          clear hR hkw hkf ra hun hnl hU
          match n, HR with
          | 0, HR =>
            have hl0 : KK = [] := List.eq_nil_of_length_eq_zero HR.out.2
            subst hl0
            go_wp2_with fail
            go_region
            go_wp2_with fail
            (try simp only [Exit.inBlock, Exit.then])
            refine bodyPost_ret (by simp [results, Tryd.results39, go_sem, rc0, rc1, rc2, rc3]; try rfl) rfl ?_
            exact ⟨OptP.no HUN.out ⟨7, ⟨#[]⟩, none, 0, 0, Al, 0, cl⟩, HKW.out.1.weak (HKW.out.2 (.int .i64 7) (.string ⟨#[]⟩) (.slice none 0 0) (.slice Al 0 cl)).drew (fun i hi => by rw [hi]; exact Nat.le_of_eq HRB.out)⟩
          | 1, HR =>
            obtain ⟨x, hlx⟩ : ∃ x, KK = [x] := List.length_eq_one_iff.1 HR.out.2
            subst hlx
            have hq0 := HR.out.1.tys.at_ (i := 0) (t := x) rfl
            obtain ⟨⟨mk, mnm, mAn, mnn, mcn, mAk, mnk, mck⟩, hq0, hqv⟩ := hq0
            obtain ⟨yb, yo, hyA, hyl, hyn, y0, y1, y2, y3⟩ := (Rd.of_own (X := fun g => g = rb) HR.out.1.own (fun g hg e => by have := HR.out.1.new g hg; omega)).tcells (by simp) hq0
            subst hyA
            simp only [Nat.zero_mul, Nat.add_zero] at y0 y1 y2 y3
            have HQ := Lib.hid hqv
            clear hq0 hqv
            go_wp2_with fail
            (try simp only [Exit.inBlock, Exit.then])
            refine bodyPost_ret (by simp [results, Tryd.results39, go_sem, rc0, rc1, rc2, rc3]; try rfl) rfl ?_
            have hkf := HKW.out.1.weak (HKW.out.2 (.int .i64 mk) (.string mnm) (.slice mAn mnn mcn) (.slice mAk mnk mck)) (fun i hi => by rw [hi]; exact Nat.le_of_eq HRB.out)
            exact ⟨OptP.yes (r := ⟨mk, mnm, mAn, mnn, mcn, mAk, mnk, mck⟩) HUN.out (HQ.out.step hkf), hkf⟩
          | n + 2, HR =>
            have d1 : (((n + 2 : Nat) : Int) == 1) = false := by rw [beq_eq_false_iff_ne]; omega
            go_wp2_with fail
            go_region
            go_wp2_with fail
            (try simp only [Exit.inBlock, Exit.then])
            refine bodyPost_ret (by simp [results, Tryd.results39, go_sem, rc0, rc1, rc2, rc3]; try rfl) rfl ?_
            obtain ⟨x, y, r, hlx⟩ : ∃ x y r, KK = x :: y :: r := by
              have h2 := HR.out.2
              match KK, h2 with
              | x :: y :: r, _ => exact ⟨x, y, r, rfl⟩
            have hkf := HKW.out.1.weak (HKW.out.2 (.int .i64 7) (.string ⟨#[]⟩) (.slice none 0 0) (.slice Al (n + 2) cl)).drew (fun i hi => by rw [hi]; exact Nat.le_of_eq HRB.out)
            have hR := HR.out.1
            rw [← HR.out.2] at hR
            have hty := hR.fin (fun i hi => by have h1 := H.out.2.2.1 i hi; have h2 := HRB.out; omega) HC.out.2.2.1.size (by rw [HR.out.2]; exact hlen6) hrt (HKW.out.2 (.int .i64 7) (.string ⟨#[]⟩) (.slice none 0 0) (.slice Al (n + 2) cl)).drew hkf
            rw [HR.out.2] at hty
            have hun2 : uniT kids = some (.mk 7 ⟨#[]⟩ [] KK) := by rw [HUN.out, hlx]; rfl
            have hyes := OptP.yes (r := ⟨7, ⟨#[]⟩, none, 0, 0, Al, n + 2, cl⟩) hun2 hty
            rw [show decide (0 < (n : Int) + 2) = true by simp; omega]
            exact ⟨hyes, hkf⟩
end Go.Proofs.YtomhhpjpmlpijaaDoor
