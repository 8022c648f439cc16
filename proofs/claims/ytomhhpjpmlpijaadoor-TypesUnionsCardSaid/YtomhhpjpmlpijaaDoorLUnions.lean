/-
  Walk: graduslaw03.TypesUnions. Conditions: the table strings.asciiSpace lies as the program lays it.
-/
import Derived.Test.YtomhhpjpmlpijaaDoorWAwake
import Derived.Test.YtomhhpjpmlpijaaDoorWRUni
import Derived.Test.YtomhhpjpmlpijaaDoorWRMany
namespace Go.Proofs.YtomhhpjpmlpijaaDoor
open Go.RowKit

def ukids (l : List Ty) (c i : Nat) : List Ty := (List.range i).map fun q => l.getD ((q + c) % l.length) ty0
theorem ukids_len (l : List Ty) (c i : Nat) : (ukids l c i).length = i := by simp [ukids]
theorem ukids_next {l : List Ty} {c i : Nat} {x : Ty} (h : l[(i + c) % l.length]? = some x) : ukids l c (i + 1) = ukids l c i ++ [x] := by
  unfold ukids
  rw [List.range_succ, List.map_append]
  simp [List.getD_eq_getElem?_getD, h]
theorem ukids_all {l : List Ty} {c : Nat} (hl : 0 < l.length) (x : Ty) : x ∈ ukids l c (2 * l.length) ↔ x ∈ l := by
  unfold ukids
  rw [List.mem_map]
  constructor
  · rintro ⟨q, _, rfl⟩
    rw [List.getD_eq_getElem?_getD, List.getElem?_eq_getElem (Nat.mod_lt _ hl)]
    exact List.getElem_mem _
  · intro hx
    obtain ⟨j, hj, rfl⟩ := List.mem_iff_getElem.1 hx
    have hc : c ≤ l.length * c := Nat.le_mul_of_pos_left c hl
    refine ⟨(j + (l.length * c - c)) % l.length, List.mem_range.2 (Nat.lt_of_lt_of_le (Nat.mod_lt _ hl) (by omega)), ?_⟩
    have e : ((j + (l.length * c - c)) % l.length + c) % l.length = j := by
      rw [Nat.mod_add_mod, show j + (l.length * c - c) + c = j + l.length * c by omega, Nat.add_mul_mod_self_left, Nat.mod_eq_of_lt hj]
    rw [e, List.getD_eq_getElem?_getD, List.getElem?_eq_getElem hj]
    rfl
theorem turn7 (i m : Nat) (c : Nat) (d : Int) (hc : (c : Int) = d + 7) : ((i : Int) + d + 7).tmod (m : Int) = (((i + c) % m : Nat) : Int) := by
  rw [show (i : Int) + d + 7 = ((i + c : Nat) : Int) by omega]
  rfl
def UnL (w w2 : World) (l : List Ty) (c tb : Nat) (k : Nat) (b : Value) (wr : World) : Prop :=
  ∃ (i : Nat) (lv : Value) (rs : List Tv), b = .int .i64 i ∧ i ≤ 2 * l.length ∧ k = 2 * l.length - i ∧ UnR w w2 wr nX (ukids l c i) tb lv rs
theorem UnR.ty {w w2 wr : World} {l : List Ty} {tb n cl : Nat} {Al : Option Addr} {rs : List Tv} (h : UnR w w2 wr nX l tb (.slice Al n cl) rs) (hn : l.length = n) (hk : Keep (fun _ => False) w wr) (hl : n ≤ 1000) :
    TyV wr nX ⟨7, ⟨#[]⟩, none, 0, 0, Al, n, cl⟩ (.mk 7 ⟨#[]⟩ [] l) := by
  subst hn
  exact TyV.mk (t := .mk 7 ⟨#[]⟩ [] l) (rs := rs) ⟨rfl, Nat.zero_le _, by simp only; omega⟩ rfl rfl (Rd.nil wr nX 1) rfl (Rd.of_own h.own (fun _ _ x => x)) (h.tys.step hk)
set_option maxRecDepth 100000 in
set_option maxHeartbeats 16000000 in
theorem unions_card {W : World} {r : Tv} {t : Ty} (hT : Tab W) (h : TyV W nX r t) (a : Int) (_ : -9223372036854775808 ≤ a) (_ : a ≤ 9223372036854775807) :
    Calls Tryd.prog 7 #[r.val, .int .i64 a] W fun e w' => e = .returned (.bool true) ∧ Keep (fun _ => False) W w' := by
  obtain ⟨k, nm, An, nn, cn, Ak, nk, ck⟩ := r
  have kw : Keep (fun _ => False) W (W.alloc (.cells #[.int .i64 k, .string nm, .slice An nn cn, .slice Ak nk ck] 25)) := (Keep.refl _ W).alloc _
  have a0 : At (W.alloc (.cells #[.int .i64 k, .string nm, .slice An nn cn, .slice Ak nk ck] 25)) W.heap.size 25 #[.int .i64 k, .string nm, .slice An nn cn, .slice Ak nk ck] := At.new _ _ _
  have haw := awake_any (hT.step kw)
  have H := Lib.hid (And.intro kw (And.intro a0 (And.intro (h.step kw) (hT.step kw))))
  obtain ⟨d, hd⟩ : ∃ d : Int, a.tmod 7 = d := ⟨_, rfl⟩
  have hdr : -7 < d ∧ d < 7 := by have h1 := Int.lt_tmod_of_pos a (show (0 : Int) < 7 by omega); have h2 := Int.tmod_lt_of_pos a (show (0 : Int) < 7 by omega); omega
  have hd1 : -7 < d := hdr.1
  have hd2 : d < 7 := hdr.2
  clear h hT kw a0 hdr
  unfold Tv.val
  simp only
  go_enter Tryd.func7, Tryd.ntmps7
  go_upto_region 1 with fail
  generalize (W.alloc (.cells #[.int .i64 k, .string nm, .slice An nn cn, .slice Ak nk ck] 25)) = w1 at *
  generalize W.heap.size = bx at *
  have HM : Hid (∀ w', Keep (fun _ => False) w1 w' → Calls Tryd.prog 12 #[.agg #[.int .i64 k, .string nm, .slice An nn cn, .slice Ak nk ck], .int .i64 (100 : Int)] w' fun e w'' => ∃ z : Nat, e = .returned (.int .i64 z) ∧ Keep (fun _ => False) w' w'') := fun w' hk => (small_any t w' ⟨k, nm, An, nn, cn, Ak, nk, ck⟩ 100 (by omega) (by omega) (H.out.2.2.1.step hk)).mono fun e w'' ⟨z, a, _, b, c⟩ => ⟨z, a, c⟩
  have HC : Hid (∀ w', Keep (fun _ => False) w1 w' → bx < w'.heap.size ∧ w'.cell? ⟨bx, 0, none⟩ = some (.int .i64 k) ∧ w'.cell? ⟨bx, 1, none⟩ = some (.string nm) ∧ w'.cell? ⟨bx, 2, none⟩ = some (.slice An nn cn) ∧ w'.cell? ⟨bx, 3, none⟩ = some (.slice Ak nk ck)) := fun w' hk => (hk.at_ H.out.2.1 (fun x => x)).tcells
  have HN : Hid (∀ w', Keep (fun _ => False) w1 w' → Calls Tryd.prog 13 #[.agg #[.int .i64 k, .string nm, .slice An nn cn, .slice Ak nk ck]] w' fun e w'' => NormP nX (NormT t) e w'' ∧ Keep (fun _ => False) w' w'') := fun w' hk => Norm_any (r := ⟨k, nm, An, nn, cn, Ak, nk, ck⟩) (fun _ h => h.elim) (H.out.2.2.2.step hk) (H.out.2.2.1.step hk)
  have HDD := Lib.hid (And.intro hd (And.intro hd1 hd2))
  cases hno : NormT t with
  | none =>
    rw [hno] at HN
    clear hno
    go_wp2_with (first
        | (go_at_call 11; refine haw.mono ?_; rintro e w2 ⟨rfl, hk⟩; obtain ⟨xl, x0, x1, x2, x3⟩ := HC.out w2 hk; have hm := HM.out w2 hk; have K2 := Lib.hid hk; clear hk haw)
        | (go_at_call 12; refine hm.mono ?_; rintro e w3 ⟨z, rfl, hk⟩; have k3 := K2.out.trans hk (fun _ _ x => x); clear xl x0 x1 x2 x3; obtain ⟨xl, x0, x1, x2, x3⟩ := HC.out w3 k3; have hn := HN.out w3 k3; have K3 := Lib.hid k3; clear hk hm k3)
        | (go_at_call 13; refine hn.mono ?_; rintro e w4 ⟨he, hk⟩; unfold NormP at he; simp only [Tv.val, tv0] at he; subst he; have K4 := Lib.hid (K3.out.trans hk (fun _ _ x => x)); clear hk hn))
    all_goals go_ret
    all_goals first
      | exact ⟨rfl, (H.out.1.trans K4.out (fun _ _ x => x)).alloc _⟩
      | exact ⟨rfl, H.out.1.trans K3.out (fun _ _ x => x)⟩
  | some n =>
    rw [hno] at HN
    have hnf := NormT_nf hno
    have HF := Lib.hid hnf
    clear hno hnf
    by_cases h0 : n.kind = 0
    · have HD0 : Hid (∀ x : Int, x = n.kind → (x == 0) = true) := fun x e => by rw [e, h0]; rfl
      clear h0
      go_wp2_with (first
        | (go_at_call 11; refine haw.mono ?_; rintro e w2 ⟨rfl, hk⟩; obtain ⟨xl, x0, x1, x2, x3⟩ := HC.out w2 hk; have hm := HM.out w2 hk; have K2 := Lib.hid hk; clear hk haw)
        | (go_at_call 12; refine hm.mono ?_; rintro e w3 ⟨z, rfl, hk⟩; have k3 := K2.out.trans hk (fun _ _ x => x); clear xl x0 x1 x2 x3; obtain ⟨xl, x0, x1, x2, x3⟩ := HC.out w3 k3; have hn := HN.out w3 k3; have K3 := Lib.hid k3; clear hk hm k3)
        | (go_at_call 13; refine hn.mono ?_; rintro e w4 ⟨⟨⟨pk, pnm, pAn, pnn, pcn, pAk, pnk, pck⟩, he, htp⟩, hk⟩; simp only [Tv.val] at he; subst he; have d0 := HD0.out pk htp.knd; skip; have K4 := Lib.hid (And.intro (K3.out.trans hk (fun _ _ x => x)) htp); clear hk hn htp))
      all_goals go_ret
      all_goals first
        | exact ⟨rfl, (H.out.1.trans K4.out.1 (fun _ _ x => x)).alloc _⟩
        | exact ⟨rfl, H.out.1.trans K3.out (fun _ _ x => x)⟩
    · have HD0 : Hid (∀ x : Int, x = n.kind → (x == 0) = false) := fun x e => by rw [e, beq_eq_false_iff_ne]; exact h0
      have H0 := Lib.hid h0
      clear h0
      by_cases h7 : n.kind = 7
      · have HD7 : Hid (∀ x : Int, x = n.kind → (x == 7) = true) := fun x e => by rw [e, h7]; rfl
        have H7 := Lib.hid h7
        clear h7
        go_upto_region 10 with (first
                | (go_at_call 11; refine haw.mono ?_; rintro e w2 ⟨rfl, hk⟩; obtain ⟨xl, x0, x1, x2, x3⟩ := HC.out w2 hk; have hm := HM.out w2 hk; have K2 := Lib.hid hk; clear hk haw)
                | (go_at_call 12; refine hm.mono ?_; rintro e w3 ⟨z, rfl, hk⟩; have k3 := K2.out.trans hk (fun _ _ x => x); clear xl x0 x1 x2 x3; obtain ⟨xl, x0, x1, x2, x3⟩ := HC.out w3 k3; have hn := HN.out w3 k3; have K3 := Lib.hid k3; clear hk hm k3)
                | (go_at_call 13; refine hn.mono ?_; rintro e w4 ⟨⟨⟨pk, pnm, pAn, pnn, pcn, pAk, pnk, pck⟩, he, htp⟩, hk⟩; simp only [Tv.val] at he; subst he; have d0 := HD0.out pk htp.knd; have d7 := HD7.out pk htp.knd; have K4 := Lib.hid (And.intro (K3.out.trans hk (fun _ _ x => x)) htp); clear hk hn htp))
        · go_ret
          exact ⟨rfl, H.out.1.trans K3.out (fun _ _ x => x)⟩
        have k5 : Keep (fun _ => False) w1 ((w4.alloc (.cells #[.int .i64 pk, .string pnm, .slice pAn pnn pcn, .slice pAk pnk pck] 25)).alloc (.cells #[.int .i64 pk, .string pnm, .slice pAn pnn pcn, .slice pAk pnk pck] 25)) := (K4.out.1.alloc _).alloc _
        have a5 : At ((w4.alloc (.cells #[.int .i64 pk, .string pnm, .slice pAn pnn pcn, .slice pAk pnk pck] 25)).alloc (.cells #[.int .i64 pk, .string pnm, .slice pAn pnn pcn, .slice pAk pnk pck] 25)) w4.heap.size 25 #[.int .i64 pk, .string pnm, .slice pAn pnn pcn, .slice pAk pnk pck] := (At.new w4 25 #[.int .i64 pk, .string pnm, .slice pAn pnn pcn, .slice pAk pnk pck]).alloc _
        have v5 : TyV ((w4.alloc (.cells #[.int .i64 pk, .string pnm, .slice pAn pnn pcn, .slice pAk pnk pck] 25)).alloc (.cells #[.int .i64 pk, .string pnm, .slice pAn pnn pcn, .slice pAk pnk pck] 25)) nX ⟨pk, pnm, pAn, pnn, pcn, pAk, pnk, pck⟩ n := K4.out.2.step (((Keep.refl _ w4).alloc (.cells #[.int .i64 pk, .string pnm, .slice pAn pnn pcn, .slice pAk pnk pck] 25)).alloc _)
        clear xl x0 x1 x2 x3
        obtain ⟨Al, m, cl, l, rs, hls, hrd, hty, hlen, hmem, hpos, hle⟩ : ∃ (Al : Option Addr) (m cl : Nat) (l : List Ty) (rs : List Tv), Value.slice pAk pnk pck = .slice Al m cl ∧ Rd ((w4.alloc (.cells #[.int .i64 pk, .string pnm, .slice pAn pnn pcn, .slice pAk pnk pck] 25)).alloc (.cells #[.int .i64 pk, .string pnm, .slice pAn pnn pcn, .slice pAk pnk pck] 25)) nX 4 (.slice Al m cl) m (tflat rs) ∧ TysV ((w4.alloc (.cells #[.int .i64 pk, .string pnm, .slice pAn pnn pcn, .slice pAk pnk pck] 25)).alloc (.cells #[.int .i64 pk, .string pnm, .slice pAn pnn pcn, .slice pAk pnk pck] 25)) nX rs l ∧ l.length = m ∧ (∀ x, x ∈ l ↔ x ∈ atoms n) ∧ 0 < m ∧ m ≤ 200 := by
          obtain ⟨rs, h5, _, h6, h7⟩ := v5.kds
          simp only at h5 h6
          have h8 := NF.uni HF.out.1 H7.out
          have h9 := length_le_sizeL n.kids
          have hA := n.size_eq
          have hB := HF.out.2
          exact ⟨_, _, _, n.kids, rs, rfl, h6, h7, h5.symm, fun x => by unfold atoms; rw [if_pos H7.out], by omega, by omega⟩
        generalize ((w4.alloc (.cells #[.int .i64 pk, .string pnm, .slice pAn pnn pcn, .slice pAk pnk pck] 25)).alloc (.cells #[.int .i64 pk, .string pnm, .slice pAn pnn pcn, .slice pAk pnk pck] 25)) = w5 at *
        rw [hls]
        have HLS := Lib.hid hls
        clear hls
        generalize w4.heap.size = px at *
        subst hlen
        have k6 : Keep (fun _ => False) w5 (w5.alloc (.cells #[.int .i64 7, .string ⟨#[]⟩, .slice none 0 0, .slice none 0 0] 25)) := (Keep.refl _ w5).alloc _
        have hrd6 : Rd (w5.alloc (.cells #[.int .i64 7, .string ⟨#[]⟩, .slice none 0 0, .slice none 0 0] 25)) (fun g => g = w5.heap.size) 4 (.slice Al l.length cl) l.length (tflat rs) :=
          Rd.keep (Y := fun _ => False) (Rd.mono (Y := fun g => g = w5.heap.size) hrd (fun i hi hy => by omega)) k6 (fun _ x => x.elim)
        have hsz : (w5.alloc (.cells #[.int .i64 7, .string ⟨#[]⟩, .slice none 0 0, .slice none 0 0] 25)).heap.size = w5.heap.size + 1 := by simp
        have hpt : ¬ px = w5.heap.size := by have := a5.lt; omega
        obtain ⟨c, hc⟩ : ∃ c : Nat, (c : Int) = d + 7 := ⟨(d + 7).toNat, by omega⟩
        have h0 : Hid (UnL w5 (w5.alloc (.cells #[.int .i64 7, .string ⟨#[]⟩, .slice none 0 0, .slice none 0 0] 25)) l c w5.heap.size (2 * l.length) (.int .i64 0) (w5.alloc (.cells #[.int .i64 7, .string ⟨#[]⟩, .slice none 0 0, .slice none 0 0] 25))) :=
          ⟨0, .slice none 0 0, [], rfl, Nat.zero_le _, rfl, ⟨Keep.refl _ _, At.new _ _ _, World.ownsRow_nil _ 0 25 4, trivial, fun g hg => by simp [Value.ownBlock] at hg⟩⟩
        have HL := Lib.hid (And.intro hrd6 (And.intro hty (And.intro hmem (And.intro k5 (And.intro k6 (And.intro (k6.at_ a5 (fun x => x)) (And.intro hsz (And.intro hpt (And.intro v5 hc)))))))))
        have e0 : wrap64 (2 * (l.length : Int)) = 2 * (l.length : Int) := by unfold wrap64; omega
        clear k5 a5 v5 hrd hty hmem k6 hrd6 hsz hpt hc K4 K3 K2 HN HM HC
        go_wp2_with fail
        generalize (w5.alloc (.cells #[.int .i64 7, .string ⟨#[]⟩, .slice none 0 0, .slice none 0 0] 25)) = w6 at *
        obtain ⟨tb, htb⟩ : ∃ tb, w5.heap.size = tb := ⟨_, rfl⟩
        rw [htb] at HL h0 ⊢
        have HTB := Lib.hid htb
        clear htb
        go_loopg [10] (2 * l.length) (UnL w5 w6 l c tb)
        case atStart => exact h0.out
        case round =>
          clear h0
          obtain ⟨i, lv, rs4, rfl, hi, rfl, hR⟩ := hrel
          by_cases hlt : i < 2 * l.length
          · obtain ⟨kq, hkq⟩ : ∃ kq, (i + c) % l.length = kq := ⟨_, rfl⟩
            have hkl : kq < l.length := by rw [← hkq]; exact Nat.mod_lt _ hpos
            obtain ⟨x, hx⟩ : ∃ x, l[kq]? = some x := ⟨_, List.getElem?_eq_getElem hkl⟩
            obtain ⟨⟨qk, qnm, qAn, qnn, qcn, qAk, qnk, qck⟩, hq, hqv⟩ := HL.out.2.1.at_ hx
            obtain ⟨b, o, hAl, hbz, hbt, c0, c1, c2, c3⟩ := (HL.out.1.keep hR.keep (fun _ x => x)).tcells hkl hq
            subst hAl
            simp only at c0 c1 c2 c3
            have hnx := ukids_next (l := l) (c := c) (i := i) (x := x) (by rw [hkq]; exact hx)
            have ht7 := turn7 i l.length c d HL.out.2.2.2.2.2.2.2.2.2
            rw [hkq] at ht7
            have hul := ukids_len l c i
            obtain ⟨K2, hK2⟩ : ∃ K2, ukids l c i = K2 := ⟨_, rfl⟩
            rw [hK2] at hR hnx hul
            obtain ⟨A2, g2, rfl⟩ := own_slice hR.own
            have b3 := hR.box.cell 3
            simp only [List.getElem?_toArray, List.getElem?_cons_succ, List.getElem?_cons_zero] at b3
            have bl := hR.box.lt
            have bf := hR.box.frozen
            have hbig : K2.length + 1 ≤ 1099511627776 := by omega
            have HR := Lib.hid (And.intro hR (And.intro hqv hnx))
            have f1 : wrap64 ((i : Int) + d) = (i : Int) + d := by unfold wrap64; omega
            have f2 : wrap64 ((i : Int) + d + 7) = (i : Int) + d + 7 := by unfold wrap64; omega
            have dl : decide ((i : Int) < 2 * (l.length : Int)) = true := by simp; omega
            have dl' : decide (i < 2 * l.length) = true := by simp; omega
            have lz : ((l.length : Int) == 0) = false := by rw [beq_eq_false_iff_ne]; omega
            have lz' : ¬ ((l.length : Int) = 0) := by omega
            have i0 : (0 : Int) ≤ (kq : Int) := by omega
            have i1 : (kq : Int) < (l.length : Int) := by omega
            clear hR hqv hnx hx hq hK2 hul hkq hbt
            go_wp2_with fail
            go_region_law (refine step_app rfl (.tmp 60) (.tmp 65) 23 rfl E25 (.slice A2 K2.length g2) K2.length (tflat rs4) rfl ((HR.out.1.own.alloc _).drew) wr.heap.size 1 1 #[.int .i64 qk, .string qnm, .slice qAn qnn qcn, .slice qAk qnk qck] rfl ((At.new_at (by simp)).drew) rfl (by simp [Value.oneCell']) (by decide) hbig (by decide) ?_; intro g' cap' w' ho' hk hg hgl; have ha := hk.at_ ((HR.out.1.box.alloc _).drew) (fun hx => by have h1 := HR.out.1.new tb hx; have h2 := HL.out.2.2.2.2.2.2.1; have h3 := HTB.out; omega); have hz3 := ha.cell 3; have hzf := ha.frozen; have hzl := ha.lt; simp only [List.getElem?_toArray, List.getElem?_cons_succ, List.getElem?_cons_zero] at hz3)
            all_goals (
              have hRn := HR.out.1.app (r := ⟨qk, qnm, qAn, qnn, qcn, qAk, qnk, qck⟩) ho' hk hg (by have h2 := HL.out.2.2.2.2.2.2.1; have h3 := HTB.out; omega) HR.out.2.1
              have HRN := Lib.hid hRn
              clear hRn ho' hk hg hgl ha hz3 hzf hzl c0 c1 c2 c3
              go_wp2_with fail
              go_roundg (2 * l.length - (i + 1))
              case measure => omega
              case rel => exact ⟨i + 1, _, _, by go_num, by omega, rfl, by rw [HR.out.2.2]; exact HRN.out⟩)
          · have hie : i = 2 * l.length := by omega
            subst hie
            have dl : decide ((((2 * l.length : Nat)) : Int) < 2 * (l.length : Int)) = false := by simp
            have dl2 : decide (2 * (l.length : Int) < 2 * (l.length : Int)) = false := by simp
            have hul := ukids_len l c (2 * l.length)
            have hks : ∀ x, x ∈ ukids l c (2 * l.length) ↔ x ∈ atoms n := fun x => (ukids_all hpos x).trans (HL.out.2.2.1 x)
            obtain ⟨K2, hK2⟩ : ∃ K2, ukids l c (2 * l.length) = K2 := ⟨_, rfl⟩
            rw [hK2] at hks hR hul
            have hK4 : K2.length ≤ 1000 := by omega
            obtain ⟨A2, g2, rfl⟩ := own_slice hR.own
            have hkw : Keep (fun _ => False) w5 wr := HL.out.2.2.2.2.1.weak hR.keep (fun j hj => by rw [hj]; exact Nat.le_of_eq HTB.out)
            have hut := hR.ty rfl hkw hK4
            obtain ⟨u, hu⟩ : ∃ u, Ty.mk 7 ⟨#[]⟩ [] K2 = u := ⟨_, rfl⟩
            have hun : u.size ≤ 200 → u.ht ≤ 16 → NormT u = some n := fun h h' => by
              rw [← hu] at h h' ⊢
              exact unions_law HF.out.1 H0.out hks h h'
            rw [hu] at hut
            have hpx := hR.keep.at_ HL.out.2.2.2.2.2.1 HL.out.2.2.2.2.2.2.2.1
            have HU := Lib.hid (And.intro hut (And.intro hR.box (And.intro hkw (And.intro hpx hun))))
            obtain ⟨bl, b0, b1, b2, b3⟩ := hR.box.tcells
            have hsz := rSize_any (r := ⟨7, ⟨#[]⟩, none, 0, 0, A2, K2.length, g2⟩) hut
            have HRH : Hid (∀ w', Keep (fun _ => False) wr w' → Calls Tryd.prog 19 #[.agg #[.int .i64 7, .string ⟨#[]⟩, .slice none 0 0, .slice A2 K2.length g2]] w' fun e w'' => e = .returned (.int .i64 (min u.ht 17 : Nat)) ∧ Keep (fun _ => False) w' w'') := fun w' hk => rHeight_any (r := ⟨7, ⟨#[]⟩, none, 0, 0, A2, K2.length, g2⟩) (HU.out.1.step hk)
            unfold Tv.val at hsz
            simp only at hsz
            clear hR hkw hut hu hun hpx hks hK2 hul hi hlt hK4 hpos hle
            by_cases s2 : 200 < u.size
            · rw [show min u.size 201 = 201 by omega] at hsz
              clear s2
              go_wp2_with (first
                | (go_at_call 17; refine hsz.mono ?_; rintro e wA ⟨rfl, hkA⟩; clear bl b0 b1 b2 b3; obtain ⟨bl, b0, b1, b2, b3⟩ := (hkA.at_ HU.out.2.1 (fun x => x)).tcells; have hh := HRH.out wA hkA; have KA := Lib.hid hkA; clear hkA hsz))
              (try simp only [Exit.inBlock, Exit.then])
              go_ret
              exact ⟨rfl, ((H.out.1.trans HL.out.2.2.2.1 (fun _ _ x => x)).trans HU.out.2.2.1 (fun _ _ x => x)).trans KA.out (fun _ _ x => x)⟩
            · have d200 : decide (200 < (u.size : Int)) = false := by simp; omega
              have hs2 : u.size ≤ 200 := by omega
              have HS2 := Lib.hid hs2
              rw [show min u.size 201 = u.size by omega] at hsz
              clear s2 hs2
              by_cases s3 : 16 < u.ht
              · rw [show min u.ht 17 = 17 by omega] at HRH
                clear s3
                generalize u.size = us at *
                go_wp2_with (first
                | (go_at_call 17; refine hsz.mono ?_; rintro e wA ⟨rfl, hkA⟩; clear bl b0 b1 b2 b3; obtain ⟨bl, b0, b1, b2, b3⟩ := (hkA.at_ HU.out.2.1 (fun x => x)).tcells; have hh := HRH.out wA hkA; have KA := Lib.hid hkA; clear hkA hsz)
                | (go_at_call 19; refine hh.mono ?_; rintro e wB ⟨rfl, hkB⟩; have kB := KA.out.trans hkB (fun _ _ x => x); clear bl b0 b1 b2 b3; obtain ⟨bl, b0, b1, b2, b3⟩ := (kB.at_ HU.out.2.1 (fun x => x)).tcells; have KB := Lib.hid kB; clear hkB hh kB))
                (try simp only [Exit.inBlock, Exit.then])
                go_ret
                exact ⟨rfl, ((H.out.1.trans HL.out.2.2.2.1 (fun _ _ x => x)).trans HU.out.2.2.1 (fun _ _ x => x)).trans KB.out (fun _ _ x => x)⟩
              · have d16 : decide (16 < (u.ht : Int)) = false := by simp; omega
                have hun := HU.out.2.2.2.2 HS2.out (by omega)
                rw [show min u.ht 17 = u.ht by omega] at HRH
                have HNU : Hid (∀ w', Keep (fun _ => False) wr w' → Calls Tryd.prog 13 #[.agg #[.int .i64 7, .string ⟨#[]⟩, .slice none 0 0, .slice A2 K2.length g2]] w' fun e w'' => NormP nX (some n) e w'' ∧ Keep (fun _ => False) w' w'') := fun w' hk => by
                  have := Norm_any (r := ⟨7, ⟨#[]⟩, none, 0, 0, A2, K2.length, g2⟩) (fun _ h => h.elim) (H.out.2.2.2.step ((HL.out.2.2.2.1.trans HU.out.2.2.1 (fun _ _ x => x)).trans hk (fun _ _ x => x))) (HU.out.1.step hk)
                  rw [hun] at this
                  exact this
                clear s3 hun
                obtain ⟨us, hus⟩ : ∃ us, u.size = us := ⟨_, rfl⟩
                obtain ⟨uh, huh⟩ : ∃ uh, u.ht = uh := ⟨_, rfl⟩
                rw [hus] at hsz d200
                rw [huh] at HRH d16
                clear hus huh
                go_wp2_with (first
                | (go_at_call 17; refine hsz.mono ?_; rintro e wA ⟨rfl, hkA⟩; clear bl b0 b1 b2 b3; obtain ⟨bl, b0, b1, b2, b3⟩ := (hkA.at_ HU.out.2.1 (fun x => x)).tcells; have hh := HRH.out wA hkA; have KA := Lib.hid hkA; clear hkA hsz)
                | (go_at_call 19; refine hh.mono ?_; rintro e wB ⟨rfl, hkB⟩; have kB := KA.out.trans hkB (fun _ _ x => x); clear bl b0 b1 b2 b3; obtain ⟨bl, b0, b1, b2, b3⟩ := (kB.at_ HU.out.2.1 (fun x => x)).tcells; have KB := Lib.hid kB; clear hkB hh kB; have hn := HNU.out wB KB.out)
                | (go_at_call 13; refine hn.mono ?_; rintro e wC ⟨⟨⟨mk, mnm, mAn, mnn, mcn, mAk, mnk, mck⟩, he, htm⟩, hkC⟩; simp only [Tv.val] at he; subst he; have kC := KB.out.trans hkC (fun _ _ x => x); obtain ⟨pl, p0, p1, p2, p3⟩ := (kC.at_ HU.out.2.2.2.1 (fun x => x)).tcells; have hs := same_any n n (wC.alloc (.cells #[.int .i64 mk, .string mnm, .slice mAn mnn mcn, .slice mAk mnk mck] 25)) ⟨mk, mnm, mAn, mnn, mcn, mAk, mnk, mck⟩ ⟨pk, pnm, pAn, pnn, pcn, pAk, pnk, pck⟩ (htm.step ((Keep.refl _ wC).alloc _)) (HL.out.2.2.2.2.2.2.2.2.1.step (HU.out.2.2.1.trans (kC.alloc _) (fun _ _ x => x))); rw [sameT_refl] at hs; unfold Tv.val at hs; simp only at hs; have KC := Lib.hid kC; clear hkC hn kC htm)
                | (go_at_call 20; refine hs.mono ?_; rintro e wD ⟨rfl, hkD⟩; have KD := Lib.hid hkD; clear hkD hs))
                (try simp only [Exit.inBlock, Exit.then])
                go_ret
                exact ⟨rfl, (((H.out.1.trans HL.out.2.2.2.1 (fun _ _ x => x)).trans HU.out.2.2.1 (fun _ _ x => x)).trans (KC.out.alloc _) (fun _ _ x => x)).trans KD.out (fun _ _ x => x)⟩
      · have HD7 : Hid (∀ x : Int, x = n.kind → (x == 7) = false) := fun x e => by rw [e, beq_eq_false_iff_ne]; exact h7
        have H7 := Lib.hid h7
        clear h7
        go_upto_region 10 with (first
                | (go_at_call 11; refine haw.mono ?_; rintro e w2 ⟨rfl, hk⟩; obtain ⟨xl, x0, x1, x2, x3⟩ := HC.out w2 hk; have hm := HM.out w2 hk; have K2 := Lib.hid hk; clear hk haw)
                | (go_at_call 12; refine hm.mono ?_; rintro e w3 ⟨z, rfl, hk⟩; have k3 := K2.out.trans hk (fun _ _ x => x); clear xl x0 x1 x2 x3; obtain ⟨xl, x0, x1, x2, x3⟩ := HC.out w3 k3; have hn := HN.out w3 k3; have K3 := Lib.hid k3; clear hk hm k3)
                | (go_at_call 13; refine hn.mono ?_; rintro e w4 ⟨⟨⟨pk, pnm, pAn, pnn, pcn, pAk, pnk, pck⟩, he, htp⟩, hk⟩; simp only [Tv.val] at he; subst he; have d0 := HD0.out pk htp.knd; have d7 := HD7.out pk htp.knd; have K4 := Lib.hid (And.intro (K3.out.trans hk (fun _ _ x => x)) htp); clear hk hn htp))
        · go_ret
          exact ⟨rfl, H.out.1.trans K3.out (fun _ _ x => x)⟩
        have k5 : Keep (fun _ => False) w1 ((w4.alloc (.cells #[.int .i64 pk, .string pnm, .slice pAn pnn pcn, .slice pAk pnk pck] 25)).alloc (.cells #[.int .i64 pk, .string pnm, .slice pAn pnn pcn, .slice pAk pnk pck] 25)) := (K4.out.1.alloc _).alloc _
        have a5 : At ((w4.alloc (.cells #[.int .i64 pk, .string pnm, .slice pAn pnn pcn, .slice pAk pnk pck] 25)).alloc (.cells #[.int .i64 pk, .string pnm, .slice pAn pnn pcn, .slice pAk pnk pck] 25)) w4.heap.size 25 #[.int .i64 pk, .string pnm, .slice pAn pnn pcn, .slice pAk pnk pck] := (At.new w4 25 #[.int .i64 pk, .string pnm, .slice pAn pnn pcn, .slice pAk pnk pck]).alloc _
        have v5 : TyV ((w4.alloc (.cells #[.int .i64 pk, .string pnm, .slice pAn pnn pcn, .slice pAk pnk pck] 25)).alloc (.cells #[.int .i64 pk, .string pnm, .slice pAn pnn pcn, .slice pAk pnk pck] 25)) nX ⟨pk, pnm, pAn, pnn, pcn, pAk, pnk, pck⟩ n := K4.out.2.step (((Keep.refl _ w4).alloc (.cells #[.int .i64 pk, .string pnm, .slice pAn pnn pcn, .slice pAk pnk pck] 25)).alloc _)
        clear xl x0 x1 x2 x3
        obtain ⟨Al, m, cl, l, rs, hls, hrd, hty, hlen, hmem, hpos, hle⟩ : ∃ (Al : Option Addr) (m cl : Nat) (l : List Ty) (rs : List Tv), Value.slice (some ⟨w4.heap.size + 1, 0, none⟩) 1 1 = .slice Al m cl ∧ Rd ((w4.alloc (.cells #[.int .i64 pk, .string pnm, .slice pAn pnn pcn, .slice pAk pnk pck] 25)).alloc (.cells #[.int .i64 pk, .string pnm, .slice pAn pnn pcn, .slice pAk pnk pck] 25)) nX 4 (.slice Al m cl) m (tflat rs) ∧ TysV ((w4.alloc (.cells #[.int .i64 pk, .string pnm, .slice pAn pnn pcn, .slice pAk pnk pck] 25)).alloc (.cells #[.int .i64 pk, .string pnm, .slice pAn pnn pcn, .slice pAk pnk pck] 25)) nX rs l ∧ l.length = m ∧ (∀ x, x ∈ l ↔ x ∈ atoms n) ∧ 0 < m ∧ m ≤ 200 := by
          exact ⟨_, _, _, [n], [⟨pk, pnm, pAn, pnn, pcn, pAk, pnk, pck⟩], rfl, Rd.of_at (X := nX) (show At ((w4.alloc (.cells #[.int .i64 pk, .string pnm, .slice pAn pnn pcn, .slice pAk pnk pck] 25)).alloc (.cells #[.int .i64 pk, .string pnm, .slice pAn pnn pcn, .slice pAk pnk pck] 25)) (w4.heap.size + 1) 25 #[.int .i64 pk, .string pnm, .slice pAn pnn pcn, .slice pAk pnk pck] from At.new_at (by simp)) (fun x => x) rfl (Nat.le_refl _), ⟨v5, trivial⟩, rfl, fun x => by unfold atoms; rw [if_neg H7.out], by omega, by omega⟩
        generalize ((w4.alloc (.cells #[.int .i64 pk, .string pnm, .slice pAn pnn pcn, .slice pAk pnk pck] 25)).alloc (.cells #[.int .i64 pk, .string pnm, .slice pAn pnn pcn, .slice pAk pnk pck] 25)) = w5 at *
        rw [hls]
        have HLS := Lib.hid hls
        clear hls
        generalize w4.heap.size = px at *
        subst hlen
        have k6 : Keep (fun _ => False) w5 (w5.alloc (.cells #[.int .i64 7, .string ⟨#[]⟩, .slice none 0 0, .slice none 0 0] 25)) := (Keep.refl _ w5).alloc _
        have hrd6 : Rd (w5.alloc (.cells #[.int .i64 7, .string ⟨#[]⟩, .slice none 0 0, .slice none 0 0] 25)) (fun g => g = w5.heap.size) 4 (.slice Al l.length cl) l.length (tflat rs) :=
          Rd.keep (Y := fun _ => False) (Rd.mono (Y := fun g => g = w5.heap.size) hrd (fun i hi hy => by omega)) k6 (fun _ x => x.elim)
        have hsz : (w5.alloc (.cells #[.int .i64 7, .string ⟨#[]⟩, .slice none 0 0, .slice none 0 0] 25)).heap.size = w5.heap.size + 1 := by simp
        have hpt : ¬ px = w5.heap.size := by have := a5.lt; omega
        obtain ⟨c, hc⟩ : ∃ c : Nat, (c : Int) = d + 7 := ⟨(d + 7).toNat, by omega⟩
        have h0 : Hid (UnL w5 (w5.alloc (.cells #[.int .i64 7, .string ⟨#[]⟩, .slice none 0 0, .slice none 0 0] 25)) l c w5.heap.size (2 * l.length) (.int .i64 0) (w5.alloc (.cells #[.int .i64 7, .string ⟨#[]⟩, .slice none 0 0, .slice none 0 0] 25))) :=
          ⟨0, .slice none 0 0, [], rfl, Nat.zero_le _, rfl, ⟨Keep.refl _ _, At.new _ _ _, World.ownsRow_nil _ 0 25 4, trivial, fun g hg => by simp [Value.ownBlock] at hg⟩⟩
        have HL := Lib.hid (And.intro hrd6 (And.intro hty (And.intro hmem (And.intro k5 (And.intro k6 (And.intro (k6.at_ a5 (fun x => x)) (And.intro hsz (And.intro hpt (And.intro v5 hc)))))))))
        have e0 : wrap64 (2 * (l.length : Int)) = 2 * (l.length : Int) := by unfold wrap64; omega
        clear k5 a5 v5 hrd hty hmem k6 hrd6 hsz hpt hc K4 K3 K2 HN HM HC
        go_wp2_with fail
        generalize (w5.alloc (.cells #[.int .i64 7, .string ⟨#[]⟩, .slice none 0 0, .slice none 0 0] 25)) = w6 at *
        obtain ⟨tb, htb⟩ : ∃ tb, w5.heap.size = tb := ⟨_, rfl⟩
        rw [htb] at HL h0 ⊢
        have HTB := Lib.hid htb
        clear htb
        go_loopg [10] (2 * l.length) (UnL w5 w6 l c tb)
        case atStart => exact h0.out
        case round =>
          clear h0
          obtain ⟨i, lv, rs4, rfl, hi, rfl, hR⟩ := hrel
          by_cases hlt : i < 2 * l.length
          · obtain ⟨kq, hkq⟩ : ∃ kq, (i + c) % l.length = kq := ⟨_, rfl⟩
            have hkl : kq < l.length := by rw [← hkq]; exact Nat.mod_lt _ hpos
            obtain ⟨x, hx⟩ : ∃ x, l[kq]? = some x := ⟨_, List.getElem?_eq_getElem hkl⟩
            obtain ⟨⟨qk, qnm, qAn, qnn, qcn, qAk, qnk, qck⟩, hq, hqv⟩ := HL.out.2.1.at_ hx
            obtain ⟨b, o, hAl, hbz, hbt, c0, c1, c2, c3⟩ := (HL.out.1.keep hR.keep (fun _ x => x)).tcells hkl hq
            subst hAl
            simp only at c0 c1 c2 c3
            have hnx := ukids_next (l := l) (c := c) (i := i) (x := x) (by rw [hkq]; exact hx)
            have ht7 := turn7 i l.length c d HL.out.2.2.2.2.2.2.2.2.2
            rw [hkq] at ht7
            have hul := ukids_len l c i
            obtain ⟨K2, hK2⟩ : ∃ K2, ukids l c i = K2 := ⟨_, rfl⟩
            rw [hK2] at hR hnx hul
            obtain ⟨A2, g2, rfl⟩ := own_slice hR.own
            have b3 := hR.box.cell 3
            simp only [List.getElem?_toArray, List.getElem?_cons_succ, List.getElem?_cons_zero] at b3
            have bl := hR.box.lt
            have bf := hR.box.frozen
            have hbig : K2.length + 1 ≤ 1099511627776 := by omega
            have HR := Lib.hid (And.intro hR (And.intro hqv hnx))
            have f1 : wrap64 ((i : Int) + d) = (i : Int) + d := by unfold wrap64; omega
            have f2 : wrap64 ((i : Int) + d + 7) = (i : Int) + d + 7 := by unfold wrap64; omega
            have dl : decide ((i : Int) < 2 * (l.length : Int)) = true := by simp; omega
            have dl' : decide (i < 2 * l.length) = true := by simp; omega
            have lz : ((l.length : Int) == 0) = false := by rw [beq_eq_false_iff_ne]; omega
            have lz' : ¬ ((l.length : Int) = 0) := by omega
            have i0 : (0 : Int) ≤ (kq : Int) := by omega
            have i1 : (kq : Int) < (l.length : Int) := by omega
            clear hR hqv hnx hx hq hK2 hul hkq hbt
            go_wp2_with fail
            go_region_law (refine step_app rfl (.tmp 60) (.tmp 65) 23 rfl E25 (.slice A2 K2.length g2) K2.length (tflat rs4) rfl ((HR.out.1.own.alloc _).drew) wr.heap.size 1 1 #[.int .i64 qk, .string qnm, .slice qAn qnn qcn, .slice qAk qnk qck] rfl ((At.new_at (by simp)).drew) rfl (by simp [Value.oneCell']) (by decide) hbig (by decide) ?_; intro g' cap' w' ho' hk hg hgl; have ha := hk.at_ ((HR.out.1.box.alloc _).drew) (fun hx => by have h1 := HR.out.1.new tb hx; have h2 := HL.out.2.2.2.2.2.2.1; have h3 := HTB.out; omega); have hz3 := ha.cell 3; have hzf := ha.frozen; have hzl := ha.lt; simp only [List.getElem?_toArray, List.getElem?_cons_succ, List.getElem?_cons_zero] at hz3)
            all_goals (
              have hRn := HR.out.1.app (r := ⟨qk, qnm, qAn, qnn, qcn, qAk, qnk, qck⟩) ho' hk hg (by have h2 := HL.out.2.2.2.2.2.2.1; have h3 := HTB.out; omega) HR.out.2.1
              have HRN := Lib.hid hRn
              clear hRn ho' hk hg hgl ha hz3 hzf hzl c0 c1 c2 c3
              go_wp2_with fail
              go_roundg (2 * l.length - (i + 1))
              case measure => omega
              case rel => exact ⟨i + 1, _, _, by go_num, by omega, rfl, by rw [HR.out.2.2]; exact HRN.out⟩)
          · have hie : i = 2 * l.length := by omega
            subst hie
            have dl : decide ((((2 * l.length : Nat)) : Int) < 2 * (l.length : Int)) = false := by simp
            have dl2 : decide (2 * (l.length : Int) < 2 * (l.length : Int)) = false := by simp
            have hul := ukids_len l c (2 * l.length)
            have hks : ∀ x, x ∈ ukids l c (2 * l.length) ↔ x ∈ atoms n := fun x => (ukids_all hpos x).trans (HL.out.2.2.1 x)
            obtain ⟨K2, hK2⟩ : ∃ K2, ukids l c (2 * l.length) = K2 := ⟨_, rfl⟩
            rw [hK2] at hks hR hul
            have hK4 : K2.length ≤ 1000 := by omega
            obtain ⟨A2, g2, rfl⟩ := own_slice hR.own
            have hkw : Keep (fun _ => False) w5 wr := HL.out.2.2.2.2.1.weak hR.keep (fun j hj => by rw [hj]; exact Nat.le_of_eq HTB.out)
            have hut := hR.ty rfl hkw hK4
            obtain ⟨u, hu⟩ : ∃ u, Ty.mk 7 ⟨#[]⟩ [] K2 = u := ⟨_, rfl⟩
            have hun : u.size ≤ 200 → u.ht ≤ 16 → NormT u = some n := fun h h' => by
              rw [← hu] at h h' ⊢
              exact unions_law HF.out.1 H0.out hks h h'
            rw [hu] at hut
            have hpx := hR.keep.at_ HL.out.2.2.2.2.2.1 HL.out.2.2.2.2.2.2.2.1
            have HU := Lib.hid (And.intro hut (And.intro hR.box (And.intro hkw (And.intro hpx hun))))
            obtain ⟨bl, b0, b1, b2, b3⟩ := hR.box.tcells
            have hsz := rSize_any (r := ⟨7, ⟨#[]⟩, none, 0, 0, A2, K2.length, g2⟩) hut
            have HRH : Hid (∀ w', Keep (fun _ => False) wr w' → Calls Tryd.prog 19 #[.agg #[.int .i64 7, .string ⟨#[]⟩, .slice none 0 0, .slice A2 K2.length g2]] w' fun e w'' => e = .returned (.int .i64 (min u.ht 17 : Nat)) ∧ Keep (fun _ => False) w' w'') := fun w' hk => rHeight_any (r := ⟨7, ⟨#[]⟩, none, 0, 0, A2, K2.length, g2⟩) (HU.out.1.step hk)
            unfold Tv.val at hsz
            simp only at hsz
            clear hR hkw hut hu hun hpx hks hK2 hul hi hlt hK4 hpos hle
            by_cases s2 : 200 < u.size
            · rw [show min u.size 201 = 201 by omega] at hsz
              clear s2
              go_wp2_with (first
                | (go_at_call 17; refine hsz.mono ?_; rintro e wA ⟨rfl, hkA⟩; clear bl b0 b1 b2 b3; obtain ⟨bl, b0, b1, b2, b3⟩ := (hkA.at_ HU.out.2.1 (fun x => x)).tcells; have hh := HRH.out wA hkA; have KA := Lib.hid hkA; clear hkA hsz))
              (try simp only [Exit.inBlock, Exit.then])
              go_ret
              exact ⟨rfl, ((H.out.1.trans HL.out.2.2.2.1 (fun _ _ x => x)).trans HU.out.2.2.1 (fun _ _ x => x)).trans KA.out (fun _ _ x => x)⟩
            · have d200 : decide (200 < (u.size : Int)) = false := by simp; omega
              have hs2 : u.size ≤ 200 := by omega
              have HS2 := Lib.hid hs2
              rw [show min u.size 201 = u.size by omega] at hsz
              clear s2 hs2
              by_cases s3 : 16 < u.ht
              · rw [show min u.ht 17 = 17 by omega] at HRH
                clear s3
                generalize u.size = us at *
                go_wp2_with (first
                | (go_at_call 17; refine hsz.mono ?_; rintro e wA ⟨rfl, hkA⟩; clear bl b0 b1 b2 b3; obtain ⟨bl, b0, b1, b2, b3⟩ := (hkA.at_ HU.out.2.1 (fun x => x)).tcells; have hh := HRH.out wA hkA; have KA := Lib.hid hkA; clear hkA hsz)
                | (go_at_call 19; refine hh.mono ?_; rintro e wB ⟨rfl, hkB⟩; have kB := KA.out.trans hkB (fun _ _ x => x); clear bl b0 b1 b2 b3; obtain ⟨bl, b0, b1, b2, b3⟩ := (kB.at_ HU.out.2.1 (fun x => x)).tcells; have KB := Lib.hid kB; clear hkB hh kB))
                (try simp only [Exit.inBlock, Exit.then])
                go_ret
                exact ⟨rfl, ((H.out.1.trans HL.out.2.2.2.1 (fun _ _ x => x)).trans HU.out.2.2.1 (fun _ _ x => x)).trans KB.out (fun _ _ x => x)⟩
              · have d16 : decide (16 < (u.ht : Int)) = false := by simp; omega
                have hun := HU.out.2.2.2.2 HS2.out (by omega)
                rw [show min u.ht 17 = u.ht by omega] at HRH
                have HNU : Hid (∀ w', Keep (fun _ => False) wr w' → Calls Tryd.prog 13 #[.agg #[.int .i64 7, .string ⟨#[]⟩, .slice none 0 0, .slice A2 K2.length g2]] w' fun e w'' => NormP nX (some n) e w'' ∧ Keep (fun _ => False) w' w'') := fun w' hk => by
                  have := Norm_any (r := ⟨7, ⟨#[]⟩, none, 0, 0, A2, K2.length, g2⟩) (fun _ h => h.elim) (H.out.2.2.2.step ((HL.out.2.2.2.1.trans HU.out.2.2.1 (fun _ _ x => x)).trans hk (fun _ _ x => x))) (HU.out.1.step hk)
                  rw [hun] at this
                  exact this
                clear s3 hun
                obtain ⟨us, hus⟩ : ∃ us, u.size = us := ⟨_, rfl⟩
                obtain ⟨uh, huh⟩ : ∃ uh, u.ht = uh := ⟨_, rfl⟩
                rw [hus] at hsz d200
                rw [huh] at HRH d16
                clear hus huh
                go_wp2_with (first
                | (go_at_call 17; refine hsz.mono ?_; rintro e wA ⟨rfl, hkA⟩; clear bl b0 b1 b2 b3; obtain ⟨bl, b0, b1, b2, b3⟩ := (hkA.at_ HU.out.2.1 (fun x => x)).tcells; have hh := HRH.out wA hkA; have KA := Lib.hid hkA; clear hkA hsz)
                | (go_at_call 19; refine hh.mono ?_; rintro e wB ⟨rfl, hkB⟩; have kB := KA.out.trans hkB (fun _ _ x => x); clear bl b0 b1 b2 b3; obtain ⟨bl, b0, b1, b2, b3⟩ := (kB.at_ HU.out.2.1 (fun x => x)).tcells; have KB := Lib.hid kB; clear hkB hh kB; have hn := HNU.out wB KB.out)
                | (go_at_call 13; refine hn.mono ?_; rintro e wC ⟨⟨⟨mk, mnm, mAn, mnn, mcn, mAk, mnk, mck⟩, he, htm⟩, hkC⟩; simp only [Tv.val] at he; subst he; have kC := KB.out.trans hkC (fun _ _ x => x); obtain ⟨pl, p0, p1, p2, p3⟩ := (kC.at_ HU.out.2.2.2.1 (fun x => x)).tcells; have hs := same_any n n (wC.alloc (.cells #[.int .i64 mk, .string mnm, .slice mAn mnn mcn, .slice mAk mnk mck] 25)) ⟨mk, mnm, mAn, mnn, mcn, mAk, mnk, mck⟩ ⟨pk, pnm, pAn, pnn, pcn, pAk, pnk, pck⟩ (htm.step ((Keep.refl _ wC).alloc _)) (HL.out.2.2.2.2.2.2.2.2.1.step (HU.out.2.2.1.trans (kC.alloc _) (fun _ _ x => x))); rw [sameT_refl] at hs; unfold Tv.val at hs; simp only at hs; have KC := Lib.hid kC; clear hkC hn kC htm)
                | (go_at_call 20; refine hs.mono ?_; rintro e wD ⟨rfl, hkD⟩; have KD := Lib.hid hkD; clear hkD hs))
                (try simp only [Exit.inBlock, Exit.then])
                go_ret
                exact ⟨rfl, (((H.out.1.trans HL.out.2.2.2.1 (fun _ _ x => x)).trans HU.out.2.2.1 (fun _ _ x => x)).trans (KC.out.alloc _) (fun _ _ x => x)).trans KD.out (fun _ _ x => x)⟩
end Go.Proofs.YtomhhpjpmlpijaaDoor
