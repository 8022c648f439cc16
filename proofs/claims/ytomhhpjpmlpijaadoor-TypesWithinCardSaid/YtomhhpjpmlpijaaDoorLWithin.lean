/-
  Walk: graduslaw03.TypesWithin. Conditions: the table strings.asciiSpace lies as the program lays it.
-/
import Derived.Test.YtomhhpjpmlpijaaDoorWAwake
import Derived.Test.YtomhhpjpmlpijaaDoorWRSame
namespace Go.Proofs.YtomhhpjpmlpijaaDoor
open Go.RowKit

def WiA (w : World) (ks : List Ty) (k : Nat) (a b c : Value) (wr : World) : Prop :=
  ∃ i : Nat, a = .int .i64 ((1 + sizeL (ks.take i) : Nat) : Int) ∧ b = .int .i64 ((htL (ks.take i) : Nat) : Int) ∧ c = .int .i64 i ∧ i ≤ ks.length ∧ k = ks.length - i ∧ Keep (fun _ => False) w wr
theorem htL_take_le (ks : List Ty) (i : Nat) : htL (ks.take i) ≤ htL ks := htL_le fun _ hk => ht_mem (List.mem_of_mem_take hk)
theorem int_eq {a b : Int} (h : a = b) : Value.int .i64 a = Value.int .i64 b := by rw [h]
set_option maxRecDepth 100000 in
set_option maxHeartbeats 8000000 in
theorem within_law {W : World} {r : Tv} {t : Ty} (hT : Tab W) (h : TyV W nX r t) :
    Calls Tryd.prog 9 #[r.val] W fun e w' => e = .returned (.bool true) ∧ Keep (fun _ => False) W w' := by
  obtain ⟨k, nm, An, nn, cn, Ak, nk, ck⟩ := r
  have kw : Keep (fun _ => False) W (W.alloc (.cells #[.int .i64 k, .string nm, .slice An nn cn, .slice Ak nk ck] 25)) := (Keep.refl _ W).alloc _
  have a0 : At (W.alloc (.cells #[.int .i64 k, .string nm, .slice An nn cn, .slice Ak nk ck] 25)) W.heap.size 25 #[.int .i64 k, .string nm, .slice An nn cn, .slice Ak nk ck] := At.new _ _ _
  have haw := awake_any (hT.step kw)
  have H := Lib.hid (And.intro kw (And.intro a0 (And.intro (h.step kw) (hT.step kw))))
  clear h hT kw a0
  unfold Tv.val
  simp only
  go_enter Tryd.func9, Tryd.ntmps9
  go_upto_region 1 with fail
  generalize (W.alloc (.cells #[.int .i64 k, .string nm, .slice An nn cn, .slice Ak nk ck] 25)) = w1 at *
  generalize W.heap.size = bx at *
  have HM : Hid (∀ w', Keep (fun _ => False) w1 w' → Calls Tryd.prog 12 #[.agg #[.int .i64 k, .string nm, .slice An nn cn, .slice Ak nk ck], .int .i64 (300 : Int)] w' fun e w'' => ∃ z : Nat, e = .returned (.int .i64 z) ∧ (z ≠ 0 → t.kids.length ≤ 300 ∧ t.names.length ≤ 1000) ∧ Keep (fun _ => False) w' w'') := fun w' hk => (small_any t w' ⟨k, nm, An, nn, cn, Ak, nk, ck⟩ 300 (by omega) (by omega) (H.out.2.2.1.step hk)).mono fun e w'' ⟨z, a, _, b, c⟩ => ⟨z, a, b, c⟩
  have HC : Hid (∀ w', Keep (fun _ => False) w1 w' → bx < w'.heap.size ∧ w'.cell? ⟨bx, 0, none⟩ = some (.int .i64 k) ∧ w'.cell? ⟨bx, 1, none⟩ = some (.string nm) ∧ w'.cell? ⟨bx, 2, none⟩ = some (.slice An nn cn) ∧ w'.cell? ⟨bx, 3, none⟩ = some (.slice Ak nk ck)) := fun w' hk => (hk.at_ H.out.2.1 (fun x => x)).tcells
  have HN : Hid (∀ w', Keep (fun _ => False) w1 w' → Calls Tryd.prog 13 #[.agg #[.int .i64 k, .string nm, .slice An nn cn, .slice Ak nk ck]] w' fun e w'' => NormP nX (NormT t) e w'' ∧ Keep (fun _ => False) w' w'') := fun w' hk => Norm_any (r := ⟨k, nm, An, nn, cn, Ak, nk, ck⟩) (fun _ h => h.elim) (H.out.2.2.2.step hk) (H.out.2.2.1.step hk)
  cases hno : NormT t with
  | none =>
    rw [hno] at HN
    clear hno
    go_wp2_with (first | (go_at_call 11; refine haw.mono ?_; rintro e w2 ⟨rfl, hk⟩; obtain ⟨xl, x0, x1, x2, x3⟩ := HC.out w2 hk; have hm := HM.out w2 hk; have K2 := Lib.hid hk; clear hk haw) | (go_at_call 12; refine hm.mono ?_; rintro e w3 ⟨z, rfl, hz, hk⟩; have HZ := Lib.hid hz; have k3 := K2.out.trans hk (fun _ _ x => x); clear xl x0 x1 x2 x3; obtain ⟨xl, x0, x1, x2, x3⟩ := HC.out w3 k3; have hn := HN.out w3 k3; have K3 := Lib.hid k3; clear hk hm k3 hz) | (go_at_call 13; refine hn.mono ?_; rintro e w4 ⟨he, hk⟩; unfold NormP at he; simp only [Tv.val, tv0] at he; subst he; have K4 := Lib.hid (K3.out.trans hk (fun _ _ x => x)); clear hk hn))
    all_goals go_ret
    all_goals first
      | exact ⟨rfl, (H.out.1.trans K4.out (fun _ _ x => x)).alloc _⟩
      | exact ⟨rfl, H.out.1.trans K3.out (fun _ _ x => x)⟩
  | some n =>
    rw [hno] at HN
    have HF := Lib.hid hno
    clear hno
    go_wp2_with (first | (go_at_call 11; refine haw.mono ?_; rintro e w2 ⟨rfl, hk⟩; obtain ⟨xl, x0, x1, x2, x3⟩ := HC.out w2 hk; have hm := HM.out w2 hk; have K2 := Lib.hid hk; clear hk haw) | (go_at_call 12; refine hm.mono ?_; rintro e w3 ⟨z, rfl, hz, hk⟩; have HZ := Lib.hid hz; have k3 := K2.out.trans hk (fun _ _ x => x); clear xl x0 x1 x2 x3; obtain ⟨xl, x0, x1, x2, x3⟩ := HC.out w3 k3; have hn := HN.out w3 k3; have K3 := Lib.hid k3; clear hk hm k3 hz) | (go_at_call 13; refine hn.mono ?_; rintro e w4 ⟨⟨⟨pk, pnm, pAn, pnn, pcn, pAk, pnk, pck⟩, he, htp⟩, hk⟩; simp only [Tv.val] at he; subst he; have K4 := Lib.hid (And.intro (K3.out.trans hk (fun _ _ x => x)) htp); clear hk hn htp))
    · go_ret
      exact ⟨rfl, H.out.1.trans K3.out (fun _ _ x => x)⟩
    · have k5 : Keep (fun _ => False) w1 (w4.alloc (.cells #[.int .i64 pk, .string pnm, .slice pAn pnn pcn, .slice pAk pnk pck] 25)) := K4.out.1.alloc _
      have a5 : At (w4.alloc (.cells #[.int .i64 pk, .string pnm, .slice pAn pnn pcn, .slice pAk pnk pck] 25)) w4.heap.size 25 #[.int .i64 pk, .string pnm, .slice pAn pnn pcn, .slice pAk pnk pck] := At.new _ _ _
      have v5 : TyV (w4.alloc (.cells #[.int .i64 pk, .string pnm, .slice pAn pnn pcn, .slice pAk pnk pck] 25)) nX ⟨pk, pnm, pAn, pnn, pcn, pAk, pnk, pck⟩ n := K4.out.2.step ((Keep.refl _ w4).alloc _)
      clear xl x0 x1 x2 x3
      generalize (w4.alloc (.cells #[.int .i64 pk, .string pnm, .slice pAn pnn pcn, .slice pAk pnk pck] 25)) = w5 at *
      generalize w4.heap.size = px at *
      have H5 := Lib.hid (And.intro k5 (And.intro a5 v5))
      have hnk : pnk = n.kids.length := by obtain ⟨_, _, _, _, rs, h5, _⟩ := v5.out; exact h5
      subst hnk
      have hf := NormT_nf HF.out
      have hsz : n.size ≤ 200 ∧ n.ht ≤ 16 := by omega
      have hkl : n.kids.length ≤ 200 := by have := length_le_sizeL n.kids; have := n.size_eq; omega
      have HSZ := Lib.hid hsz
      have h0 : Hid (WiA w5 n.kids n.kids.length (.int .i64 1) (.int .i64 0) (.int .i64 0) w5) := ⟨0, rfl, rfl, rfl, Nat.zero_le _, rfl, Keep.refl _ _⟩
      clear k5 a5 v5 hf hsz K4 K3 K2 HN HM HC HZ
      go_loopg [6, 7, 8] n.kids.length (WiA w5 n.kids)
      case atStart => exact h0.out
      case round =>
        clear h0
        obtain ⟨i, rfl, rfl, rfl, hi, rfl, hk⟩ := hrel
        obtain ⟨pl, p0, p1, p2, p3⟩ := (hk.at_ H5.out.2.1 (fun x => x)).tcells
        by_cases hlt : i < n.kids.length
        · obtain ⟨kd, ⟨qk, qnm, qAn, qnn, qcn, qAk, qnk, qck⟩, b, o, hkd, hqv, hAk, hbz, _, c0, c1, c2, c3⟩ := (H5.out.2.2.step hk).kid (i := i) hlt
          simp only at hAk c0 c1 c2 c3
          subst hAk
          have hmem := List.mem_of_getElem? hkd
          have hkn := NormT_kid HF.out hmem
          have hnn := Norm_any (r := ⟨qk, qnm, qAn, qnn, qcn, qAk, qnk, qck⟩) (fun _ h => h.elim) ((H.out.2.2.2.step H5.out.1).step hk) hqv
          rw [hkn] at hnn
          unfold Tv.val at hnn
          simp only at hnn
          have hs1 : kd.size ≤ 200 ∧ kd.ht ≤ 16 := by have h1 := size_mem hmem; have h2 := ht_mem hmem; have h3 := n.size_eq; have h4 := n.ht_eq; have h5 := HSZ.out; omega
          have e1 : min kd.size 201 = kd.size := by omega
          have e2 : min kd.ht 17 = kd.ht := by omega
          have t1 := sizeL_take _ _ _ hkd
          have t2 := htL_ge _ _ _ hkd
          have t3 : 1 + sizeL (n.kids.take (i + 1)) ≤ 200 := by have h1 := sizeL_le n.kids (i + 1); have h3 := n.size_eq; have h5 := HSZ.out; omega
          have t4 := htL_take_le n.kids i
          have t5 : htL n.kids ≤ 16 := by have h4 := n.ht_eq; have h5 := HSZ.out; omega
          have HQ := Lib.hid (And.intro hk (And.intro hqv (And.intro e1 (And.intro e2 (And.intro t1 t2)))))
          have hb1 : 1 + sizeL (n.kids.take i) ≤ 200 := by omega
          have hb2 : htL (n.kids.take i) ≤ 16 := by omega
          have hb3 : kd.size ≤ 200 := hs1.1
          have hb4 : kd.ht ≤ 16 := hs1.2
          clear hk hkd hqv hmem hkn hs1 e1 e2 t1 t2 t3 t4 t5
          obtain ⟨sz, hsz⟩ : ∃ x, 1 + sizeL (n.kids.take i) = x := ⟨_, rfl⟩
          obtain ⟨hg, hhg⟩ : ∃ x, htL (n.kids.take i) = x := ⟨_, rfl⟩
          rw [hsz, hhg]
          rw [hsz] at hb1
          rw [hhg] at hb2
          have HE := Lib.hid (And.intro hsz hhg)
          clear hsz hhg
          have i0 : (0 : Int) ≤ (i : Int) := by omega
          have i1 : (i : Int) < (n.kids.length : Int) := by omega
          go_wp2_with (go_at_call 13; refine hnn.mono ?_; rintro e w6 ⟨⟨⟨rk, rnm, rAn, rnn, rcn, rAk, rnk, rck⟩, he, htr⟩, hk6⟩; simp only [Tv.val] at he; subst he; have K6 := Lib.hid (And.intro hk6 htr); clear hk6 hnn htr)
          have k7 : Keep (fun _ => False) wr (w6.alloc (.cells #[.int .i64 rk, .string rnm, .slice rAn rnn rcn, .slice rAk rnk rck] 25)) := K6.out.1.alloc _
          have a7 : At (w6.alloc (.cells #[.int .i64 rk, .string rnm, .slice rAn rnn rcn, .slice rAk rnk rck] 25)) w6.heap.size 25 #[.int .i64 rk, .string rnm, .slice rAn rnn rcn, .slice rAk rnk rck] := At.new _ _ _
          have v7 : TyV (w6.alloc (.cells #[.int .i64 rk, .string rnm, .slice rAn rnn rcn, .slice rAk rnk rck] 25)) nX ⟨rk, rnm, rAn, rnn, rcn, rAk, rnk, rck⟩ kd := K6.out.2.step ((Keep.refl _ w6).alloc _)
          have HK7 : Hid (∀ w', Keep (fun _ => False) (w6.alloc (.cells #[.int .i64 rk, .string rnm, .slice rAn rnn rcn, .slice rAk rnk rck] 25)) w' → (w6.heap.size < w'.heap.size ∧ w'.cell? ⟨w6.heap.size, 0, none⟩ = some (.int .i64 rk) ∧ w'.cell? ⟨w6.heap.size, 1, none⟩ = some (.string rnm) ∧ w'.cell? ⟨w6.heap.size, 2, none⟩ = some (.slice rAn rnn rcn) ∧ w'.cell? ⟨w6.heap.size, 3, none⟩ = some (.slice rAk rnk rck)) ∧ px < w'.heap.size ∧ w'.cell? ⟨px, 3, none⟩ = some (.slice (some ⟨b, o, none⟩) n.kids.length pck) ∧ b < w'.heap.size ∧ w'.cell? ⟨b, o + i * 4, none⟩ = some (.int .i64 qk) ∧ w'.cell? ⟨b, o + i * 4 + 1, none⟩ = some (.string qnm) ∧ w'.cell? ⟨b, o + i * 4 + 2, none⟩ = some (.slice qAn qnn qcn) ∧ w'.cell? ⟨b, o + i * 4 + 3, none⟩ = some (.slice qAk qnk qck)) := fun w' hk => by
            have kk := k7.trans hk (fun _ _ x => x)
            have hs := kk.size
            exact ⟨(hk.at_ a7 (fun x => x)).tcells, by omega, kk.cell p3 (fun x => x), by omega, kk.cell c0 (fun x => x), kk.cell c1 (fun x => x), kk.cell c2 (fun x => x), kk.cell c3 (fun x => x)⟩
          have HV := Lib.hid (And.intro k7 v7)
          clear k7 a7 v7 K6 pl p0 p1 p2 p3 hbz c0 c1 c2 c3
          generalize (w6.alloc (.cells #[.int .i64 rk, .string rnm, .slice rAn rnn rcn, .slice rAk rnk rck] 25)) = w7 at *
          generalize w6.heap.size = rx at *
          have hsm := same_any kd kd w7.drew ⟨rk, rnm, rAn, rnn, rcn, rAk, rnk, rck⟩ ⟨qk, qnm, qAn, qnn, qcn, qAk, qnk, qck⟩ (HV.out.2.step (Keep.refl _ w7).drew) (HQ.out.2.1.step (HV.out.1.trans (Keep.refl _ w7).drew (fun _ _ x => x)))
          rw [sameT_refl] at hsm
          unfold Tv.val at hsm
          simp only at hsm
          have hsx := HK7.out w7 (Keep.refl _ _)
          have f0 : ((0 : Int) != 0) = false := by decide
          go_region_held3 (fun w' => (rx < w'.heap.size ∧ w'.cell? ⟨rx, 0, none⟩ = some (.int .i64 rk) ∧ w'.cell? ⟨rx, 1, none⟩ = some (.string rnm) ∧ w'.cell? ⟨rx, 2, none⟩ = some (.slice rAn rnn rcn) ∧ w'.cell? ⟨rx, 3, none⟩ = some (.slice rAk rnk rck)) ∧ px < w'.heap.size ∧ w'.cell? ⟨px, 3, none⟩ = some (.slice (some ⟨b, o, none⟩) n.kids.length pck) ∧ b < w'.heap.size ∧ w'.cell? ⟨b, o + i * 4, none⟩ = some (.int .i64 qk) ∧ w'.cell? ⟨b, o + i * 4 + 1, none⟩ = some (.string qnm) ∧ w'.cell? ⟨b, o + i * 4 + 2, none⟩ = some (.slice qAn qnn qcn) ∧ w'.cell? ⟨b, o + i * 4 + 3, none⟩ = some (.slice qAk qnk qck))
            (first | exact hsx | exact HK7.out _ ((Keep.refl _ w7).drew.trans K8.out (fun _ _ x => x)))
            ((go_at_call 20; refine hsm.mono ?_; rintro e w8 ⟨rfl, hk8⟩; have K8 := Lib.hid hk8; clear hk8 hsm))
          have k8 : Keep (fun _ => False) w7 w8 := (Keep.refl _ w7).drew.trans K8.out (fun _ _ x => x)
          have HK8 := Lib.hid k8
          have HS : Hid (∀ w', Keep (fun _ => False) w7 w' → Calls Tryd.prog 16 #[.agg #[.int .i64 rk, .string rnm, .slice rAn rnn rcn, .slice rAk rnk rck]] w' fun e w'' => e = .returned (.int .i64 (kd.size : Nat)) ∧ Keep (fun _ => False) w' w'') := fun w' hk => by
            have := size_any kd w' ⟨rk, rnm, rAn, rnn, rcn, rAk, rnk, rck⟩ (HV.out.2.step hk)
            rw [HQ.out.2.2.1] at this
            exact this
          have HH : Hid (∀ w', Keep (fun _ => False) w7 w' → Calls Tryd.prog 18 #[.agg #[.int .i64 rk, .string rnm, .slice rAn rnn rcn, .slice rAk rnk rck]] w' fun e w'' => e = .returned (.int .i64 (kd.ht : Nat)) ∧ Keep (fun _ => False) w' w'') := fun w' hk => by
            have := Height_any (r := ⟨rk, rnm, rAn, rnn, rcn, rAk, rnk, rck⟩) (HV.out.2.step hk)
            rw [HQ.out.2.2.2.1] at this
            exact this
          obtain ⟨⟨rl, r0, r1, r2, r3⟩, _⟩ := HK7.out w8 k8
          have hs9 := HS.out w8 k8
          clear hsx k8 K8
          obtain ⟨ks, hks⟩ : ∃ x, kd.size = x := ⟨_, rfl⟩
          obtain ⟨kh, hkh⟩ : ∃ x, kd.ht = x := ⟨_, rfl⟩
          rw [hks] at HS hs9 hb3
          rw [hkh] at HH hb4
          have HKS := Lib.hid (And.intro hks hkh)
          clear hks hkh
          by_cases hgt : hg < kh
          all_goals
            first
              | (have dg : decide ((hg : Int) < (kh : Int)) = true := by simp; omega
                 have dg' : decide (hg < kh) = true := by simp; omega
                 have DG := Lib.hid hgt)
              | (have dg : decide ((hg : Int) < (kh : Int)) = false := by simp; omega
                 have dg' : decide (hg < kh) = false := by simp; omega
                 have DG := Lib.hid hgt)
            clear hgt
            go_wp2_with (first
              | (go_at_call 16; refine hs9.mono ?_; rintro e w9 ⟨rfl, hk9⟩; have k9 := HK8.out.trans hk9 (fun _ _ x => x); clear rl r0 r1 r2 r3; obtain ⟨⟨rl, r0, r1, r2, r3⟩, _⟩ := HK7.out w9 k9; have hh := HH.out w9 k9; have K9 := Lib.hid k9; clear hk9 k9 hs9)
              | (go_at_call 18; refine hh.mono ?_; rintro e wA ⟨rfl, hk9⟩; have k9 := K9.out.trans hk9 (fun _ _ x => x); clear rl r0 r1 r2 r3; obtain ⟨⟨rl, r0, r1, r2, r3⟩, _⟩ := HK7.out wA k9; have hh2 := HH.out wA k9; have KA := Lib.hid k9; clear hk9 k9 hh)
              | (go_at_call 18; refine hh2.mono ?_; rintro e wB ⟨rfl, hk9⟩; have KB := Lib.hid (KA.out.trans hk9 (fun _ _ x => x)); clear hk9 hh2))
            go_roundg (n.kids.length - (i + 1))
            case measure => omega
            case rel =>
              have a1 := HQ.out.2.2.2.2.1
              have a2 := HQ.out.2.2.2.2.2
              have a3 := HE.out
              have a4 := HKS.out
              have a5 := DG.out
              refine ⟨i + 1, int_eq (by omega), int_eq (by omega), by go_num, by omega, rfl, ?_⟩
              first
                | exact HQ.out.1.trans (HV.out.1.trans KB.out (fun _ _ x => x)) (fun _ _ x => x)
                | exact HQ.out.1.trans (HV.out.1.trans KA.out (fun _ _ x => x)) (fun _ _ x => x)
        · have hie : i = n.kids.length := by omega
          subst hie
          have e0 : n.kids.take n.kids.length = n.kids := List.take_length
          rw [e0]
          have e1 : 1 + sizeL n.kids = n.size := n.size_eq.symm
          have e2 : htL n.kids + 1 = n.ht := by have := n.ht_eq; omega
          rw [e1]
          have HV : Hid (∀ w', Keep (fun _ => False) wr w' → (px < w'.heap.size ∧ w'.cell? ⟨px, 0, none⟩ = some (.int .i64 pk) ∧ w'.cell? ⟨px, 1, none⟩ = some (.string pnm) ∧ w'.cell? ⟨px, 2, none⟩ = some (.slice pAn pnn pcn) ∧ w'.cell? ⟨px, 3, none⟩ = some (.slice pAk n.kids.length pck)) ∧ TyV w' nX ⟨pk, pnm, pAn, pnn, pcn, pAk, n.kids.length, pck⟩ n) := fun w' hk' => ⟨((hk.trans hk' (fun _ _ x => x)).at_ H5.out.2.1 (fun x => x)).tcells, H5.out.2.2.step (hk.trans hk' (fun _ _ x => x))⟩
          have hs := size_any n wr ⟨pk, pnm, pAn, pnn, pcn, pAk, n.kids.length, pck⟩ (H5.out.2.2.step hk)
          rw [show min n.size 201 = n.size by have := HSZ.out; omega] at hs
          have HH : Hid (∀ w', Keep (fun _ => False) wr w' → Calls Tryd.prog 18 #[.agg #[.int .i64 pk, .string pnm, .slice pAn pnn pcn, .slice pAk n.kids.length pck]] w' fun e w'' => e = .returned (.int .i64 (n.ht : Nat)) ∧ Keep (fun _ => False) w' w'') := fun w' hk' => by
            have := Height_any (r := ⟨pk, pnm, pAn, pnn, pcn, pAk, n.kids.length, pck⟩) (HV.out w' hk').2
            rw [show min n.ht 17 = n.ht by have := HSZ.out; omega] at this
            exact this
          unfold Tv.val at hs
          simp only at hs
          have hb1 : n.size ≤ 200 := HSZ.out.1
          have hb2 : htL n.kids ≤ 16 := by have := HSZ.out.2; omega
          have d1 : ((n.size : Int) == (n.size : Int)) = true := by simp
          have d2 : ((n.ht : Int) == (htL n.kids : Int) + 1) = true := by rw [beq_iff_eq]; omega
          have HKR := Lib.hid hk
          clear hk e0 e1 e2
          generalize n.size = sz at *
          generalize n.ht = nh at *
          generalize htL n.kids = hg at *
          go_wp2_with (first
            | (go_at_call 16; refine hs.mono ?_; rintro e w9 ⟨rfl, hk9⟩; clear pl p0 p1 p2 p3; obtain ⟨⟨pl, p0, p1, p2, p3⟩, _⟩ := HV.out w9 hk9; have hh := HH.out w9 hk9; have K9 := Lib.hid hk9; clear hk9 hs)
            | (go_at_call 18; refine hh.mono ?_; rintro e wA ⟨rfl, hk9⟩; have KA := Lib.hid (K9.out.trans hk9 (fun _ _ x => x)); clear hk9 hh))
          go_ret
          exact ⟨rfl, ((H.out.1.trans H5.out.1 (fun _ _ x => x)).trans HKR.out (fun _ _ x => x)).trans KA.out (fun _ _ x => x)⟩
end Go.Proofs.YtomhhpjpmlpijaaDoor
