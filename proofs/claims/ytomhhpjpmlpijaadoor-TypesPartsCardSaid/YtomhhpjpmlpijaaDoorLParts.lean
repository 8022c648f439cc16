/-
  Walk: graduslaw03.TypesParts. Conditions: the table strings.asciiSpace lies as the program lays it.
-/
import Derived.Test.YtomhhpjpmlpijaaDoorWAwake
import Derived.Test.YtomhhpjpmlpijaaDoorWMem
namespace Go.Proofs.YtomhhpjpmlpijaaDoor
open Go.RowKit

def fnd (l : List Ty) (a : Int) : Bool := l.any fun x => decide (tagT x = a)
def PaA (w : World) (ks : List Ty) (tag : Int) (k : Nat) (a b : Value) (wr : World) : Prop :=
  ∃ i : Nat, a = .bool (fnd (ks.take i) tag) ∧ b = .int .i64 i ∧ i ≤ ks.length ∧ k = ks.length - i ∧ Keep (fun _ => False) w wr
theorem fnd_next {ks : List Ty} {i : Nat} {k : Ty} {a : Int} (h : ks[i]? = some k) : fnd (ks.take (i + 1)) a = (fnd (ks.take i) a || decide (tagT k = a)) := by
  unfold fnd
  rw [List.take_add_one, h]
  simp
theorem fnd_no {n : Ty} (hn : NF n) (h7 : n.kind = 7) {a : Int} (h : memT n a = none) {k : Ty} (hk : k ∈ n.kids) : tagT k ≠ a := fun e => by
  rw [memT_uni hn h7 hk e] at h
  cases h
theorem fnd_yes {n m : Ty} (h7 : n.kind = 7) {a : Int} (h : memT n a = some m) : fnd n.kids a = true := by
  unfold memT atoms at h
  rw [if_pos h7] at h
  split at h
  · cases h
  · have h1 := List.mem_of_find?_eq_some h
    have h2 := List.find?_some h
    unfold fnd
    rw [List.any_eq_true]
    exact ⟨m, h1, h2⟩
theorem fnd_none {n : Ty} (hn : NF n) (h7 : n.kind = 7) {a : Int} (h : memT n a = none) (i : Nat) : fnd (n.kids.take i) a = false := by
  unfold fnd
  rw [List.any_eq_false]
  intro x hx
  simpa using fnd_no hn h7 h (List.mem_of_mem_take hx)
set_option maxRecDepth 100000 in
set_option maxHeartbeats 8000000 in
theorem parts_law {W : World} {r : Tv} {t : Ty} (hT : Tab W) (h : TyV W nX r t) (a : Int) (_ : -9223372036854775808 ≤ a) (_ : a ≤ 9223372036854775807) :
    Calls Tryd.prog 10 #[r.val, .int .i64 a] W fun e w' => e = .returned (.bool true) ∧ Keep (fun _ => False) W w' := by
  obtain ⟨k, nm, An, nn, cn, Ak, nk, ck⟩ := r
  have kw : Keep (fun _ => False) W (W.alloc (.cells #[.int .i64 k, .string nm, .slice An nn cn, .slice Ak nk ck] 25)) := (Keep.refl _ W).alloc _
  have a0 : At (W.alloc (.cells #[.int .i64 k, .string nm, .slice An nn cn, .slice Ak nk ck] 25)) W.heap.size 25 #[.int .i64 k, .string nm, .slice An nn cn, .slice Ak nk ck] := At.new _ _ _
  have haw := awake_any (hT.step kw)
  have H := Lib.hid (And.intro kw (And.intro a0 (And.intro (h.step kw) (hT.step kw))))
  clear h hT kw a0
  unfold Tv.val
  simp only
  go_enter Tryd.func10, Tryd.ntmps10
  go_upto_region 1 with fail
  generalize (W.alloc (.cells #[.int .i64 k, .string nm, .slice An nn cn, .slice Ak nk ck] 25)) = w1 at *
  generalize W.heap.size = bx at *
  have HM : Hid (∀ w', Keep (fun _ => False) w1 w' → Calls Tryd.prog 12 #[.agg #[.int .i64 k, .string nm, .slice An nn cn, .slice Ak nk ck], .int .i64 (300 : Int)] w' fun e w'' => ∃ z : Nat, e = .returned (.int .i64 z) ∧ (z ≠ 0 → t.kids.length ≤ 300 ∧ t.names.length ≤ 1000) ∧ Keep (fun _ => False) w' w'') := fun w' hk => (small_any t w' ⟨k, nm, An, nn, cn, Ak, nk, ck⟩ 300 (by omega) (by omega) (H.out.2.2.1.step hk)).mono fun e w'' ⟨z, a, _, b, c⟩ => ⟨z, a, b, c⟩
  have HC : Hid (∀ w', Keep (fun _ => False) w1 w' → bx < w'.heap.size ∧ w'.cell? ⟨bx, 0, none⟩ = some (.int .i64 k) ∧ w'.cell? ⟨bx, 1, none⟩ = some (.string nm) ∧ w'.cell? ⟨bx, 2, none⟩ = some (.slice An nn cn) ∧ w'.cell? ⟨bx, 3, none⟩ = some (.slice Ak nk ck)) := fun w' hk => (hk.at_ H.out.2.1 (fun x => x)).tcells
  have HN : Hid (∀ w', Keep (fun _ => False) w1 w' → Calls Tryd.prog 13 #[.agg #[.int .i64 k, .string nm, .slice An nn cn, .slice Ak nk ck]] w' fun e w'' => NormP nX (NormT t) e w'' ∧ Keep (fun _ => False) w' w'') := fun w' hk => Norm_any (r := ⟨k, nm, An, nn, cn, Ak, nk, ck⟩) (fun _ h => h.elim) (H.out.2.2.2.step hk) (H.out.2.2.1.step hk)
  cases hno : NormT t with
  | none =>
    rw [hno] at HN
    clear hno
    go_wp2_with (first | (go_at_call 11; refine haw.mono ?_; rintro e w2 ⟨rfl, hk⟩; obtain ⟨xl, x0, x1, x2, x3⟩ := HC.out w2 hk; have hm := HM.out w2 hk; have K2 := Lib.hid hk; clear hk haw) | (go_at_call 12; refine hm.mono ?_; rintro e w3 ⟨z, rfl, hz, hk⟩; have HZ := Lib.hid hz; have k3 := K2.out.trans hk (fun _ _ x => x); clear xl x0 x1 x2 x3; obtain ⟨xl, x0, x1, x2, x3⟩ := HC.out w3 k3; have hn := HN.out w3 k3; have K3 := Lib.hid k3; clear hk hm k3 hz) | (go_at_call 13; refine hn.mono ?_; rintro e w4 ⟨he, hk⟩; unfold NormP at he; simp only [Tv.val, tv0] at he; subst he; have K4 := Lib.hid (K3.out.trans hk (fun _ _ x => x)); clear hk hn))
    all_goals go_ret
    all_goals first
      | exact ⟨rfl, (H.out.1.trans K4.out (fun _ _ x => x)).alloc _⟩
      | exact ⟨rfl, H.out.1.trans K3.out (fun _ _ x => x)⟩
  | some n =>
    rw [hno] at HN
    have hnf := (NormT_nf hno).1
    have HF := Lib.hid hnf
    clear hno
    by_cases h7 : n.kind = 7
    · have HD7 : Hid (∀ x : Int, x = n.kind → (x != 7) = false) := fun x e => by rw [e, h7]; rfl
      have H7 := Lib.hid h7
      clear h7
      cases hm : memT n a with
      | none =>
        have HMT := Lib.hid hm
        clear hm
        go_wp2_with (first | (go_at_call 11; refine haw.mono ?_; rintro e w2 ⟨rfl, hk⟩; obtain ⟨xl, x0, x1, x2, x3⟩ := HC.out w2 hk; have hm := HM.out w2 hk; have K2 := Lib.hid hk; clear hk haw) | (go_at_call 12; refine hm.mono ?_; rintro e w3 ⟨z, rfl, hz, hk⟩; have HZ := Lib.hid hz; have k3 := K2.out.trans hk (fun _ _ x => x); clear xl x0 x1 x2 x3; obtain ⟨xl, x0, x1, x2, x3⟩ := HC.out w3 k3; have hn := HN.out w3 k3; have K3 := Lib.hid k3; clear hk hm k3 hz) | (go_at_call 13; refine hn.mono ?_; rintro e w4 ⟨⟨⟨pk, pnm, pAn, pnn, pcn, pAk, pnk, pck⟩, he, htp⟩, hk⟩; simp only [Tv.val] at he; subst he; have hme := Member_any (X := nX) (r := ⟨pk, pnm, pAn, pnn, pcn, pAk, pnk, pck⟩) (fun _ h => h.elim) (htp.step ((Keep.refl _ w4).alloc (.cells #[.int .i64 pk, .string pnm, .slice pAn pnn pcn, .slice pAk pnk pck] 25))) a; rw [HMT.out] at hme; unfold Tv.val at hme; simp only at hme; have d7 := HD7.out pk htp.knd; have K4 := Lib.hid (And.intro (K3.out.trans hk (fun _ _ x => x)) htp); clear hk hn htp) | (go_at_call 23; refine hme.mono ?_; rintro e w6 ⟨⟨⟨mk, mnm, mAn, mnn, mcn, mAk, mnk, mck⟩, he⟩, hk6⟩; simp only [Tv.val] at he; subst he; obtain ⟨pl, p0, p1, p2, p3⟩ := (hk6.at_ (At.new w4 25 #[.int .i64 pk, .string pnm, .slice pAn pnn pcn, .slice pAk pnk pck]) (fun x => x)).tcells; have K6 := Lib.hid (And.intro hk6 trivial); clear hk6 hme))
        · go_ret
          exact ⟨rfl, H.out.1.trans K3.out (fun _ _ x => x)⟩
        · have k8 : Keep (fun _ => False) w1 (w6.alloc (.cells #[.int .i64 mk, .string mnm, .slice mAn mnn mcn, .slice mAk mnk mck] 25)) := (K4.out.1.alloc _).trans (K6.out.1.alloc _) (fun _ _ x => x)
          have a8 : At (w6.alloc (.cells #[.int .i64 mk, .string mnm, .slice mAn mnn mcn, .slice mAk mnk mck] 25)) w4.heap.size 25 #[.int .i64 pk, .string pnm, .slice pAn pnn pcn, .slice pAk pnk pck] := (K6.out.1.at_ (At.new w4 _ _) (fun x => x)).alloc _
          have b8 : At (w6.alloc (.cells #[.int .i64 mk, .string mnm, .slice mAn mnn mcn, .slice mAk mnk mck] 25)) w6.heap.size 25 #[.int .i64 mk, .string mnm, .slice mAn mnn mcn, .slice mAk mnk mck] := At.new _ _ _
          have v8 : TyV (w6.alloc (.cells #[.int .i64 mk, .string mnm, .slice mAn mnn mcn, .slice mAk mnk mck] 25)) nX ⟨pk, pnm, pAn, pnn, pcn, pAk, pnk, pck⟩ n := K4.out.2.step (((Keep.refl _ w4).alloc _).trans (K6.out.1.alloc _) (fun _ _ x => x))
          have hnk : pnk = n.kids.length := by obtain ⟨_, _, _, _, rs, h5, _⟩ := v8.out; exact h5
          subst hnk
          have hkb : n.kids.length ≤ 140737488355328 := v8.out.1.2.2
          clear xl x0 x1 x2 x3 pl p0 p1 p2 p3 d7
          generalize (w6.alloc (.cells #[.int .i64 mk, .string mnm, .slice mAn mnn mcn, .slice mAk mnk mck] 25)) = w8 at *
          generalize w4.heap.size = px at *
          generalize w6.heap.size = mx at *
          have H8 := Lib.hid (And.intro k8 (And.intro a8 (And.intro b8 (And.intro v8 trivial))))
          have h0 : Hid (PaA w8 n.kids a n.kids.length (.bool false) (.int .i64 0) w8) := ⟨0, rfl, rfl, Nat.zero_le _, rfl, Keep.refl _ _⟩
          clear k8 a8 b8 v8
          go_loopg [10, 11] n.kids.length (PaA w8 n.kids a)
          case atStart => exact h0.out
          case round =>
            clear h0
            obtain ⟨i, rfl, rfl, hi, rfl, hk⟩ := hrel
            obtain ⟨pl, p0, p1, p2, p3⟩ := (hk.at_ H8.out.2.1 (fun x => x)).tcells
            obtain ⟨ml, m0, m1, m2, m3⟩ := (hk.at_ H8.out.2.2.1 (fun x => x)).tcells
            by_cases hlt : i < n.kids.length
            · obtain ⟨kd, ⟨qk, qnm, qAn, qnn, qcn, qAk, qnk, qck⟩, b, o, hkd, hqv, hAk, hbz, _, c0, c1, c2, c3⟩ := (H8.out.2.2.2.1.step hk).kid (i := i) hlt
              simp only at hAk c0 c1 c2 c3
              subst hAk
              have htk := tag_any hqv
              unfold Tv.val at htk
              simp only at htk
              have HQ := Lib.hid (And.intro hk (And.intro hkd hqv))
              have i0 : (0 : Int) ≤ (i : Int) := by omega
              have i1 : (i : Int) < (n.kids.length : Int) := by omega
              clear hk hkd hqv
              have hne : tagT kd ≠ a := fnd_no HF.out H7.out HMT.out (List.mem_of_getElem? HQ.out.2.1)
              have dt : (tagT kd == a) = false := by rw [beq_eq_false_iff_ne]; exact hne
              have hnx : fnd (n.kids.take (i + 1)) a = fnd (n.kids.take i) a := by rw [fnd_next HQ.out.2.1]; simp [hne]
              have HNX := Lib.hid hnx
              clear hnx hne
              generalize fnd (n.kids.take i) a = fb at *
              generalize tagT kd = tg at *
              go_wp2_with (go_at_call 24; refine htk.mono ?_; rintro e w9 ⟨rfl, hk9⟩; have K9 := Lib.hid hk9; clear hk9 htk)
              go_roundg (n.kids.length - (i + 1))
              case measure => omega
              case rel => exact ⟨i + 1, by rw [HNX.out], by go_num, by omega, rfl, HQ.out.1.trans K9.out (fun _ _ x => x)⟩
            · have hie : i = n.kids.length := by omega
              have hfd : fnd (n.kids.take i) a = false := by rw [hie, List.take_length]; exact by have := fnd_none HF.out H7.out HMT.out n.kids.length; rwa [List.take_length] at this
              have htm1 : tagT n = -1 := tagT_out (.inr (by have := H7.out; omega))
              have htg := tag_any (H8.out.2.2.2.1.step hk)
              rw [htm1] at htg
              unfold Tv.val at htg
              simp only at htg
              have HK := Lib.hid hk
              clear hk hie htm1
              rw [hfd]
              go_wp2_with (go_at_call 24; refine htg.mono ?_; rintro e w9 ⟨rfl, hk9⟩; have K9 := Lib.hid hk9; clear hk9 htg)
              go_ret
              exact ⟨rfl, ((H.out.1.trans H8.out.1 (fun _ _ x => x)).trans HK.out (fun _ _ x => x)).trans K9.out (fun _ _ x => x)⟩
      | some m =>
        have HMT := Lib.hid hm
        clear hm
        go_wp2_with (first | (go_at_call 11; refine haw.mono ?_; rintro e w2 ⟨rfl, hk⟩; obtain ⟨xl, x0, x1, x2, x3⟩ := HC.out w2 hk; have hm := HM.out w2 hk; have K2 := Lib.hid hk; clear hk haw) | (go_at_call 12; refine hm.mono ?_; rintro e w3 ⟨z, rfl, hz, hk⟩; have HZ := Lib.hid hz; have k3 := K2.out.trans hk (fun _ _ x => x); clear xl x0 x1 x2 x3; obtain ⟨xl, x0, x1, x2, x3⟩ := HC.out w3 k3; have hn := HN.out w3 k3; have K3 := Lib.hid k3; clear hk hm k3 hz) | (go_at_call 13; refine hn.mono ?_; rintro e w4 ⟨⟨⟨pk, pnm, pAn, pnn, pcn, pAk, pnk, pck⟩, he, htp⟩, hk⟩; simp only [Tv.val] at he; subst he; have hme := Member_any (X := nX) (r := ⟨pk, pnm, pAn, pnn, pcn, pAk, pnk, pck⟩) (fun _ h => h.elim) (htp.step ((Keep.refl _ w4).alloc (.cells #[.int .i64 pk, .string pnm, .slice pAn pnn pcn, .slice pAk pnk pck] 25))) a; rw [HMT.out] at hme; unfold Tv.val at hme; simp only at hme; have d7 := HD7.out pk htp.knd; have K4 := Lib.hid (And.intro (K3.out.trans hk (fun _ _ x => x)) htp); clear hk hn htp) | (go_at_call 23; refine hme.mono ?_; rintro e w6 ⟨⟨⟨mk, mnm, mAn, mnn, mcn, mAk, mnk, mck⟩, he, htm⟩, hk6⟩; simp only [Tv.val] at he; subst he; obtain ⟨pl, p0, p1, p2, p3⟩ := (hk6.at_ (At.new w4 25 #[.int .i64 pk, .string pnm, .slice pAn pnn pcn, .slice pAk pnk pck]) (fun x => x)).tcells; have K6 := Lib.hid (And.intro hk6 htm); clear hk6 hme htm))
        · go_ret
          exact ⟨rfl, H.out.1.trans K3.out (fun _ _ x => x)⟩
        · have k8 : Keep (fun _ => False) w1 (w6.alloc (.cells #[.int .i64 mk, .string mnm, .slice mAn mnn mcn, .slice mAk mnk mck] 25)) := (K4.out.1.alloc _).trans (K6.out.1.alloc _) (fun _ _ x => x)
          have a8 : At (w6.alloc (.cells #[.int .i64 mk, .string mnm, .slice mAn mnn mcn, .slice mAk mnk mck] 25)) w4.heap.size 25 #[.int .i64 pk, .string pnm, .slice pAn pnn pcn, .slice pAk pnk pck] := (K6.out.1.at_ (At.new w4 _ _) (fun x => x)).alloc _
          have b8 : At (w6.alloc (.cells #[.int .i64 mk, .string mnm, .slice mAn mnn mcn, .slice mAk mnk mck] 25)) w6.heap.size 25 #[.int .i64 mk, .string mnm, .slice mAn mnn mcn, .slice mAk mnk mck] := At.new _ _ _
          have v8 : TyV (w6.alloc (.cells #[.int .i64 mk, .string mnm, .slice mAn mnn mcn, .slice mAk mnk mck] 25)) nX ⟨pk, pnm, pAn, pnn, pcn, pAk, pnk, pck⟩ n := K4.out.2.step (((Keep.refl _ w4).alloc _).trans (K6.out.1.alloc _) (fun _ _ x => x))
          have m8 : TyV (w6.alloc (.cells #[.int .i64 mk, .string mnm, .slice mAn mnn mcn, .slice mAk mnk mck] 25)) nX ⟨mk, mnm, mAn, mnn, mcn, mAk, mnk, mck⟩ m := K6.out.2.step ((Keep.refl _ w6).alloc _)
          have hnk : pnk = n.kids.length := by obtain ⟨_, _, _, _, rs, h5, _⟩ := v8.out; exact h5
          subst hnk
          have hkb : n.kids.length ≤ 140737488355328 := v8.out.1.2.2
          clear xl x0 x1 x2 x3 pl p0 p1 p2 p3 d7
          generalize (w6.alloc (.cells #[.int .i64 mk, .string mnm, .slice mAn mnn mcn, .slice mAk mnk mck] 25)) = w8 at *
          generalize w4.heap.size = px at *
          generalize w6.heap.size = mx at *
          have H8 := Lib.hid (And.intro k8 (And.intro a8 (And.intro b8 (And.intro v8 m8))))
          have h0 : Hid (PaA w8 n.kids a n.kids.length (.bool false) (.int .i64 0) w8) := ⟨0, rfl, rfl, Nat.zero_le _, rfl, Keep.refl _ _⟩
          clear k8 a8 b8 v8 m8
          go_loopg [10, 11] n.kids.length (PaA w8 n.kids a)
          case atStart => exact h0.out
          case round =>
            clear h0
            obtain ⟨i, rfl, rfl, hi, rfl, hk⟩ := hrel
            obtain ⟨pl, p0, p1, p2, p3⟩ := (hk.at_ H8.out.2.1 (fun x => x)).tcells
            obtain ⟨ml, m0, m1, m2, m3⟩ := (hk.at_ H8.out.2.2.1 (fun x => x)).tcells
            by_cases hlt : i < n.kids.length
            · obtain ⟨kd, ⟨qk, qnm, qAn, qnn, qcn, qAk, qnk, qck⟩, b, o, hkd, hqv, hAk, hbz, _, c0, c1, c2, c3⟩ := (H8.out.2.2.2.1.step hk).kid (i := i) hlt
              simp only at hAk c0 c1 c2 c3
              subst hAk
              have htk := tag_any hqv
              unfold Tv.val at htk
              simp only at htk
              have HQ := Lib.hid (And.intro hk (And.intro hkd hqv))
              have i0 : (0 : Int) ≤ (i : Int) := by omega
              have i1 : (i : Int) < (n.kids.length : Int) := by omega
              clear hk hkd hqv
              by_cases hne : tagT kd = a
              · have hmk : m = kd := Option.some.inj (HMT.out.symm.trans (memT_uni HF.out H7.out (List.mem_of_getElem? HQ.out.2.1) hne))
                have dt : (tagT kd == a) = true := by rw [beq_iff_eq]; exact hne
                have hnx : fnd (n.kids.take (i + 1)) a = true := by rw [fnd_next HQ.out.2.1]; simp [hne]
                have hsm : Hid (∀ w', Keep (fun _ => False) wr w' → Calls Tryd.prog 20 #[.agg #[.int .i64 mk, .string mnm, .slice mAn mnn mcn, .slice mAk mnk mck], .agg #[.int .i64 qk, .string qnm, .slice qAn qnn qcn, .slice qAk qnk qck]] w' fun e w'' => e = .returned (.bool true) ∧ Keep (fun _ => False) w' w'') := fun w' hk' => by
                  have h1 := H8.out.2.2.2.2.step (HQ.out.1.trans hk' (fun _ _ x => x))
                  rw [hmk] at h1
                  have := same_any kd kd w' ⟨mk, mnm, mAn, mnn, mcn, mAk, mnk, mck⟩ ⟨qk, qnm, qAn, qnn, qcn, qAk, qnk, qck⟩ h1 (HQ.out.2.2.step hk')
                  rw [sameT_refl] at this
                  exact this
                have HSK : Hid (∀ w', Keep (fun _ => False) wr w' → (mx < w'.heap.size ∧ w'.cell? ⟨mx, 0, none⟩ = some (.int .i64 mk) ∧ w'.cell? ⟨mx, 1, none⟩ = some (.string mnm) ∧ w'.cell? ⟨mx, 2, none⟩ = some (.slice mAn mnn mcn) ∧ w'.cell? ⟨mx, 3, none⟩ = some (.slice mAk mnk mck)) ∧ px < w'.heap.size ∧ w'.cell? ⟨px, 3, none⟩ = some (.slice (some ⟨b, o, none⟩) n.kids.length pck) ∧ b < w'.heap.size ∧ w'.cell? ⟨b, o + i * 4, none⟩ = some (.int .i64 qk) ∧ w'.cell? ⟨b, o + i * 4 + 1, none⟩ = some (.string qnm) ∧ w'.cell? ⟨b, o + i * 4 + 2, none⟩ = some (.slice qAn qnn qcn) ∧ w'.cell? ⟨b, o + i * 4 + 3, none⟩ = some (.slice qAk qnk qck)) := fun w' hk' => by
                  have hs := hk'.size
                  exact ⟨(hk'.at_ (HQ.out.1.at_ H8.out.2.2.1 (fun x => x)) (fun x => x)).tcells, by omega, hk'.cell p3 (fun x => x), by omega, hk'.cell c0 (fun x => x), hk'.cell c1 (fun x => x), hk'.cell c2 (fun x => x), hk'.cell c3 (fun x => x)⟩
                have HNX := Lib.hid hnx
                clear hnx hmk hne
                generalize fnd (n.kids.take i) a = fb at *
                generalize tagT kd = tg at *
                go_wp2_with (go_at_call 24; refine htk.mono ?_; rintro e w9 ⟨rfl, hk9⟩; have hsx := HSK.out w9 hk9; have hs9 := hsm.out w9.drew hk9.drew; have K9 := Lib.hid hk9; clear hk9 htk)
                clear pl p0 p1 p2 p3 ml m0 m1 m2 m3 hbz c0 c1 c2 c3
                go_region_held3 (fun w' => (mx < w'.heap.size ∧ w'.cell? ⟨mx, 0, none⟩ = some (.int .i64 mk) ∧ w'.cell? ⟨mx, 1, none⟩ = some (.string mnm) ∧ w'.cell? ⟨mx, 2, none⟩ = some (.slice mAn mnn mcn) ∧ w'.cell? ⟨mx, 3, none⟩ = some (.slice mAk mnk mck)) ∧ px < w'.heap.size ∧ w'.cell? ⟨px, 3, none⟩ = some (.slice (some ⟨b, o, none⟩) n.kids.length pck) ∧ b < w'.heap.size ∧ w'.cell? ⟨b, o + i * 4, none⟩ = some (.int .i64 qk) ∧ w'.cell? ⟨b, o + i * 4 + 1, none⟩ = some (.string qnm) ∧ w'.cell? ⟨b, o + i * 4 + 2, none⟩ = some (.slice qAn qnn qcn) ∧ w'.cell? ⟨b, o + i * 4 + 3, none⟩ = some (.slice qAk qnk qck))
                  (first | exact hsx | exact HSK.out _ (K9.out.drew.trans KA.out (fun _ _ x => x)))
                  ((go_at_call 20; refine hs9.mono ?_; rintro e wA ⟨rfl, hkA⟩; have KA := Lib.hid hkA; clear hkA hs9))
                go_wp2_with fail
                go_roundg (n.kids.length - (i + 1))
                case measure => omega
                case rel => exact ⟨i + 1, by rw [HNX.out], by go_num, by omega, rfl, HQ.out.1.trans (K9.out.drew.trans KA.out (fun _ _ x => x)) (fun _ _ x => x)⟩
              · have dt : (tagT kd == a) = false := by rw [beq_eq_false_iff_ne]; exact hne
                have hnx : fnd (n.kids.take (i + 1)) a = fnd (n.kids.take i) a := by rw [fnd_next HQ.out.2.1]; simp [hne]
                have HNX := Lib.hid hnx
                clear hnx hne
                generalize fnd (n.kids.take i) a = fb at *
                generalize tagT kd = tg at *
                go_wp2_with (go_at_call 24; refine htk.mono ?_; rintro e w9 ⟨rfl, hk9⟩; have K9 := Lib.hid hk9; clear hk9 htk)
                go_roundg (n.kids.length - (i + 1))
                case measure => omega
                case rel => exact ⟨i + 1, by rw [HNX.out], by go_num, by omega, rfl, HQ.out.1.trans K9.out (fun _ _ x => x)⟩
            · have hie : i = n.kids.length := by omega
              have hfd : fnd (n.kids.take i) a = true := by rw [hie, List.take_length]; exact fnd_yes H7.out HMT.out
              have htm1 : tagT n = -1 := tagT_out (.inr (by have := H7.out; omega))
              have htg := tag_any (H8.out.2.2.2.1.step hk)
              rw [htm1] at htg
              unfold Tv.val at htg
              simp only at htg
              have HK := Lib.hid hk
              clear hk hie htm1
              rw [hfd]
              go_wp2_with (go_at_call 24; refine htg.mono ?_; rintro e w9 ⟨rfl, hk9⟩; have K9 := Lib.hid hk9; clear hk9 htg)
              go_ret
              exact ⟨rfl, ((H.out.1.trans H8.out.1 (fun _ _ x => x)).trans HK.out (fun _ _ x => x)).trans K9.out (fun _ _ x => x)⟩
    · have HD7 : Hid (∀ x : Int, x = n.kind → (x != 7) = true) := fun x e => by rw [e]; simpa using h7
      have hm1 := memT_one h7 a
      clear h7
      by_cases hy : 0 ≤ a ∧ tagT n = a
      · rw [if_pos hy] at hm1
        have da : decide (0 ≤ a) = true := by simpa using hy.1
        have dt : (a == tagT n) = true := by rw [beq_iff_eq]; exact hy.2.symm
        have HMT := Lib.hid hm1
        clear hm1 hy
        have HTN : Hid (tagT n = tagT n) := rfl
        go_wp2_with (first | (go_at_call 11; refine haw.mono ?_; rintro e w2 ⟨rfl, hk⟩; obtain ⟨xl, x0, x1, x2, x3⟩ := HC.out w2 hk; have hm := HM.out w2 hk; have K2 := Lib.hid hk; clear hk haw) | (go_at_call 12; refine hm.mono ?_; rintro e w3 ⟨z, rfl, hz, hk⟩; have HZ := Lib.hid hz; have k3 := K2.out.trans hk (fun _ _ x => x); clear xl x0 x1 x2 x3; obtain ⟨xl, x0, x1, x2, x3⟩ := HC.out w3 k3; have hn := HN.out w3 k3; have K3 := Lib.hid k3; clear hk hm k3 hz) | (go_at_call 13; refine hn.mono ?_; rintro e w4 ⟨⟨⟨pk, pnm, pAn, pnn, pcn, pAk, pnk, pck⟩, he, htp⟩, hk⟩; simp only [Tv.val] at he; subst he; have hme := Member_any (X := nX) (r := ⟨pk, pnm, pAn, pnn, pcn, pAk, pnk, pck⟩) (fun _ h => h.elim) (htp.step ((Keep.refl _ w4).alloc (.cells #[.int .i64 pk, .string pnm, .slice pAn pnn pcn, .slice pAk pnk pck] 25))) a; rw [HMT.out] at hme; unfold Tv.val at hme; simp only at hme; have d7 := HD7.out pk htp.knd; have K4 := Lib.hid (And.intro (K3.out.trans hk (fun _ _ x => x)) htp); clear hk hn htp) | (go_at_call 23; refine hme.mono ?_; rintro e w6 ⟨⟨⟨mk, mnm, mAn, mnn, mcn, mAk, mnk, mck⟩, he, htm⟩, hk6⟩; simp only [Tv.val] at he; subst he; obtain ⟨pl, p0, p1, p2, p3⟩ := (hk6.at_ (At.new w4 25 #[.int .i64 pk, .string pnm, .slice pAn pnn pcn, .slice pAk pnk pck]) (fun x => x)).tcells; have htg := tag_any (K4.out.2.step (((Keep.refl _ w4).alloc (.cells #[.int .i64 pk, .string pnm, .slice pAn pnn pcn, .slice pAk pnk pck] 25)).trans (hk6.alloc (.cells #[.int .i64 mk, .string mnm, .slice mAn mnn mcn, .slice mAk mnk mck] 25)) (fun _ _ x => x))); unfold Tv.val at htg; simp only at htg; have K6 := Lib.hid (And.intro hk6 htm); clear hk6 hme htm) | (go_at_call 24; refine htg.mono ?_; rintro e w7 ⟨rfl, hk7⟩; obtain ⟨pl', p0', p1', p2', p3'⟩ := (hk7.at_ ((K6.out.1.at_ (At.new w4 25 #[.int .i64 pk, .string pnm, .slice pAn pnn pcn, .slice pAk pnk pck]) (fun x => x)).alloc (.cells #[.int .i64 mk, .string mnm, .slice mAn mnn mcn, .slice mAk mnk mck] 25)) (fun x => x)).tcells; obtain ⟨ml, m0, m1, m2, m3⟩ := (hk7.at_ (At.new w6 25 #[.int .i64 mk, .string mnm, .slice mAn mnn mcn, .slice mAk mnk mck]) (fun x => x)).tcells; have hsm := same_any n n w7 ⟨mk, mnm, mAn, mnn, mcn, mAk, mnk, mck⟩ ⟨pk, pnm, pAn, pnn, pcn, pAk, pnk, pck⟩ (K6.out.2.step (((Keep.refl _ w6).alloc (.cells #[.int .i64 mk, .string mnm, .slice mAn mnn mcn, .slice mAk mnk mck] 25)).trans hk7 (fun _ _ x => x))) (K4.out.2.step (((Keep.refl _ w4).alloc (.cells #[.int .i64 pk, .string pnm, .slice pAn pnn pcn, .slice pAk pnk pck] 25)).trans ((K6.out.1.alloc (.cells #[.int .i64 mk, .string mnm, .slice mAn mnn mcn, .slice mAk mnk mck] 25)).trans hk7 (fun _ _ x => x)) (fun _ _ x => x))); rw [sameT_refl] at hsm; unfold Tv.val at hsm; simp only at hsm; have K7 := Lib.hid hk7; clear hk7 htg) | (go_at_call 20; refine hsm.mono ?_; rintro e w8 ⟨rfl, hk8⟩; have K8 := Lib.hid hk8; clear hk8 hsm))
        all_goals go_ret
        all_goals first
          | exact ⟨rfl, ((((H.out.1.trans K4.out.1 (fun _ _ x => x)).alloc _).trans (K6.out.1.alloc _) (fun _ _ x => x)).trans K7.out (fun _ _ x => x)).trans K8.out (fun _ _ x => x)⟩
          | exact ⟨rfl, H.out.1.trans K3.out (fun _ _ x => x)⟩
      · rw [if_neg hy] at hm1
        by_cases ha : a < 0
        · have da : decide (0 ≤ a) = false := by simpa using ha
          have HMT := Lib.hid hm1
          clear hm1 hy ha
          go_wp2_with (first | (go_at_call 11; refine haw.mono ?_; rintro e w2 ⟨rfl, hk⟩; obtain ⟨xl, x0, x1, x2, x3⟩ := HC.out w2 hk; have hm := HM.out w2 hk; have K2 := Lib.hid hk; clear hk haw) | (go_at_call 12; refine hm.mono ?_; rintro e w3 ⟨z, rfl, hz, hk⟩; have HZ := Lib.hid hz; have k3 := K2.out.trans hk (fun _ _ x => x); clear xl x0 x1 x2 x3; obtain ⟨xl, x0, x1, x2, x3⟩ := HC.out w3 k3; have hn := HN.out w3 k3; have K3 := Lib.hid k3; clear hk hm k3 hz) | (go_at_call 13; refine hn.mono ?_; rintro e w4 ⟨⟨⟨pk, pnm, pAn, pnn, pcn, pAk, pnk, pck⟩, he, htp⟩, hk⟩; simp only [Tv.val] at he; subst he; have hme := Member_any (X := nX) (r := ⟨pk, pnm, pAn, pnn, pcn, pAk, pnk, pck⟩) (fun _ h => h.elim) (htp.step ((Keep.refl _ w4).alloc (.cells #[.int .i64 pk, .string pnm, .slice pAn pnn pcn, .slice pAk pnk pck] 25))) a; rw [HMT.out] at hme; unfold Tv.val at hme; simp only at hme; have d7 := HD7.out pk htp.knd; have K4 := Lib.hid (And.intro (K3.out.trans hk (fun _ _ x => x)) htp); clear hk hn htp) | (go_at_call 23; refine hme.mono ?_; rintro e w6 ⟨⟨⟨mk, mnm, mAn, mnn, mcn, mAk, mnk, mck⟩, he⟩, hk6⟩; simp only [Tv.val] at he; subst he; obtain ⟨pl, p0, p1, p2, p3⟩ := (hk6.at_ (At.new w4 25 #[.int .i64 pk, .string pnm, .slice pAn pnn pcn, .slice pAk pnk pck]) (fun x => x)).tcells; have K6 := Lib.hid (And.intro hk6 trivial); clear hk6 hme))
          all_goals go_ret
          all_goals first
            | exact ⟨rfl, ((H.out.1.trans K4.out.1 (fun _ _ x => x)).alloc _).trans (K6.out.1.alloc _) (fun _ _ x => x)⟩
            | exact ⟨rfl, H.out.1.trans K3.out (fun _ _ x => x)⟩
        · have da : decide (0 ≤ a) = true := by simpa using ha
          have dt : (a == tagT n) = false := by rw [beq_eq_false_iff_ne]; exact fun e => hy ⟨by omega, e.symm⟩
          have HMT := Lib.hid hm1
          clear hm1 hy ha
          have HTN : Hid (tagT n = tagT n) := rfl
          go_wp2_with (first | (go_at_call 11; refine haw.mono ?_; rintro e w2 ⟨rfl, hk⟩; obtain ⟨xl, x0, x1, x2, x3⟩ := HC.out w2 hk; have hm := HM.out w2 hk; have K2 := Lib.hid hk; clear hk haw) | (go_at_call 12; refine hm.mono ?_; rintro e w3 ⟨z, rfl, hz, hk⟩; have HZ := Lib.hid hz; have k3 := K2.out.trans hk (fun _ _ x => x); clear xl x0 x1 x2 x3; obtain ⟨xl, x0, x1, x2, x3⟩ := HC.out w3 k3; have hn := HN.out w3 k3; have K3 := Lib.hid k3; clear hk hm k3 hz) | (go_at_call 13; refine hn.mono ?_; rintro e w4 ⟨⟨⟨pk, pnm, pAn, pnn, pcn, pAk, pnk, pck⟩, he, htp⟩, hk⟩; simp only [Tv.val] at he; subst he; have hme := Member_any (X := nX) (r := ⟨pk, pnm, pAn, pnn, pcn, pAk, pnk, pck⟩) (fun _ h => h.elim) (htp.step ((Keep.refl _ w4).alloc (.cells #[.int .i64 pk, .string pnm, .slice pAn pnn pcn, .slice pAk pnk pck] 25))) a; rw [HMT.out] at hme; unfold Tv.val at hme; simp only at hme; have d7 := HD7.out pk htp.knd; have K4 := Lib.hid (And.intro (K3.out.trans hk (fun _ _ x => x)) htp); clear hk hn htp) | (go_at_call 23; refine hme.mono ?_; rintro e w6 ⟨⟨⟨mk, mnm, mAn, mnn, mcn, mAk, mnk, mck⟩, he⟩, hk6⟩; simp only [Tv.val] at he; subst he; obtain ⟨pl, p0, p1, p2, p3⟩ := (hk6.at_ (At.new w4 25 #[.int .i64 pk, .string pnm, .slice pAn pnn pcn, .slice pAk pnk pck]) (fun x => x)).tcells; have htg := tag_any (K4.out.2.step (((Keep.refl _ w4).alloc (.cells #[.int .i64 pk, .string pnm, .slice pAn pnn pcn, .slice pAk pnk pck] 25)).trans (hk6.alloc (.cells #[.int .i64 mk, .string mnm, .slice mAn mnn mcn, .slice mAk mnk mck] 25)) (fun _ _ x => x))); unfold Tv.val at htg; simp only at htg; have K6 := Lib.hid (And.intro hk6 trivial); clear hk6 hme) | (go_at_call 24; refine htg.mono ?_; rintro e w7 ⟨rfl, hk7⟩; have K7 := Lib.hid hk7; clear hk7 htg))
          all_goals go_ret
          all_goals first
            | exact ⟨rfl, (((H.out.1.trans K4.out.1 (fun _ _ x => x)).alloc _).trans (K6.out.1.alloc _) (fun _ _ x => x)).trans K7.out (fun _ _ x => x)⟩
            | exact ⟨rfl, H.out.1.trans K3.out (fun _ _ x => x)⟩
end Go.Proofs.YtomhhpjpmlpijaaDoor
