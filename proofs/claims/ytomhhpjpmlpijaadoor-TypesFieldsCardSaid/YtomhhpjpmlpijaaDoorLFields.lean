/-
  Walk: graduslaw03.TypesFields. Conditions: the table strings.asciiSpace lies as the program lays it.
-/
import Derived.Test.YtomhhpjpmlpijaaDoorWAwake
import Derived.Test.YtomhhpjpmlpijaaDoorPLaw
import Derived.Test.YtomhhpjpmlpijaaDoorRRec
import Derived.Test.YtomhhpjpmlpijaaDoorWRRec
namespace Go.Proofs.YtomhhpjpmlpijaaDoor
open Go.RowKit

theorem turn_nat (a : Int) (n : Nat) (hn : 0 < n) (hb : n ≤ 140737488355328) : ∃ j : Nat, j < n ∧ (wrap64 (a.tmod n + n)).tmod n = j := by
  have hlt := Int.lt_tmod_of_pos a (show (0 : Int) < n by omega)
  have hgt := Int.tmod_lt_of_pos a (show (0 : Int) < n by omega)
  rw [show wrap64 (a.tmod n + n) = a.tmod n + n by unfold wrap64; omega]
  have h1 : (a.tmod n + n).tmod n < n := Int.tmod_lt_of_pos _ (by omega)
  have h0 : 0 ≤ a.tmod n + n := by
    have := Int.lt_tmod_of_pos a (show (0 : Int) < n by omega)
    omega
  have h2 : 0 ≤ (a.tmod n + n).tmod n := Int.tmod_nonneg _ h0
  exact ⟨((a.tmod n + n).tmod n).toNat, by omega, by omega⟩
set_option maxRecDepth 100000 in
set_option maxHeartbeats 60000000 in
theorem fields_law {W : World} {r : Tv} {t : Ty} (hT : Tab W) (h : TyV W nX r t) (a : Int) (ha1 : -9223372036854775808 ≤ a) (ha2 : a ≤ 9223372036854775807) :
    Calls Tryd.prog 8 #[r.val, .int .i64 a] W fun e w' => e = .returned (.bool true) ∧ Keep (fun _ => False) W w' := by
  obtain ⟨k, nm, An, nn, cn, Ak, nk, ck⟩ := r
  have hkk := h.knd
  have hnn := h.out.2.2.1
  have hnk : nk = t.kids.length := by obtain ⟨_, _, _, _, rs, h5, _⟩ := h.out; exact h5
  have hnb := h.out.1.2.1
  simp only at hkk hnn hnb
  have HK := Lib.hid (And.intro hkk (And.intro hnn hnk))
  clear hkk hnn hnk
  have kw : Keep (fun _ => False) W (W.alloc (.cells #[.int .i64 k, .string nm, .slice An nn cn, .slice Ak nk ck] 25)) := (Keep.refl _ W).alloc _
  have a0 : At (W.alloc (.cells #[.int .i64 k, .string nm, .slice An nn cn, .slice Ak nk ck] 25)) W.heap.size 25 #[.int .i64 k, .string nm, .slice An nn cn, .slice Ak nk ck] := At.new _ _ _
  have haw := awake_any (hT.step kw)
  have H := Lib.hid (And.intro kw (And.intro a0 (And.intro (h.step kw) (hT.step kw))))
  clear h hT kw a0
  unfold Tv.val
  simp only
  go_enter Tryd.func8, Tryd.ntmps8
  go_upto_region 1 with fail
  generalize (W.alloc (.cells #[.int .i64 k, .string nm, .slice An nn cn, .slice Ak nk ck] 25)) = w1 at *
  generalize W.heap.size = bx at *
  have HM : Hid (∀ w', Keep (fun _ => False) w1 w' → Calls Tryd.prog 12 #[.agg #[.int .i64 k, .string nm, .slice An nn cn, .slice Ak nk ck], .int .i64 (300 : Int)] w' fun e w'' => ∃ z : Nat, e = .returned (.int .i64 z) ∧ (z ≠ 0 → t.kids.length ≤ 300 ∧ t.names.length ≤ 1000) ∧ Keep (fun _ => False) w' w'') := fun w' hk => (small_any t w' ⟨k, nm, An, nn, cn, Ak, nk, ck⟩ 300 (by omega) (by omega) (H.out.2.2.1.step hk)).mono fun e w'' ⟨z, a, _, b, c⟩ => ⟨z, a, b, c⟩
  have HC : Hid (∀ w', Keep (fun _ => False) w1 w' → bx < w'.heap.size ∧ w'.cell? ⟨bx, 0, none⟩ = some (.int .i64 k) ∧ w'.cell? ⟨bx, 1, none⟩ = some (.string nm) ∧ w'.cell? ⟨bx, 2, none⟩ = some (.slice An nn cn) ∧ w'.cell? ⟨bx, 3, none⟩ = some (.slice Ak nk ck)) := fun w' hk => (hk.at_ H.out.2.1 (fun x => x)).tcells
  by_cases hc : t.kind = 5 ∧ t.names.length = t.kids.length ∧ 2 ≤ t.kids.length
  · obtain ⟨h5, hlen, h2⟩ := hc
    have hnk2 : nn = nk := by have := HK.out; omega
    subst hnk2
    have d1 : (k != 5) = false := by rw [HK.out.1, h5]; rfl
    have d2 : ((nn : Int) != (nn : Int)) = false := by simp
    have d3 : decide ((nn : Int) < 2) = false := by have := HK.out; simp; omega
    have d3' : decide (nn < 2) = false := by have := HK.out; simp; omega
    have hn0 : 0 < nn := by have := HK.out; omega
    obtain ⟨j, hj, hja⟩ := turn_nat a nn hn0 hnb
    have HT := Lib.hid (And.intro h5 (And.intro hlen h2))
    have HA := Lib.hid (And.intro ha1 ha2)
    clear h5 hlen h2 ha1 ha2
    go_upto_region 7 with (first | (go_at_call 11; refine haw.mono ?_; rintro e w2 ⟨rfl, hk⟩; obtain ⟨xl, x0, x1, x2, x3⟩ := HC.out w2 hk; have hm := HM.out w2 hk; have K2 := Lib.hid hk; clear hk haw) | (go_at_call 12; refine hm.mono ?_; rintro e w3 ⟨z, rfl, hz, hk⟩; have HZ := Lib.hid hz; have k3 := K2.out.trans hk (fun _ _ x => x); clear xl x0 x1 x2 x3; obtain ⟨xl, x0, x1, x2, x3⟩ := HC.out w3 k3; have K3 := Lib.hid k3; clear hk hm k3 hz))
    · go_ret
      exact ⟨rfl, H.out.1.trans K3.out (fun _ _ x => x)⟩
    · have hz0 : z ≠ 0 := by
        rintro rfl
        simp_all
      have hz300 := (HZ.out hz0).1
      have hnn300 : nn ≤ 300 := by have := HK.out; have := HT.out; omega
      clear hz0 hz300 xl x0 x1 x2 x3
      have k4 : Keep (fun _ => False) w3 (w3.alloc (.cells #[.int .i64 5, .string nm, .slice none 0 0, .slice none 0 0] 25)) := (Keep.refl _ w3).alloc _
      have x4 : At (w3.alloc (.cells #[.int .i64 5, .string nm, .slice none 0 0, .slice none 0 0] 25)) bx 25 #[.int .i64 k, .string nm, .slice An nn cn, .slice Ak nn ck] := (K3.out.at_ H.out.2.1 (fun x => x)).alloc _
      have u4 : At (w3.alloc (.cells #[.int .i64 5, .string nm, .slice none 0 0, .slice none 0 0] 25)) w3.heap.size 25 #[.int .i64 5, .string nm, .slice none 0 0, .slice none 0 0] := At.new _ _ _
      have hv4 : TyV (w3.alloc (.cells #[.int .i64 5, .string nm, .slice none 0 0, .slice none 0 0] 25)) (fun g => g = w3.heap.size) ⟨k, nm, An, nn, cn, Ak, nn, ck⟩ t := (H.out.2.2.1.step K3.out).keep k4 (fun _ _ x => x.elim) (fun i hi e => absurd e (Nat.ne_of_lt hi))
      generalize (w3.alloc (.cells #[.int .i64 5, .string nm, .slice none 0 0, .slice none 0 0] 25)) = w4 at *
      obtain ⟨ub, hub⟩ : ∃ ub, w3.heap.size = ub := ⟨_, rfl⟩
      rw [hub] at u4 hv4 ⊢
      have HUB := Lib.hid hub
      clear hub
      obtain ⟨-, -, hn4, hr4, rs, hk4, hkr4, hvs4⟩ := hv4.out
      simp only at hn4 hr4 hk4 hkr4
      obtain ⟨s0, hs0⟩ : ∃ s0, t.names[0]? = some s0 := ⟨_, List.getElem?_eq_getElem (by omega)⟩
      obtain ⟨kd0, hkd0⟩ : ∃ kd0, rs[0]? = some kd0 := ⟨_, List.getElem?_eq_getElem (by have := hkr4.nlen; omega)⟩
      obtain ⟨ab, ao, hAn, _⟩ := hr4.scell hn0 hs0
      obtain ⟨kb, ko, hAk, _⟩ := hkr4.tcells hn0 hkd0
      subst hAn hAk
      have hcn : nn ≤ cn := by obtain ⟨_, A0, c0, hv0, hc0, _⟩ := hr4; simp only [Value.slice.injEq, true_and] at hv0; omega
      have hck : nn ≤ ck := by obtain ⟨_, A0, c0, hv0, hc0, _⟩ := hkr4; simp only [Value.slice.injEq, true_and] at hv0; omega
      have hbu : bx ≠ ub := by have := (K3.out.at_ H.out.2.1 (fun x => x)).lt; have := HUB.out; omega
      have HL := Lib.hid (And.intro hn4 (And.intro hk4 hvs4))
      have HR := Lib.hid (And.intro hr4 hkr4)
      have HU := Lib.hid u4
      have HX := Lib.hid (And.intro k4 x4)
      have KB := Lib.hid (Keep.refl (fun g => g = ub) w4)
      have j0 : (0 : Int) ≤ (j : Int) := by omega
      have j1 : (j : Int) ≤ (nn : Int) := by omega
      have j2 : (nn : Int) ≤ (cn : Int) := by omega
      have j3 : (nn : Int) ≤ (ck : Int) := by omega
      have j4 : (j : Int) ≤ (cn : Int) := by omega
      have j5 : (j : Int) ≤ (ck : Int) := by omega
      have jc : ¬ cn = j := by omega
      have jd : ¬ ck = j := by omega
      have HSK : Hid (∀ w', Keep (fun g => g = ub) w4 w' → bx < w'.heap.size ∧ w'.cell? ⟨bx, 2, none⟩ = some (.slice (some ⟨ab, ao, none⟩) nn cn) ∧ w'.cell? ⟨bx, 3, none⟩ = some (.slice (some ⟨kb, ko, none⟩) nn ck)) := fun w' hk => by
        obtain ⟨a, _, _, b, c⟩ := (hk.at_ HX.out.2 hbu).tcells
        exact ⟨a, b, c⟩
      have hsx := HSK.out w4.drew (Keep.refl _ _).drew
      clear hn4 hr4 hk4 hkr4 hvs4 u4 k4 x4 hv4 hs0 hkd0 hcn hck hja hbu
      go_region_held3 (fun w' => bx < w'.heap.size ∧ w'.cell? ⟨bx, 2, none⟩ = some (.slice (some ⟨ab, ao, none⟩) nn cn) ∧ w'.cell? ⟨bx, 3, none⟩ = some (.slice (some ⟨kb, ko, none⟩) nn ck))
        (first | exact hsx | exact HSK.out _ (KB.out.drew.trans (A1.out.keep.mono (fun _ _ x => x.elim)) (fun _ _ x => x)) | exact HSK.out _ (KB.out.drew.trans (A2.out.keep.mono (fun _ _ x => x.elim)) (fun _ _ x => x)) | exact HSK.out _ (KB.out.drew.trans (Keep.setCell (X := fun g => g = ub) (p := ⟨ub, 2, none⟩) (A2.out.keep.mono (fun _ _ x => x.elim)) (.inl rfl) _) (fun _ _ x => x)))
        (first
          | (refine step_app_rd rfl (.const (.slice none 0 0)) (.tmp 54) 22 rfl E9 (.slice none 0 0) 0 [] rfl (World.ownsRow_nil _ 0 9 1) (.slice (some ⟨ab, ao + j, none⟩) (nn - j) (cn - j)) (nn - j) ((strs t.names).drop (j * 1)) rfl ((HR.out.1.cutS (o' := ao + j) hj (by omega)).keep (Y := fun g => g = ub) KB.out.drew (fun _ x => x)) (fun u hu => strs_one _ u (List.mem_of_mem_drop hu)) (by omega) (by decide) ?_; intro v1 w5 ho hk hn; rw [show 0 + (nn - j) = nn - j by omega] at ho; have A1 := Lib.hid (App.next (wb := w4.drew) (w := w4.drew) ⟨World.ownsRow_nil _ 0 9 1, Keep.refl _ _, fun g hg => by simp [Value.ownBlock] at hg⟩ (Keep.refl _ _) ho hk hn); clear ho hk hn)
          | (refine step_app_rd rfl (.tmp 55) (.tmp 59) 22 rfl E9 v1 (nn - j) ([] ++ (strs t.names).drop (j * 1)) rfl A1.out.own (.slice (some ⟨ab, ao, none⟩) j cn) j ((strs t.names).take (j * 1)) rfl ((HR.out.1.cutL (Nat.le_of_lt hj)).keep (Y := fun g => g = ub) (KB.out.drew.trans (A1.out.keep.mono (fun _ _ x => x.elim)) (fun _ _ x => x)) (fun _ x => x)) (fun u hu => strs_one _ u (List.mem_of_mem_take hu)) (by omega) (by decide) ?_; intro v2 w6 ho hk hn; rw [show nn - j + j = nn by omega] at ho; have A2 := App.next A1.out (Keep.refl _ _) ho hk hn; obtain ⟨N2, c2, rfl⟩ := own_slice A2.own; obtain ⟨ul, u0, u1, u2, u3⟩ := (A2.keep.at_ HU.out.drew (fun x => x)).tcells; have uf2 := (A2.keep.at_ HU.out.drew (fun x => x)).frozen 2; have uf3 := (A2.keep.at_ HU.out.drew (fun x => x)).frozen 3; have A2 := Lib.hid A2; clear ho hk hn))
      go_upto_region 8 with fail
      refine gen_w ?_
      intro w7 hw7
      have kA : Keep (fun g => g = ub) w4 w6 := (Keep.refl _ w4).drew.trans (A2.out.keep.mono (fun _ _ x => x.elim)) (fun _ _ x => x)
      have uA := A2.out.keep.at_ HU.out.drew (fun x => x)
      have hne : (Value.slice N2 nn c2).ownBlock ≠ some ub := own_at A2.out.own uA (by decide)
      have k7 : Keep (fun g => g = ub) w4 w7 := by rw [hw7]; exact Keep.setCell (X := fun g => g = ub) (p := ⟨ub, 2, none⟩) kA (.inl rfl) _
      have u7 : At w7 ub 25 #[.int .i64 5, .string nm, .slice N2 nn c2, .slice none 0 0] := by rw [hw7]; exact uA.set 2 _
      have n7 : w7.ownsRow 0 9 1 (.slice N2 nn c2) nn ([] ++ (strs t.names).drop (j * 1) ++ (strs t.names).take (j * 1)) := by rw [hw7]; exact ownsRow_setCell_ne A2.out.own (a := ⟨ub, 2, none⟩) hne _
      clear hsx ul u0 u1 u2 u3 uf2 uf3 KB HU kA uA A1 A2 hw7
      have KB := Lib.hid k7
      have HU := Lib.hid u7
      have HN7 := Lib.hid (And.intro n7 hne)
      have hsx := HSK.out w7.drew k7.drew
      clear k7 u7 n7 hne
      go_region_held3 (fun w' => bx < w'.heap.size ∧ w'.cell? ⟨bx, 2, none⟩ = some (.slice (some ⟨ab, ao, none⟩) nn cn) ∧ w'.cell? ⟨bx, 3, none⟩ = some (.slice (some ⟨kb, ko, none⟩) nn ck))
        (first | exact hsx | exact HSK.out _ (KB.out.drew.trans (A1.out.keep.mono (fun _ _ x => x.elim)) (fun _ _ x => x)) | exact HSK.out _ (KB.out.drew.trans (A2.out.keep.mono (fun _ _ x => x.elim)) (fun _ _ x => x)) | exact HSK.out _ (KB.out.drew.trans (Keep.setCell (X := fun g => g = ub) (p := ⟨ub, 3, none⟩) (A2.out.keep.mono (fun _ _ x => x.elim)) (.inl rfl) _) (fun _ _ x => x)))
        (first
          | (refine step_app_rd rfl (.const (.slice none 0 0)) (.tmp 65) 23 rfl E25 (.slice none 0 0) 0 [] rfl (World.ownsRow_nil _ 0 25 4) (.slice (some ⟨kb, ko + j * 4, none⟩) (nn - j) (ck - j)) (nn - j) ((tflat rs).drop (j * 4)) rfl ((HR.out.2.cutS (o' := ko + j * 4) hj (by omega)).keep (Y := fun g => g = ub) KB.out.drew (fun _ x => x)) (fun u hu => tflat_one _ u (List.mem_of_mem_drop hu)) (by omega) (by decide) ?_; intro v1 w5 ho hk hn; rw [show 0 + (nn - j) = nn - j by omega] at ho; have A1 := Lib.hid (App.next (wb := w7.drew) (w := w7.drew) ⟨World.ownsRow_nil _ 0 25 4, Keep.refl _ _, fun g hg => by simp [Value.ownBlock] at hg⟩ (Keep.refl _ _) ho hk hn); clear ho hk hn)
          | (refine step_app_rd rfl (.tmp 66) (.tmp 70) 23 rfl E25 v1 (nn - j) ([] ++ (tflat rs).drop (j * 4)) rfl A1.out.own (.slice (some ⟨kb, ko, none⟩) j ck) j ((tflat rs).take (j * 4)) rfl ((HR.out.2.cutL (Nat.le_of_lt hj)).keep (Y := fun g => g = ub) (KB.out.drew.trans (A1.out.keep.mono (fun _ _ x => x.elim)) (fun _ _ x => x)) (fun _ x => x)) (fun u hu => tflat_one _ u (List.mem_of_mem_take hu)) (by omega) (by decide) ?_; intro v2 w6 ho hk hn; rw [show nn - j + j = nn by omega] at ho; have A2 := App.next A1.out (Keep.refl _ _) ho hk hn; obtain ⟨M2, d2, rfl⟩ := own_slice A2.own; obtain ⟨ul, u0, u1, u2, u3⟩ := (A2.keep.at_ HU.out.drew (fun x => x)).tcells; have uf2 := (A2.keep.at_ HU.out.drew (fun x => x)).frozen 2; have uf3 := (A2.keep.at_ HU.out.drew (fun x => x)).frozen 3; have A2 := Lib.hid A2; clear ho hk hn))
      go_upto_region 9 with fail
      refine gen_w ?_
      intro w9 hw9
      have uA := A2.out.keep.at_ HU.out.drew (fun x => x)
      have hne2 : (Value.slice M2 nn d2).ownBlock ≠ some ub := fun e => by have h1 := A2.out.new ub e; have h2 := HU.out.drew.lt; omega
      have k9 : Keep (fun g => g = ub) w4 w9 := by rw [hw9]; exact Keep.setCell (X := fun g => g = ub) (p := ⟨ub, 3, none⟩) (KB.out.drew.trans (A2.out.keep.mono (fun _ _ x => x.elim)) (fun _ _ x => x)) (.inl rfl) _
      have u9 : At w9 ub 25 #[.int .i64 5, .string nm, .slice N2 nn c2, .slice M2 nn d2] := by rw [hw9]; exact uA.set 3 _
      have n9 : w9.ownsRow 0 9 1 (.slice N2 nn c2) nn ([] ++ (strs t.names).drop (j * 1) ++ (strs t.names).take (j * 1)) := by rw [hw9]; exact ownsRow_setCell_ne (A2.out.keep.own (show w7.drew.ownsRow 0 9 1 (.slice N2 nn c2) nn _ from HN7.out.1) (fun _ _ x => x)) (a := ⟨ub, 3, none⟩) HN7.out.2 _
      have m9 : w9.ownsRow 0 25 4 (.slice M2 nn d2) nn ([] ++ (tflat rs).drop (j * 4) ++ (tflat rs).take (j * 4)) := by rw [hw9]; exact ownsRow_setCell_ne A2.out.own (a := ⟨ub, 3, none⟩) hne2 _
      have kk9 : Keep (fun _ => False) w3 w9 := HX.out.1.trans k9 (fun i hi e => by have := HUB.out; omega)
      have hvt : TyV w9 nX ⟨k, nm, some ⟨ab, ao, none⟩, nn, cn, some ⟨kb, ko, none⟩, nn, ck⟩ t := H.out.2.2.1.step (K3.out.trans kk9 (fun _ _ x => x))
      have x9 := (K3.out.trans kk9 (fun _ _ x => x)).at_ H.out.2.1 (fun x => x)
      have e1 : ([] ++ (strs t.names).drop (j * 1) ++ (strs t.names).take (j * 1)) = strs (t.names.drop j ++ t.names.take j) := by simp [strs, List.map_take, List.map_drop]
      have e2 : ([] ++ (tflat rs).drop (j * 4) ++ (tflat rs).take (j * 4)) = tflat (rs.drop j ++ rs.take j) := by rw [tflat_take, tflat_drop, tflat_append]; simp
      rw [e1] at n9
      rw [e2] at m9
      have hty := HL.out.2.2.keep (Z := nX) k9 (fun _ _ x => x) (fun _ _ x => x.elim)
      have l1 : nn = (t.names.drop j ++ t.names.take j).length := by have := HK.out; simp only [List.length_append, List.length_drop, List.length_take]; omega
      have l2 : nn = (t.kids.drop j ++ t.kids.take j).length := by have := HK.out; simp only [List.length_append, List.length_drop, List.length_take]; omega
      have hvu : TyV w9 nX ⟨5, nm, N2, nn, c2, M2, nn, d2⟩ (.mk 5 nm (t.names.drop j ++ t.names.take j) (t.kids.drop j ++ t.kids.take j)) :=
        TyV.mk (t := .mk 5 nm (t.names.drop j ++ t.names.take j) (t.kids.drop j ++ t.kids.take j)) (rs := rs.drop j ++ rs.take j) ⟨rfl, by simp only; omega, by simp only; omega⟩ rfl l1 (Rd.of_own n9 (fun _ _ x => x)) l2 (Rd.of_own m9 (fun _ _ x => x)) ((hty.drop j).append (hty.take j))
      have heq : NormT (.mk 5 nm (t.names.drop j ++ t.names.take j) (t.kids.drop j ++ t.kids.take j)) = NormT t := by
        have := fields_turn (nm := t.name) (nm' := nm) (n1 := t.names.take j) (n2 := t.names.drop j) (k1 := t.kids.take j) (k2 := t.kids.drop j) (by have := HT.out; simp; omega) (by have := HT.out; simp; omega)
        rw [List.take_append_drop, List.take_append_drop] at this
        rw [← this]
        congr 1
        exact Ty.ext' HT.out.1.symm rfl rfl rfl
      have hT9 : Tab w9 := H.out.2.2.2.step (K3.out.trans kk9 (fun _ _ x => x))
      have hn1 := Norm_any (r := ⟨k, nm, some ⟨ab, ao, none⟩, nn, cn, some ⟨kb, ko, none⟩, nn, ck⟩) (fun _ h => h.elim) hT9 hvt
      have HN2 : Hid (∀ w', Keep (fun _ => False) w9 w' → Calls Tryd.prog 13 #[.agg #[.int .i64 5, .string nm, .slice N2 nn c2, .slice M2 nn d2]] w' fun e w'' => NormP nX (NormT t) e w'' ∧ Keep (fun _ => False) w' w'') := fun w' hk => by
        have := Norm_any (r := ⟨5, nm, N2, nn, c2, M2, nn, d2⟩) (fun _ h => h.elim) (hT9.step hk) (hvu.step hk)
        rw [heq] at this
        exact this
      have HU9 := Lib.hid u9
      have HK9 := Lib.hid kk9
      obtain ⟨xl, x0, x1, x2, x3⟩ := x9.tcells
      unfold Tv.val at hn1
      simp only at hn1
      clear j0 j1 j2 j3 j4 j5 jc jd hn0 hj l1 l2 hw9 uA hne2 k9 u9 n9 m9 kk9 hvt x9 e1 e2 hty hvu heq hT9 hsx ul u0 u1 u2 u3 uf2 uf3 KB HU A1 A2 HN7
      cases hno : NormT t with
      | none =>
        rw [hno] at hn1 HN2
        clear hno
        have hs0 : Hid (∀ w', Calls Tryd.prog 20 #[.agg #[.int .i64 0, .string ⟨#[]⟩, .slice none 0 0, .slice none 0 0], .agg #[.int .i64 0, .string ⟨#[]⟩, .slice none 0 0, .slice none 0 0]] w' fun e w'' => e = .returned (.bool true) ∧ Keep (fun _ => False) w' w'') := fun w' => by
          have := same_any ty0 ty0 w' tv0 tv0 (TyV.zero w' nX) (TyV.zero w' nX)
          rw [sameT_refl] at this
          exact this
        go_wp2_with (first
          | (go_at_call 13; refine hn1.mono ?_; rintro e wA ⟨he, hkA⟩; unfold NormP at he; simp only [Tv.val, tv0] at he; subst he; obtain ⟨ul, u0, u1, u2, u3⟩ := (hkA.at_ HU9.out (fun x => x)).tcells; have hn2 := HN2.out (wA.alloc (.cells #[.int .i64 0, .string ⟨#[]⟩, .slice none 0 0, .slice none 0 0] 25)) (hkA.alloc _); have KA := Lib.hid hkA; clear hkA hn1)
          | (go_at_call 13; refine hn2.mono ?_; rintro e wB ⟨he, hkB⟩; unfold NormP at he; simp only [Tv.val, tv0] at he; subst he; obtain ⟨al, a0, a1, a2, a3⟩ := (hkB.at_ (At.new wA 25 #[.int .i64 0, .string ⟨#[]⟩, .slice none 0 0, .slice none 0 0]) (fun x => x)).tcells; have hs := hs0.out (wB.alloc (.cells #[.int .i64 0, .string ⟨#[]⟩, .slice none 0 0, .slice none 0 0] 25)); have KK := Lib.hid hkB; clear hkB hn2)
          | (go_at_call 20; refine hs.mono ?_; rintro e wC ⟨rfl, hkC⟩; have KC := Lib.hid hkC; clear hkC hs))
        go_ret
        exact ⟨rfl, ((((H.out.1.trans K3.out (fun _ _ x => x)).trans HK9.out (fun _ _ x => x)).trans (KA.out.alloc _) (fun _ _ x => x)).trans (KK.out.alloc _) (fun _ _ x => x)).trans KC.out (fun _ _ x => x)⟩
      | some n =>
        rw [hno] at hn1 HN2
        clear hno
        go_wp2_with (first
          | (go_at_call 13; refine hn1.mono ?_; rintro e wA ⟨⟨⟨pk, pnm, pAn, pnn, pcn, pAk, pnk, pck⟩, he, hva⟩, hkA⟩; simp only [Tv.val] at he; subst he; obtain ⟨ul, u0, u1, u2, u3⟩ := (hkA.at_ HU9.out (fun x => x)).tcells; have hn2 := HN2.out (wA.alloc (.cells #[.int .i64 pk, .string pnm, .slice pAn pnn pcn, .slice pAk pnk pck] 25)) (hkA.alloc _); have KA := Lib.hid (And.intro hkA hva); clear hkA hn1 hva)
          | (go_at_call 13; refine hn2.mono ?_; rintro e wB ⟨⟨⟨qk, qnm, qAn, qnn, qcn, qAk, qnk, qck⟩, he, hvb⟩, hkB⟩; simp only [Tv.val] at he; subst he; obtain ⟨al, a0, a1, a2, a3⟩ := (hkB.at_ (At.new wA 25 #[.int .i64 pk, .string pnm, .slice pAn pnn pcn, .slice pAk pnk pck]) (fun x => x)).tcells; have hs := same_any n n (wB.alloc (.cells #[.int .i64 qk, .string qnm, .slice qAn qnn qcn, .slice qAk qnk qck] 25)) ⟨pk, pnm, pAn, pnn, pcn, pAk, pnk, pck⟩ ⟨qk, qnm, qAn, qnn, qcn, qAk, qnk, qck⟩ (KA.out.2.step (((Keep.refl _ wA).alloc (.cells #[.int .i64 pk, .string pnm, .slice pAn pnn pcn, .slice pAk pnk pck] 25)).trans (hkB.alloc _) (fun _ _ x => x))) (hvb.step ((Keep.refl _ wB).alloc _)); rw [sameT_refl] at hs; unfold Tv.val at hs; simp only at hs; have KK := Lib.hid hkB; clear hkB hn2 hvb)
          | (go_at_call 20; refine hs.mono ?_; rintro e wC ⟨rfl, hkC⟩; have KC := Lib.hid hkC; clear hkC hs))
        go_ret
        exact ⟨rfl, ((((H.out.1.trans K3.out (fun _ _ x => x)).trans HK9.out (fun _ _ x => x)).trans (KA.out.1.alloc _) (fun _ _ x => x)).trans (KK.out.alloc _) (fun _ _ x => x)).trans KC.out (fun _ _ x => x)⟩
  · have HNC := Lib.hid hc
    clear hc
    by_cases h5 : k = 5
    all_goals by_cases hnn : nn = nk
    all_goals by_cases h2 : nk < 2
    all_goals
      first
        | (exfalso; exact HNC.out (by have := HK.out; omega))
        | (first | (have d1 : (k != 5) = true := by simpa using h5) | (have d1 : (k != 5) = false := by simpa using h5)
           first | (have d2 : ((nn : Int) != (nk : Int)) = true := by simp; omega) | (have d2 : ((nn : Int) != (nk : Int)) = false := by simp; omega)
           first | (have d3 : decide ((nk : Int) < 2) = true := by simp; omega) | (have d3 : decide ((nk : Int) < 2) = false := by simp; omega)
           first | (have d3' : decide (nk < 2) = true := by simp; omega) | (have d3' : decide (nk < 2) = false := by simp; omega)
           clear h5 hnn h2
           go_wp2_with (first | (go_at_call 11; refine haw.mono ?_; rintro e w2 ⟨rfl, hk⟩; obtain ⟨xl, x0, x1, x2, x3⟩ := HC.out w2 hk; have hm := HM.out w2 hk; have K2 := Lib.hid hk; clear hk haw) | (go_at_call 12; refine hm.mono ?_; rintro e w3 ⟨z, rfl, hz, hk⟩; have HZ := Lib.hid hz; have k3 := K2.out.trans hk (fun _ _ x => x); clear xl x0 x1 x2 x3; obtain ⟨xl, x0, x1, x2, x3⟩ := HC.out w3 k3; have K3 := Lib.hid k3; clear hk hm k3 hz))
           all_goals go_ret
           all_goals exact ⟨rfl, H.out.1.trans K3.out (fun _ _ x => x)⟩)
end Go.Proofs.YtomhhpjpmlpijaaDoor
