/-
  Walks: types.Member, its closure, slices.IndexFunc. Conditions: none.
-/
import Derived.Test.YtomhhpjpmlpijaaDoorWRSame
import Derived.Test.YtomhhpjpmlpijaaDoorNormB
import Derived.Test.YtomhhpjpmlpijaaDoorPLaw
import Derived.Test.YtomhhpjpmlpijaaDoorRRec
namespace Go.Proofs.YtomhhpjpmlpijaaDoor
open Go.RowKit

theorem find_at {l : List Ty} {p : Ty → Bool} {i : Nat} {k : Ty} (h : l[i]? = some k) (hp : p k = true) (hb : ∀ x ∈ l.take i, p x = false) : l.find? p = some k := by
  induction l generalizing i with
  | nil => simp at h
  | cons a l ih =>
    cases i with
    | zero =>
      simp only [List.getElem?_cons_zero, Option.some.injEq] at h
      subst h
      simp [hp]
    | succ i =>
      have h1 := hb a (by simp)
      simp only [List.find?_cons, h1]
      exact ih (by simpa using h) fun x hx => hb x (by simp [hx])
set_option maxRecDepth 100000 in
set_option maxHeartbeats 2000000 in
theorem memfn_any {w : World} {X : Nat → Prop} {r : Tv} {t : Ty} (h : TyV w X r t) {tb : Nat} {tag : Int} (ht : w.cell? ⟨tb, 0, none⟩ = some (.int .i64 tag)) (hl : tb < w.heap.size) :
    Calls Tryd.prog 35 #[r.val, .pointer (some ⟨tb, 0, none⟩)] w fun e w' => e = .returned (.bool (decide (tagT t = tag))) ∧ Keep (fun _ => False) w w' := by
  obtain ⟨k, nm, An, nn, cn, Ak, nk, ck⟩ := r
  have kw : Keep (fun _ => False) w (w.alloc (.cells #[.int .i64 k, .string nm, .slice An nn cn, .slice Ak nk ck] 25)) := (Keep.refl _ w).alloc _
  have a0 : At (w.alloc (.cells #[.int .i64 k, .string nm, .slice An nn cn, .slice Ak nk ck] 25)) w.heap.size 25 #[.int .i64 k, .string nm, .slice An nn cn, .slice Ak nk ck] := At.new _ _ _
  have htg := tag_any (h.step kw.drew)
  have ht1 := kw.cell ht (fun x => x)
  have hl1 := Nat.lt_of_lt_of_le hl kw.size
  have H := Lib.hid (And.intro kw (And.intro a0 (And.intro ht1 hl1)))
  clear h kw a0 ht1 hl1 ht hl
  unfold Tv.val at htg ⊢
  simp only at htg ⊢
  go_enter Tryd.func35, Tryd.ntmps35
  go_upto_region 1 with fail
  generalize (w.alloc (.cells #[.int .i64 k, .string nm, .slice An nn cn, .slice Ak nk ck] 25)) = w1 at *
  generalize w.heap.size = bx at *
  have hsk : Hid (∀ w', Keep (fun _ => False) w1 w' → bx < w'.heap.size ∧ w'.cell? ⟨bx, 0, none⟩ = some (.int .i64 k) ∧ w'.cell? ⟨bx, 1, none⟩ = some (.string nm) ∧ w'.cell? ⟨bx, 2, none⟩ = some (.slice An nn cn) ∧ w'.cell? ⟨bx, 3, none⟩ = some (.slice Ak nk ck) ∧ tb < w'.heap.size ∧ w'.cell? ⟨tb, 0, none⟩ = some (.int .i64 tag)) := fun w' hk => by
    obtain ⟨a, b, c, d, e⟩ := (hk.at_ H.out.2.1 (fun x => x)).tcells
    exact ⟨a, b, c, d, e, Nat.lt_of_lt_of_le H.out.2.2.2 hk.size, hk.cell H.out.2.2.1 (fun x => x)⟩
  have hsx := hsk.out w1.drew (Keep.refl _ w1).drew
  cases hd : decide (tagT t = tag)
  all_goals
    have hd1 : (tagT t == tag) = decide (tagT t = tag) := rfl
    rw [hd] at hd1
    obtain ⟨tg, htg'⟩ : ∃ tg, tagT t = tg := ⟨_, rfl⟩
    rw [htg'] at htg hd1
    have HD := Lib.hid hd
    clear hd htg'
    go_region_held3 (fun w' => bx < w'.heap.size ∧ w'.cell? ⟨bx, 0, none⟩ = some (.int .i64 k) ∧ w'.cell? ⟨bx, 1, none⟩ = some (.string nm) ∧ w'.cell? ⟨bx, 2, none⟩ = some (.slice An nn cn) ∧ w'.cell? ⟨bx, 3, none⟩ = some (.slice Ak nk ck) ∧ tb < w'.heap.size ∧ w'.cell? ⟨tb, 0, none⟩ = some (.int .i64 tag))
      (first | exact hsx | exact hsk.out _ ((Keep.refl _ w1).drew.trans K2.out (fun _ _ x => x)))
      ((go_at_call 24; refine htg.mono ?_; rintro e w2 ⟨rfl, hk⟩; have K2 := Lib.hid hk; clear hk htg))
    go_wp2_with fail
    go_ret
    exact ⟨ret_bool HD.out.symm, H.out.1.trans ((Keep.refl _ w1).drew.trans K2.out (fun _ _ x => x)) (fun _ _ x => x)⟩
def IfA (w : World) (l : List Ty) (tag : Int) (n : Nat) (k : Nat) (b : Value) (wr : World) : Prop :=
  ∃ i : Nat, b = .int .i64 i ∧ i ≤ n ∧ k = n - i ∧ (∀ x ∈ l.take i, tagT x ≠ tag) ∧ Keep (fun _ => False) w wr
set_option maxRecDepth 100000 in
set_option maxHeartbeats 2000000 in
theorem idxfn_any {w : World} {X : Nat → Prop} {A : Option Addr} {n c : Nat} {l : List Ty} {rs : List Tv} {tb : Nat} {tag : Int} (hb : n ≤ 140737488355328) (h : Rd w X 4 (.slice A n c) n (tflat rs)) (hv : TysV w X rs l) (ht : w.cell? ⟨tb, 0, none⟩ = some (.int .i64 tag)) (hl : tb < w.heap.size) :
    Calls Tryd.prog 34 #[.slice A n c, .func (.func 35) #[] #[.pointer (some ⟨tb, 0, none⟩)]] w fun e w' => ∃ z : Int, e = .returned (.int .i64 z) ∧ (z < 0 → ∀ x ∈ l, tagT x ≠ tag) ∧ (0 ≤ z → ∃ i k, z = (i : Nat) ∧ i < n ∧ l[i]? = some k ∧ tagT k = tag ∧ ∀ x ∈ l.take i, tagT x ≠ tag) ∧ Keep (fun _ => False) w w' := by
  have hll := hv.len
  have hn := h.nlen
  have H := Lib.hid (And.intro h (And.intro hv (And.intro ht hl)))
  have h0 : Hid (IfA w l tag n n (.int .i64 0) w) := ⟨0, rfl, Nat.zero_le _, rfl, by simp, Keep.refl _ _⟩
  clear h hv ht hl
  go_enter Tryd.func34, Tryd.ntmps34
  go_wp2
  go_loopg [8] n (IfA w l tag n)
  case atStart => exact h0.out
  case round =>
    clear h0
    obtain ⟨i, rfl, hi, rfl, hnt, hk⟩ := hrel
    by_cases hlt : i < n
    · obtain ⟨kd, hkd⟩ : ∃ kd, l[i]? = some kd := ⟨_, List.getElem?_eq_getElem (by omega)⟩
      obtain ⟨⟨qk, qnm, qAn, qnn, qcn, qAk, qnk, qck⟩, hq, hqv⟩ := (H.out.2.1.step hk).at_ hkd
      obtain ⟨b, o, rfl, hbz, _, c0, c1, c2, c3⟩ := (H.out.1.keep hk (fun _ x => x.elim)).tcells hlt hq
      simp only at c0 c1 c2 c3
      have hc := memfn_any hqv (hk.cell H.out.2.2.1 (fun x => x)) (Nat.lt_of_lt_of_le H.out.2.2.2 hk.size)
      unfold Tv.val at hc
      simp only at hc
      have HS := Lib.hid (And.intro hnt (And.intro hk hkd))
      clear hnt hk hkd hq hqv
      cases hd : decide (tagT kd = tag) with
      | true =>
        rw [hd] at hc
        have HD := Lib.hid (of_decide_eq_true hd)
        clear hd
        go_wp2_with (go_at_call 35; refine hc.mono ?_; rintro e w2 ⟨rfl, hk2⟩; have K2 := Lib.hid hk2; clear hk2 hc)
        go_ret
        exact ⟨i, rfl, fun h => by omega, fun _ => ⟨i, kd, rfl, hlt, HS.out.2.2, HD.out, HS.out.1⟩, HS.out.2.1.trans K2.out (fun _ _ x => x)⟩
      | false =>
        rw [hd] at hc
        have HD := Lib.hid (of_decide_eq_false hd)
        clear hd
        go_wp2_with (go_at_call 35; refine hc.mono ?_; rintro e w2 ⟨rfl, hk2⟩; have K2 := Lib.hid hk2; clear hk2 hc)
        go_roundg (n - (i + 1))
        case measure => omega
        case rel =>
          refine ⟨i + 1, by go_num, by omega, rfl, fun y hy => ?_, HS.out.2.1.trans K2.out (fun _ _ x => x)⟩
          rw [List.take_add_one, HS.out.2.2] at hy
          rcases List.mem_append.1 hy with hy | hy
          · exact HS.out.1 y hy
          · have : y = kd := by simpa using hy
            subst this
            exact HD.out
    · rw [List.take_of_length_le (by omega)] at hnt
      have HS := Lib.hid (And.intro hnt hk)
      clear hnt hk
      go_wp2_with fail
      go_ret
      exact ⟨-1, rfl, fun _ => HS.out.1, fun h => absurd h (by decide), HS.out.2⟩
theorem memT_of {t : Ty} {tag : Int} {z : Int} (h1 : z < 0 → ∀ x ∈ atoms t, tagT x ≠ tag) (h : z < 0 ∨ tag < 0) : memT t tag = none := by
  unfold memT
  split
  · rfl
  · rename_i hn
    exact List.find?_eq_none.2 fun k hk => by simp [h1 (by omega) k hk]
theorem memT_at {t k : Ty} {tag : Int} {i : Nat} (h0 : 0 ≤ tag) (hi : (atoms t)[i]? = some k) (hk : tagT k = tag) (hb : ∀ x ∈ (atoms t).take i, tagT x ≠ tag) : memT t tag = some k := by
  unfold memT
  rw [if_neg (by omega)]
  exact find_at hi (by simp [hk]) fun x hx => by simp [hb x hx]
set_option maxRecDepth 100000 in
set_option maxHeartbeats 4000000 in
theorem Member_any {w : World} {X : Nat → Prop} {r : Tv} {t : Ty} (hX : ∀ i, X i → i < w.heap.size) (h : TyV w X r t) (tag : Int) :
    Calls Tryd.prog 23 #[r.val, .int .i64 tag] w fun e w' => OptP X (memT t tag) e w' ∧ Keep (fun _ => False) w w' := by
  obtain ⟨k, nm, An, nn, cn, Ak, nk, ck⟩ := r
  have kw : Keep (fun _ => False) w ((((w.alloc (.cells #[.int .i64 k, .string nm, .slice An nn cn, .slice Ak nk ck] 25)).alloc (.cells #[.int .i64 tag] 3)).alloc (.cells #[.int .i64 0, .string ⟨#[]⟩, .slice none 0 0, .slice none 0 0] 25)).alloc (.cells #[.int .i64 k, .string nm, .slice An nn cn, .slice Ak nk ck] 25)) := ((((Keep.refl _ w).alloc _).alloc _).alloc _).alloc _
  have a0 : At ((((w.alloc (.cells #[.int .i64 k, .string nm, .slice An nn cn, .slice Ak nk ck] 25)).alloc (.cells #[.int .i64 tag] 3)).alloc (.cells #[.int .i64 0, .string ⟨#[]⟩, .slice none 0 0, .slice none 0 0] 25)).alloc (.cells #[.int .i64 k, .string nm, .slice An nn cn, .slice Ak nk ck] 25)) w.heap.size 25 #[.int .i64 k, .string nm, .slice An nn cn, .slice Ak nk ck] := (((At.new _ _ _).alloc _).alloc _).alloc _
  have a1 : At ((((w.alloc (.cells #[.int .i64 k, .string nm, .slice An nn cn, .slice Ak nk ck] 25)).alloc (.cells #[.int .i64 tag] 3)).alloc (.cells #[.int .i64 0, .string ⟨#[]⟩, .slice none 0 0, .slice none 0 0] 25)).alloc (.cells #[.int .i64 k, .string nm, .slice An nn cn, .slice Ak nk ck] 25)) (w.heap.size + 1) 3 #[.int .i64 tag] := ((At.new_at (by simp)).alloc _).alloc _
  have a2 : At ((((w.alloc (.cells #[.int .i64 k, .string nm, .slice An nn cn, .slice Ak nk ck] 25)).alloc (.cells #[.int .i64 tag] 3)).alloc (.cells #[.int .i64 0, .string ⟨#[]⟩, .slice none 0 0, .slice none 0 0] 25)).alloc (.cells #[.int .i64 k, .string nm, .slice An nn cn, .slice Ak nk ck] 25)) (w.heap.size + 1 + 1) 25 #[.int .i64 0, .string ⟨#[]⟩, .slice none 0 0, .slice none 0 0] := (At.new_at (by simp)).alloc _
  have a3 : At ((((w.alloc (.cells #[.int .i64 k, .string nm, .slice An nn cn, .slice Ak nk ck] 25)).alloc (.cells #[.int .i64 tag] 3)).alloc (.cells #[.int .i64 0, .string ⟨#[]⟩, .slice none 0 0, .slice none 0 0] 25)).alloc (.cells #[.int .i64 k, .string nm, .slice An nn cn, .slice Ak nk ck] 25)) (w.heap.size + 1 + 1 + 1) 25 #[.int .i64 k, .string nm, .slice An nn cn, .slice Ak nk ck] := At.new_at (by simp)
  have hkk := h.knd
  have hnb := h.out.1.2.2
  simp only at hkk hnb
  have hw : TyV ((((w.alloc (.cells #[.int .i64 k, .string nm, .slice An nn cn, .slice Ak nk ck] 25)).alloc (.cells #[.int .i64 tag] 3)).alloc (.cells #[.int .i64 0, .string ⟨#[]⟩, .slice none 0 0, .slice none 0 0] 25)).alloc (.cells #[.int .i64 k, .string nm, .slice An nn cn, .slice Ak nk ck] 25)) (fun g => X g ∨ g = w.heap.size + 1 + 1) ⟨k, nm, An, nn, cn, Ak, nk, ck⟩ t := h.keep kw (fun _ _ x => x.elim) (fun i hi hx => by
    rcases hx with hx | hx
    · exact hx
    · omega)
  have hx3 : ¬ (X (w.heap.size + 1 + 1 + 1) ∨ w.heap.size + 1 + 1 + 1 = w.heap.size + 1 + 1) := fun hx => by
    rcases hx with hx | hx
    · have := hX _ hx; omega
    · omega
  have ht1 : ((((w.alloc (.cells #[.int .i64 k, .string nm, .slice An nn cn, .slice Ak nk ck] 25)).alloc (.cells #[.int .i64 tag] 3)).alloc (.cells #[.int .i64 0, .string ⟨#[]⟩, .slice none 0 0, .slice none 0 0] 25)).alloc (.cells #[.int .i64 k, .string nm, .slice An nn cn, .slice Ak nk ck] 25)).cell? ⟨w.heap.size + 1, 0, none⟩ = some (.int .i64 tag) := a1.cell 0
  have hl1 := a1.lt
  have HX := Lib.hid hX
  have H := Lib.hid (And.intro kw (And.intro a1 (And.intro a2 (And.intro a0 (h.step kw)))))
  clear hX h
  unfold Tv.val
  simp only
  by_cases h7 : t.kind = 7
  · have d7 : (k == 7) = true := by rw [beq_iff_eq]; omega
    have hat : atoms t = t.kids := by unfold atoms; rw [if_pos h7]
    obtain ⟨_, _, _, _, rs, hln, hrd, hvs⟩ := hw.out
    simp only at hrd hln
    have hb7 := hnb
    rw [← hat] at hvs
    clear hat hln hnb
    have hix := idxfn_any (tag := tag) (hb7) hrd hvs ht1 hl1
    have HL := Lib.hid (And.intro hrd hvs)
    clear hrd hvs hw hx3 a0 a1 a2 a3 kw hl1 ht1 hkk h7
    by_cases hfd : ∃ x ∈ atoms t, tagT x = tag
    · have hix2 := hix.mono (R' := fun e w' => ∃ (i : Nat) (kd : Ty), e = .returned (.int .i64 (i : Int)) ∧ i < nk ∧ (atoms t)[i]? = some kd ∧ tagT kd = tag ∧ (∀ x ∈ (atoms t).take i, tagT x ≠ tag) ∧ Keep (fun _ => False) ((((w.alloc (.cells #[.int .i64 k, .string nm, .slice An nn cn, .slice Ak nk ck] 25)).alloc (.cells #[.int .i64 tag] 3)).alloc (.cells #[.int .i64 0, .string ⟨#[]⟩, .slice none 0 0, .slice none 0 0] 25)).alloc (.cells #[.int .i64 k, .string nm, .slice An nn cn, .slice Ak nk ck] 25)) w') (by
        rintro e w' ⟨z, rfl, hz1, hz2, hk⟩
        have hz : 0 ≤ z := by
          rcases Int.lt_or_le z 0 with h | h
          · obtain ⟨x, hx, e⟩ := hfd
            exact absurd e (hz1 h x hx)
          · exact h
        obtain ⟨i, kd, rfl, a, b, c, d⟩ := hz2 hz
        exact ⟨i, kd, rfl, a, b, c, d, hk⟩)
      clear hix hfd
      by_cases htag : tag < 0
      · have dt : decide (tag < 0) = true := by simpa using htag
        have hno : memT t tag = none := by unfold memT; rw [if_pos htag]
        have HNO := Lib.hid hno
        clear hno htag
        go_enter Tryd.func23, Tryd.ntmps23
        go_wp2_with (go_at_call 34; refine hix2.mono ?_; rintro e w5 ⟨i, kd, rfl, hi, hkd, hkt, hb, hk⟩; have b1 := hk.at_ H.out.2.1 (fun x => x); have t0 : w5.cell? ⟨w.heap.size + 1, 0, none⟩ = some (.int .i64 tag) := b1.cell 0; have tl := b1.lt; have b2 := hk.at_ H.out.2.2.1 (fun x => x); obtain ⟨zl, z0, z1, z2, z3⟩ := b2.tcells; have f0 := b2.frozen 0; have f1 := b2.frozen 1; have f2 := b2.frozen 2; have f3 := b2.frozen 3; have HB := Lib.hid (And.intro hk b2); clear hk hkd hkt hb b1 b2 hix2)
        (try simp only [Exit.inBlock, Exit.then])
        refine bodyPost_ret (ret_cell rfl rfl ((((HB.out.2.set 0 _).set 1 _).set 2 _).set 3 _)) rfl ?_
        exact ⟨OptP.no HNO.out tv0, Keep.set4 (H.out.1.trans HB.out.1 (fun _ _ x => x)) (.inr (by omega)) _ _ _ _⟩
      · have dt : decide (tag < 0) = false := by simpa using htag
        have HT := Lib.hid htag
        clear htag
        go_enter Tryd.func23, Tryd.ntmps23
        go_wp2_with (go_at_call 34; refine hix2.mono ?_; rintro e w5 ⟨i, kd, rfl, hi, hkd, hkt, hb, hk⟩; obtain ⟨⟨qk, qnm, qAn, qnn, qcn, qAk, qnk, qck⟩, hq, hqv⟩ := (HL.out.2.step hk).at_ hkd; obtain ⟨bb, oo, hAA, hbz, hXb, c0, c1, c2, c3⟩ := (HL.out.1.keep hk (fun _ x => x.elim)).tcells hi hq; simp only at c0 c1 c2 c3; subst hAA; have b1 := hk.at_ H.out.2.1 (fun x => x); have t0 : w5.cell? ⟨w.heap.size + 1, 0, none⟩ = some (.int .i64 tag) := b1.cell 0; have tl := b1.lt; have b2 := hk.at_ H.out.2.2.1 (fun x => x); obtain ⟨zl, z0, z1, z2, z3⟩ := b2.tcells; have f0 := b2.frozen 0; have f1 := b2.frozen 1; have f2 := b2.frozen 2; have f3 := b2.frozen 3; have HB := Lib.hid (And.intro hk (And.intro b2 (And.intro hqv (And.intro hkd (And.intro hkt hb))))); clear hk hkd hkt hb b1 b2 hix2 hq hqv hXb)
        (try simp only [Exit.inBlock, Exit.then])
        refine bodyPost_ret (ret_cell rfl rfl ((((HB.out.2.1.set 0 _).set 1 _).set 2 _).set 3 _)) rfl ?_
        have hs4 := Keep.set4 (Keep.refl (fun g => g = w.heap.size + 1 + 1) w5) (.inl rfl) (.int .i64 qk) (.string qnm) (.slice qAn qnn qcn) (.slice qAk qnk qck)
        have hyes := memT_at (by have := HT.out; omega) HB.out.2.2.2.1 HB.out.2.2.2.2.1 HB.out.2.2.2.2.2
        exact ⟨OptP.yes (r := ⟨qk, qnm, qAn, qnn, qcn, qAk, qnk, qck⟩) hyes (HB.out.2.2.1.keep hs4 (fun _ _ hx => .inr hx) (fun _ _ hx => .inl hx)), (H.out.1.trans HB.out.1 (fun _ _ x => x)).weak hs4 (fun g hg => by omega)⟩
    · have hix2 := hix.mono (R' := fun e w' => ∃ z : Int, e = .returned (.int .i64 z) ∧ z < 0 ∧ Keep (fun _ => False) ((((w.alloc (.cells #[.int .i64 k, .string nm, .slice An nn cn, .slice Ak nk ck] 25)).alloc (.cells #[.int .i64 tag] 3)).alloc (.cells #[.int .i64 0, .string ⟨#[]⟩, .slice none 0 0, .slice none 0 0] 25)).alloc (.cells #[.int .i64 k, .string nm, .slice An nn cn, .slice Ak nk ck] 25)) w') (by
        rintro e w' ⟨z, rfl, hz1, hz2, hk⟩
        refine ⟨z, rfl, ?_, hk⟩
        rcases Int.lt_or_le z 0 with h | h
        · exact h
        · obtain ⟨i, kd, rfl, a, b, c, d⟩ := hz2 h
          exact absurd ⟨kd, List.mem_of_getElem? b, c⟩ hfd)
      have hno : memT t tag = none := memT_of (z := -1) (fun _ x hx e => hfd ⟨x, hx, e⟩) (.inl (by decide))
      have HNO := Lib.hid hno
      clear hno hfd hix
      go_enter Tryd.func23, Tryd.ntmps23
      go_wp2_with (go_at_call 34; refine hix2.mono ?_; rintro e w5 ⟨z, rfl, hz, hk⟩; have dz : decide (z < 0) = true := (by simpa using hz); have b1 := hk.at_ H.out.2.1 (fun x => x); have t0 : w5.cell? ⟨w.heap.size + 1, 0, none⟩ = some (.int .i64 tag) := b1.cell 0; have tl := b1.lt; have b2 := hk.at_ H.out.2.2.1 (fun x => x); obtain ⟨zl, z0, z1, z2, z3⟩ := b2.tcells; have f0 := b2.frozen 0; have f1 := b2.frozen 1; have f2 := b2.frozen 2; have f3 := b2.frozen 3; have HB := Lib.hid (And.intro hk b2); clear hk b1 b2 hix2)
      (try simp only [Exit.inBlock, Exit.then])
      refine bodyPost_ret (ret_cell rfl rfl ((((HB.out.2.set 0 _).set 1 _).set 2 _).set 3 _)) rfl ?_
      exact ⟨OptP.no HNO.out tv0, Keep.set4 (H.out.1.trans HB.out.1 (fun _ _ x => x)) (.inr (by omega)) _ _ _ _⟩
  · have d7 : (k == 7) = false := by rw [beq_eq_false_iff_ne]; omega
    have hat : atoms t = [t] := by unfold atoms; rw [if_neg h7]
    have hrd : Rd ((((w.alloc (.cells #[.int .i64 k, .string nm, .slice An nn cn, .slice Ak nk ck] 25)).alloc (.cells #[.int .i64 tag] 3)).alloc (.cells #[.int .i64 0, .string ⟨#[]⟩, .slice none 0 0, .slice none 0 0] 25)).alloc (.cells #[.int .i64 k, .string nm, .slice An nn cn, .slice Ak nk ck] 25)) (fun g => X g ∨ g = w.heap.size + 1 + 1) 4 (.slice (some ⟨w.heap.size + 1 + 1 + 1, 0, none⟩) 1 1) 1 (tflat [⟨k, nm, An, nn, cn, Ak, nk, ck⟩]) := Rd.of_at a3 hx3 rfl (Nat.le_refl _)
    have hvs : TysV ((((w.alloc (.cells #[.int .i64 k, .string nm, .slice An nn cn, .slice Ak nk ck] 25)).alloc (.cells #[.int .i64 tag] 3)).alloc (.cells #[.int .i64 0, .string ⟨#[]⟩, .slice none 0 0, .slice none 0 0] 25)).alloc (.cells #[.int .i64 k, .string nm, .slice An nn cn, .slice Ak nk ck] 25)) (fun g => X g ∨ g = w.heap.size + 1 + 1) [⟨k, nm, An, nn, cn, Ak, nk, ck⟩] (atoms t) := by rw [hat]; exact ⟨hw, trivial⟩
    have hb7 : 1 ≤ 140737488355328 := by decide
    clear hat hnb
    have hix := idxfn_any (tag := tag) (hb7) hrd hvs ht1 hl1
    have HL := Lib.hid (And.intro hrd hvs)
    clear hrd hvs hw hx3 a0 a1 a2 a3 kw hl1 ht1 hkk h7
    by_cases hfd : ∃ x ∈ atoms t, tagT x = tag
    · have hix2 := hix.mono (R' := fun e w' => ∃ (i : Nat) (kd : Ty), e = .returned (.int .i64 (i : Int)) ∧ i < 1 ∧ (atoms t)[i]? = some kd ∧ tagT kd = tag ∧ (∀ x ∈ (atoms t).take i, tagT x ≠ tag) ∧ Keep (fun _ => False) ((((w.alloc (.cells #[.int .i64 k, .string nm, .slice An nn cn, .slice Ak nk ck] 25)).alloc (.cells #[.int .i64 tag] 3)).alloc (.cells #[.int .i64 0, .string ⟨#[]⟩, .slice none 0 0, .slice none 0 0] 25)).alloc (.cells #[.int .i64 k, .string nm, .slice An nn cn, .slice Ak nk ck] 25)) w') (by
        rintro e w' ⟨z, rfl, hz1, hz2, hk⟩
        have hz : 0 ≤ z := by
          rcases Int.lt_or_le z 0 with h | h
          · obtain ⟨x, hx, e⟩ := hfd
            exact absurd e (hz1 h x hx)
          · exact h
        obtain ⟨i, kd, rfl, a, b, c, d⟩ := hz2 hz
        exact ⟨i, kd, rfl, a, b, c, d, hk⟩)
      clear hix hfd
      by_cases htag : tag < 0
      · have dt : decide (tag < 0) = true := by simpa using htag
        have hno : memT t tag = none := by unfold memT; rw [if_pos htag]
        have HNO := Lib.hid hno
        clear hno htag
        go_enter Tryd.func23, Tryd.ntmps23
        go_wp2_with (go_at_call 34; refine hix2.mono ?_; rintro e w5 ⟨i, kd, rfl, hi, hkd, hkt, hb, hk⟩; have b1 := hk.at_ H.out.2.1 (fun x => x); have t0 : w5.cell? ⟨w.heap.size + 1, 0, none⟩ = some (.int .i64 tag) := b1.cell 0; have tl := b1.lt; have b2 := hk.at_ H.out.2.2.1 (fun x => x); obtain ⟨zl, z0, z1, z2, z3⟩ := b2.tcells; have f0 := b2.frozen 0; have f1 := b2.frozen 1; have f2 := b2.frozen 2; have f3 := b2.frozen 3; have HB := Lib.hid (And.intro hk b2); clear hk hkd hkt hb b1 b2 hix2)
        (try simp only [Exit.inBlock, Exit.then])
        refine bodyPost_ret (ret_cell rfl rfl ((((HB.out.2.set 0 _).set 1 _).set 2 _).set 3 _)) rfl ?_
        exact ⟨OptP.no HNO.out tv0, Keep.set4 (H.out.1.trans HB.out.1 (fun _ _ x => x)) (.inr (by omega)) _ _ _ _⟩
      · have dt : decide (tag < 0) = false := by simpa using htag
        have HT := Lib.hid htag
        clear htag
        go_enter Tryd.func23, Tryd.ntmps23
        go_wp2_with (go_at_call 34; refine hix2.mono ?_; rintro e w5 ⟨i, kd, rfl, hi, hkd, hkt, hb, hk⟩; obtain ⟨⟨qk, qnm, qAn, qnn, qcn, qAk, qnk, qck⟩, hq, hqv⟩ := (HL.out.2.step hk).at_ hkd; obtain ⟨bb, oo, hAA, hbz, hXb, c0, c1, c2, c3⟩ := (HL.out.1.keep hk (fun _ x => x.elim)).tcells hi hq; simp only at c0 c1 c2 c3; (simp only [Option.some.injEq, Addr.mk.injEq, and_true] at hAA); obtain ⟨rfl, rfl⟩ := hAA; simp only [Nat.zero_add] at c0 c1 c2 c3; have b1 := hk.at_ H.out.2.1 (fun x => x); have t0 : w5.cell? ⟨w.heap.size + 1, 0, none⟩ = some (.int .i64 tag) := b1.cell 0; have tl := b1.lt; have b2 := hk.at_ H.out.2.2.1 (fun x => x); obtain ⟨zl, z0, z1, z2, z3⟩ := b2.tcells; have f0 := b2.frozen 0; have f1 := b2.frozen 1; have f2 := b2.frozen 2; have f3 := b2.frozen 3; have HB := Lib.hid (And.intro hk (And.intro b2 (And.intro hqv (And.intro hkd (And.intro hkt hb))))); clear hk hkd hkt hb b1 b2 hix2 hq hqv hXb)
        (try simp only [Exit.inBlock, Exit.then])
        refine bodyPost_ret (ret_cell rfl rfl ((((HB.out.2.1.set 0 _).set 1 _).set 2 _).set 3 _)) rfl ?_
        have hs4 := Keep.set4 (Keep.refl (fun g => g = w.heap.size + 1 + 1) w5) (.inl rfl) (.int .i64 qk) (.string qnm) (.slice qAn qnn qcn) (.slice qAk qnk qck)
        have hyes := memT_at (by have := HT.out; omega) HB.out.2.2.2.1 HB.out.2.2.2.2.1 HB.out.2.2.2.2.2
        exact ⟨OptP.yes (r := ⟨qk, qnm, qAn, qnn, qcn, qAk, qnk, qck⟩) hyes (HB.out.2.2.1.keep hs4 (fun _ _ hx => .inr hx) (fun _ _ hx => .inl hx)), (H.out.1.trans HB.out.1 (fun _ _ x => x)).weak hs4 (fun g hg => by omega)⟩
    · have hix2 := hix.mono (R' := fun e w' => ∃ z : Int, e = .returned (.int .i64 z) ∧ z < 0 ∧ Keep (fun _ => False) ((((w.alloc (.cells #[.int .i64 k, .string nm, .slice An nn cn, .slice Ak nk ck] 25)).alloc (.cells #[.int .i64 tag] 3)).alloc (.cells #[.int .i64 0, .string ⟨#[]⟩, .slice none 0 0, .slice none 0 0] 25)).alloc (.cells #[.int .i64 k, .string nm, .slice An nn cn, .slice Ak nk ck] 25)) w') (by
        rintro e w' ⟨z, rfl, hz1, hz2, hk⟩
        refine ⟨z, rfl, ?_, hk⟩
        rcases Int.lt_or_le z 0 with h | h
        · exact h
        · obtain ⟨i, kd, rfl, a, b, c, d⟩ := hz2 h
          exact absurd ⟨kd, List.mem_of_getElem? b, c⟩ hfd)
      have hno : memT t tag = none := memT_of (z := -1) (fun _ x hx e => hfd ⟨x, hx, e⟩) (.inl (by decide))
      have HNO := Lib.hid hno
      clear hno hfd hix
      go_enter Tryd.func23, Tryd.ntmps23
      go_wp2_with (go_at_call 34; refine hix2.mono ?_; rintro e w5 ⟨z, rfl, hz, hk⟩; have dz : decide (z < 0) = true := (by simpa using hz); have b1 := hk.at_ H.out.2.1 (fun x => x); have t0 : w5.cell? ⟨w.heap.size + 1, 0, none⟩ = some (.int .i64 tag) := b1.cell 0; have tl := b1.lt; have b2 := hk.at_ H.out.2.2.1 (fun x => x); obtain ⟨zl, z0, z1, z2, z3⟩ := b2.tcells; have f0 := b2.frozen 0; have f1 := b2.frozen 1; have f2 := b2.frozen 2; have f3 := b2.frozen 3; have HB := Lib.hid (And.intro hk b2); clear hk b1 b2 hix2)
      (try simp only [Exit.inBlock, Exit.then])
      refine bodyPost_ret (ret_cell rfl rfl ((((HB.out.2.set 0 _).set 1 _).set 2 _).set 3 _)) rfl ?_
      exact ⟨OptP.no HNO.out tv0, Keep.set4 (H.out.1.trans HB.out.1 (fun _ _ x => x)) (.inr (by omega)) _ _ _ _⟩
end Go.Proofs.YtomhhpjpmlpijaaDoor
