/-
  InstOne: for every input the law returns true; nothing that was there is changed. Conditions: the tables unicode.White_Space and strings.asciiSpace lie as the program's text lays them (the card ties them).
-/
import Derived.Test.YtbanpohholnkaaaDoorWHeight
import Derived.Test.YtbanpohholnkaaaDoorWSub
import Derived.Test.YtbanpohholnkaaaDoorLitsR
import Derived.Test.YtbanpohholnkaaaDoorGB
import Derived.Test.YtbanpohholnkaaaDoorGA
import Derived.Test.YtbanpohholnkaaaDoorOpen
import Derived.Test.YtbanpohholnkaaaDoorRHeld
import Derived.Test.YtbanpohholnkaaaDoorFrame
import Derived.Test.YtbanpohholnkaaaDoorCards
import Derived.Test.YtbanpohholnkaaaDoorTie
import Derived.SevenTiedAt
namespace Go.Proofs.YtbanpohholnkaaaDoor
open Go.RowKit

theorem weight8_any {X : Nat → Prop} (t : Ty) : ∀ (w : World) (r : Tv) (m : Nat), 1 ≤ m → m ≤ 100000 → TyV w X r t →
    Calls Tryd.prog 38 #[r.val, .int .i64 m] w fun e w' => ∃ z : Nat, e = .returned (.int .i64 z) ∧ z ≤ m ∧ (z ≠ 0 → t.kids.length ≤ m ∧ t.names.length ≤ 1000) ∧ Keep (fun _ => False) w w' := by
  induction t using Ty.ind with
  | h t ih =>
    intro w r m hm1 hm h
    have hnk : r.nk = t.kids.length := by obtain ⟨_, _, _, _, rs, h5, _⟩ := h.out; exact h5
    have hkb : t.kids.length ≤ 140737488355328 := by rw [← hnk]; exact h.out.1.2.2
    have hnn : r.nn = t.names.length := h.out.2.2.1
    have HH := Lib.hid (And.intro h ih)
    obtain ⟨k, nm, An, nn, cn, Ak, nk, ck⟩ := r
    simp only at hnk hnn
    subst hnk
    subst hnn
    unfold Tv.val
    simp only
    clear h ih
    by_cases h1 : m < t.kids.length
    · have d1 : decide ((m : Int) < (t.kids.length : Int)) = true := by simp; omega
      have d1' : decide (m < t.kids.length) = true := by simp; omega
      go_enter Tryd.func38, Tryd.ntmps38
      go_wp2
      go_ret
      exact ⟨0, rfl, Nat.zero_le _, fun h => absurd rfl h, (Keep.refl _ w).alloc _⟩
    · have d1 : decide ((m : Int) < (t.kids.length : Int)) = false := by simp; omega
      have d1' : decide (m < t.kids.length) = false := by simp; omega
      by_cases h2 : 1000 < t.names.length
      · have d2 : decide (1000 < (t.names.length : Int)) = true := by simp; omega
        have d2' : decide (1000 < t.names.length) = true := by simp; omega
        go_enter Tryd.func38, Tryd.ntmps38
        go_wp2
        go_ret
        exact ⟨0, rfl, Nat.zero_le _, fun h => absurd rfl h, (Keep.refl _ w).alloc _⟩
      · have d2 : decide (1000 < (t.names.length : Int)) = false := by simp; omega
        have d2' : decide (1000 < t.names.length) = false := by simp; omega
        obtain ⟨M, rfl⟩ : ∃ M, m = M + 1 := ⟨m - 1, by omega⟩
        have a0 : At (w.alloc (.cells #[.int .i64 k, .string nm, .slice An t.names.length cn, .slice Ak t.kids.length ck] 25)) w.heap.size 25 #[.int .i64 k, .string nm, .slice An t.names.length cn, .slice Ak t.kids.length ck] := At.new _ _ _
        have hk0 : Keep (fun _ => False) w (w.alloc (.cells #[.int .i64 k, .string nm, .slice An t.names.length cn, .slice Ak t.kids.length ck] 25)) := (Keep.refl _ w).alloc _
        go_enter Tryd.func38, Tryd.ntmps38
        go_wp2
        have HH' := Lib.hid (And.intro (HH.out.1.step hk0) HH.out.2)
        clear HH
        generalize (w.alloc (.cells #[.int .i64 k, .string nm, .slice An t.names.length cn, .slice Ak t.kids.length ck] 25)) = w1 at *
        generalize w.heap.size = bx at *
        have h0 : Hid (SmA w1 t.kids M t.kids.length (.int .i64 M) (.int .i64 0) w1) := ⟨0, M, rfl, rfl, Nat.zero_le _, rfl, Nat.le_refl _, Keep.refl _ _⟩
        have H0 := Lib.hid (And.intro a0 hk0)
        clear a0 hk0
        go_loopg [1, 5] t.kids.length (SmA w1 t.kids M)
        case atStart => exact h0.out
        case round =>
          clear h0
          obtain ⟨i, m, rfl, rfl, hi, rfl, hmM, hk⟩ := hrel
          have x3 := (hk.at_ H0.out.1 (fun x => x)).cell 3
          have hbx := (hk.at_ H0.out.1 (fun x => x)).lt
          simp only [List.getElem?_toArray, List.getElem?_cons_succ, List.getElem?_cons_zero] at x3
          by_cases hlt : i < t.kids.length
          · have e1 : decide ((i : Int) < (t.kids.length : Int)) = true := by simp; omega
            have e1' : decide (i < t.kids.length) = true := by simp; omega
            by_cases hm0 : 0 < m
            · have e2 : decide (0 < (m : Int)) = true := by simp; omega
              have e2' : decide (0 < m) = true := by simp; omega
              obtain ⟨kd, q, b, o, hkd, hq, rfl, hb, _, c0, c1, c2, c3⟩ := (HH'.out.1.step hk).kid (i := i) hlt
              have hc := HH'.out.2 kd (Ty.kid_lt (List.mem_of_getElem? hkd)) wr q m hm0 (by omega) hq
              unfold Tv.val at hc
              have HK := Lib.hid hk
              clear hk hq hkd
              go_wp2_with (go_at_call 38; refine hc.mono ?_; rintro e w' ⟨z, rfl, hz, _, hk⟩; have HK2 := Lib.hid hk; clear hk hc)
              go_roundg (t.kids.length - (i + 1))
              case measure => omega
              case rel => exact ⟨i + 1, z, rfl, by go_num, by omega, rfl, by omega, HK.out.trans HK2.out (fun _ _ x => x)⟩
            · have e2 : decide (0 < (m : Int)) = false := by simp; omega
              have e2' : decide (0 < m) = false := by simp; omega
              have HK := Lib.hid hk
              clear hk
              go_wp2_with fail
              go_ret
              exact ⟨m, rfl, by omega, fun _ => by omega, H0.out.2.trans HK.out (fun _ _ x => x)⟩
          · have e1 : decide ((i : Int) < (t.kids.length : Int)) = false := by simp; omega
            have e1' : decide (i < t.kids.length) = false := by simp; omega
            have HK := Lib.hid hk
            clear hk
            go_wp2_with fail
            go_ret
            exact ⟨m, rfl, by omega, fun _ => by omega, H0.out.2.trans HK.out (fun _ _ x => x)⟩
def FeA (w : World) (n : Nat) (k : Nat) (a b : Value) (wr : World) : Prop :=
  ∃ i m : Nat, a = .int .i64 m ∧ b = .int .i64 i ∧ i ≤ n ∧ k = n - i ∧ m ≤ 500 ∧ Keep (fun _ => False) w wr
set_option maxRecDepth 100000 in
set_option maxHeartbeats 2000000 in
theorem few_any {w : World} {X : Nat → Prop} {A : Option Addr} {n c : Nat} {l : List Ty} {rs : List Tv} (hb : n ≤ 1152921504606846976) (h : Rd w X 4 (.slice A n c) n (tflat rs)) (hv : TysV w X rs l) :
    Calls Tryd.prog 22 #[.slice A n c] w fun e w' => (∃ z : Bool, e = .returned (.bool z)) ∧ Keep (fun _ => False) w w' := by
  have hl := hv.len
  have hn := h.nlen
  have HH := Lib.hid (And.intro h (And.intro hv (And.intro hl hn)))
  have h0 : Hid (FeA w n n (.int .i64 500) (.int .i64 0) w) := ⟨0, 500, rfl, rfl, Nat.zero_le _, rfl, Nat.le_refl _, Keep.refl _ _⟩
  clear h hv hl hn
  go_enter Tryd.func22, Tryd.ntmps22
  go_wp2
  go_loopg [3, 4] n (FeA w n)
  case atStart => exact h0.out
  case round =>
    clear h0
    obtain ⟨i, m, rfl, rfl, hi, rfl, hm, hk⟩ := hrel
    by_cases hlt : i < n
    · by_cases hm0 : 0 < m
      · obtain ⟨s, hs⟩ : ∃ s, l[i]? = some s := ⟨_, List.getElem?_eq_getElem (by have := HH.out.2.2; omega)⟩
        obtain ⟨⟨qk, qnm, qAn, qnn, qcn, qAk, qnk, qck⟩, hq, hqv⟩ := (HH.out.2.1.step hk).at_ hs
        obtain ⟨b, o, rfl, hbz, _, c0, c1, c2, c3⟩ := (HH.out.1.keep hk (fun _ x => x.elim)).tcells hlt hq
        simp only at c0 c1 c2 c3
        have hc := weight8_any s wr ⟨qk, qnm, qAn, qnn, qcn, qAk, qnk, qck⟩ m hm0 (by omega) hqv
        unfold Tv.val at hc
        simp only at hc
        have HK := Lib.hid hk
        have d1 : decide ((i : Int) < (n : Int)) = true := by simp; omega
        have d2 : decide (0 < (m : Int)) = true := by simp; omega
        have i0 : (0 : Int) ≤ (i : Int) := by omega
        have i1 : (i : Int) < (n : Int) := by omega
        clear hk hs hq hqv
        go_wp2_with (go_at_call 38; refine hc.mono ?_; rintro e w' ⟨z, rfl, hz, _, hk⟩; have HK2 := Lib.hid hk; clear hk hc)
        go_roundg (n - (i + 1))
        case measure => omega
        case rel => exact ⟨i + 1, z, rfl, by go_num, by omega, rfl, by omega, HK.out.trans HK2.out (fun _ _ x => x)⟩
      · have d1 : decide ((i : Int) < (n : Int)) = true := by simp; omega
        have d2 : decide (0 < (m : Int)) = false := by simp; omega
        have HK := Lib.hid hk
        clear hk
        go_wp2_with fail
        all_goals go_ret
        all_goals exact ⟨by first | exact ⟨_, rfl⟩ | exact .inl rfl | exact .inr rfl, HK.out⟩
    · have d1 : decide ((i : Int) < (n : Int)) = false := by simp; omega
      have HK := Lib.hid hk
      clear hk
      by_cases hm0 : 0 < m
      · have d2 : decide (0 < (m : Int)) = true := by simp; omega
        go_wp2_with fail
        all_goals go_ret
        all_goals exact ⟨by first | exact ⟨_, rfl⟩ | exact .inl rfl | exact .inr rfl, HK.out⟩
      · have d2 : decide (0 < (m : Int)) = false := by simp; omega
        go_wp2_with fail
        all_goals go_ret
        all_goals exact ⟨by first | exact ⟨_, rfl⟩ | exact .inl rfl | exact .inr rfl, HK.out⟩
set_option maxRecDepth 100000 in
set_option maxHeartbeats 2000000 in
theorem normal8_any {w : World} {r : Tv} {t : Ty} (hT : Tab w) (h : TyV w nX r t) :
    Calls Tryd.prog 51 #[r.val] w fun e w' => e = .returned (.bool (normB t)) ∧ Keep (fun _ => False) w w' := by
  obtain ⟨k, nm, An, nn, cn, Ak, nk, ck⟩ := r
  have kal : Keep (fun _ => False) w (w.alloc (.cells #[.int .i64 k, .string nm, .slice An nn cn, .slice Ak nk ck] 25)) := (Keep.refl _ w).alloc _
  have hc := rsub_any (hT.step kal) (h.step kal) (h.step kal)
  rw [subT_refl] at hc
  unfold Tv.val at hc ⊢
  simp only at hc ⊢
  have HK := Lib.hid kal
  clear h kal hT
  go_enter Tryd.func51, Tryd.ntmps51
  go_wp2_with (go_at_call 16; refine hc.mono ?_; rintro e w' ⟨rfl, hk⟩; have HK2 := Lib.hid hk; clear hk hc)
  go_ret
  exact ⟨rfl, HK.out.trans HK2.out (fun _ _ x => x)⟩
end Go.Proofs.YtbanpohholnkaaaDoor

namespace Go.Proofs.YtbanpohholnkaaaDoor

def eV : Ty := .mk 8 ⟨#[65]⟩ [] []
def eVF : Ty := .mk 6 ⟨#[]⟩ [] [eV, eI]
theorem nf_SI : NF (funOf eS eI) := .mk _ ⟨rfl, .inr (.inr (.inl ⟨rfl, rfl, rfl⟩))⟩ fun k hk => by
  simp only [funOf, Ty.kids, List.mem_cons, List.not_mem_nil, or_false] at hk
  rcases hk with rfl | rfl
  · exact nf_S
  · exact nf_I
theorem norm_of {t : Ty} (h : NF t) (h1 : t.size ≤ 200) (h2 : t.ht ≤ 16) : NormT t = some t := by
  unfold NormT
  rw [if_neg (by omega)]
  exact h.norm
theorem res_of {vs : List ByteArray} {ws : List Ty} {t r n : Ty} (hl : vs.length = ws.length) (h1 : t.size ≤ 200) (h2 : t.ht ≤ 16) (hr : replT (lookT vs ws) t = some r) (hn : NormT r = some n) : resolveT vs ws t = (some n, 0) := by
  unfold resolveT
  rw [if_neg (by omega), if_neg (by omega), hr]
  simp only [hn]
theorem res_A : resolveT [⟨#[65]⟩] [eS] eVF = (some (funOf eS eI), 0) := res_of rfl (by decide) (by decide) (by kernel_rfl) (norm_of nf_SI (by decide) (by decide))
theorem res_B : resolveT [⟨#[66]⟩] [eS] eV = (none, 9) := by
  unfold resolveT
  rw [if_neg (by decide), if_neg (by decide), show replT (lookT [⟨#[66]⟩] [eS]) eV = none by kernel_rfl]
theorem res_C : resolveT [] [] eI = (some eI, 0) := res_of rfl (by decide) (by decide) (by kernel_rfl) (norm_of nf_I (by decide) (by decide))
theorem normb_S : normB eS = true := nf_S.normb (by decide) (by decide)
theorem sub_SI : subT eS eI = false := by unfold subT; rw [normb_S, normb_I]; decide +kernel
end Go.Proofs.YtbanpohholnkaaaDoor

namespace Go.Proofs.YtbanpohholnkaaaDoor
open Go.RowKit

theorem tv_var {w : World} {X : Nat → Prop} (s : ByteArray) : TyV w X ⟨8, s, none, 0, 0, none, 0, 0⟩ (.mk 8 s [] []) := TyV.mk (rs := []) ⟨rfl, Nat.zero_le _, Nat.zero_le _⟩ rfl rfl (Rd.nil _ X 1) rfl (Rd.nil _ X 4) trivial
theorem rd_s1 {w : World} {b : Nat} {e : TypeId} {s : ByteArray} (h : At w b e #[.string s]) : Rd w nX 1 (.slice (some ⟨b, 0, none⟩) 1 1) 1 (strs [s]) := by have := Rd.lit (X := nX) (size := 1) (n := 1) h (fun x => x) rfl; simpa [strs] using this
theorem rd_t1 {w : World} {b : Nat} {e : TypeId} {q : Tv} (h : At w b e q.vals.toArray) : Rd w nX 4 (.slice (some ⟨b, 0, none⟩) 1 1) 1 (tflat [q]) := by have := Rd.lit (X := nX) (size := 4) (n := 1) h (fun x => x) rfl; simpa [tflat] using this
/-- A type without parts reads alike everywhere. -/
theorem TyV.bare {w w' : World} {X Y : Nat → Prop} {q : Tv} {t : Ty} (h : TyV w X q t) (hn : t.names = []) (hk : t.kids = []) : TyV w' Y q t := by
  have h1 := h.out.1
  have h2 := h.out.2.1
  have h3 := h.out.2.2.1
  have h4 := h.out.2.2.2.1
  obtain ⟨rs, h5, h6, h7, h8⟩ := h.kds
  rw [hn] at h3 h4
  rw [hk] at h5 h8
  have hn0 : q.nn = 0 := h3
  have hk0 : q.nk = 0 := h5
  have hrs : rs = [] := by cases rs with | nil => rfl | cons _ _ => exact h8.elim
  refine TyV.mk (rs := []) h1 h2 (by rw [hn]; exact h3) ?_ (by rw [hk]; exact h5) ?_ (by rw [hk]; trivial)
  · obtain ⟨hl, A, cap, hv, hc, hr⟩ := h4
    rw [hn]
    exact ⟨hl, A, cap, hv, hc, fun h0 => by omega⟩
  · obtain ⟨hl, A, cap, hv, hc, hr⟩ := h7
    exact ⟨by simp [tflat, hk0], A, cap, hv, hc, fun h0 => by omega⟩
def BiA (w : World) (k : Nat) (a b : Value) (wr : World) : Prop := k = 1 ∧ a = .slice none 0 0 ∧ b = .int .i64 0 ∧ wr = w
set_option maxRecDepth 100000 in
set_option maxHeartbeats 2000000 in
theorem bind_aw {w : World} {vb lb : Nat} (hT : Tab w) (hv : At w vb 53 #[.string ⟨#[65]⟩, .int .i64 3, .string ⟨#[]⟩, .slice none 0 0, .slice none 0 0]) (hl : At w lb 25 #[.int .i64 4, .string ⟨#[]⟩, .slice none 0 0, .slice none 0 0]) :
    Calls Tryd.prog 37 #[.slice (some ⟨vb, 0, none⟩) 1 1, .slice (some ⟨lb, 0, none⟩) 1 1] w fun e w' => e = .returned (.int .i64 18) ∧ Keep (fun _ => False) w w' := by
  have H := Lib.hid (And.intro hT (And.intro hv hl))
  have h0 : Hid (BiA w 1 (.slice none 0 0) (.int .i64 0) w) := ⟨rfl, rfl, rfl, rfl⟩
  clear hT hv hl
  go_enter Tryd.func37, Tryd.ntmps37
  go_wp2_with fail
  go_loopg [5, 17] 1 (BiA w)
  case atStart => exact h0.out
  case round =>
    clear h0
    obtain ⟨rfl, rfl, rfl, rfl⟩ := hrel
    have kal : Keep (fun _ => False) wr (wr.alloc (.cells #[.string ⟨#[65]⟩, .int .i64 3, .string ⟨#[]⟩, .slice none 0 0, .slice none 0 0] 53)) := (Keep.refl _ wr).alloc _
    have hn := normal8_any (r := ⟨4, ⟨#[]⟩, none, 0, 0, none, 0, 0⟩) (t := eS) (H.out.1.step kal) (tv_base 4)
    rw [normb_S] at hn
    unfold Tv.val at hn
    simp only at hn
    obtain ⟨ll, l0, l1, l2, l3⟩ := H.out.2.2.tcells
    have vl := H.out.2.1.lt
    have v0 := H.out.2.1.cell 0
    have v1 := H.out.2.1.cell 1
    have v2 := H.out.2.1.cell 2
    have v3 := H.out.2.1.cell 3
    have v4 := H.out.2.1.cell 4
    simp only [List.getElem?_toArray, List.getElem?_cons_succ, List.getElem?_cons_zero] at v0 v1 v2 v3 v4
    have HK := Lib.hid kal
    clear kal
    go_upto_region 10 with (go_at_call 51; refine hn.mono ?_; rintro e w2 ⟨rfl, hk⟩; have ab := hk.at_ (At.new wr 53 #[.string ⟨#[65]⟩, .int .i64 3, .string ⟨#[]⟩, .slice none 0 0, .slice none 0 0]) (fun x => x); have bl := ab.lt; have b0 := ab.cell 0; have b1 := ab.cell 1; have b2 := ab.cell 2; have b3 := ab.cell 3; have b4 := ab.cell 4; simp only [List.getElem?_toArray, List.getElem?_cons_succ, List.getElem?_cons_zero] at b0 b1 b2 b3 b4; have K2 := Lib.hid (And.intro (HK.out.trans hk (fun _ _ x => x)) ab); clear hk hn ab ll l0 l1 l2 l3 vl v0 v1 v2 v3 v4)
    generalize wr.heap.size = vx at *
    have hrs : ∀ w', Keep (fun _ => False) w2 w' → Calls Tryd.prog 23 #[.agg #[.int .i64 3, .string ⟨#[]⟩, .slice none 0 0, .slice none 0 0], .slice none 0 0, .slice (some ⟨lb, 0, none⟩) 0 1] w' fun e w'' => ResP nX (some eI, 0) e w'' ∧ Keep (fun _ => False) w' w'' := fun w' hk => by
      have := resolve_any (w := w') (X := nX) (r := ⟨3, ⟨#[]⟩, none, 0, 0, none, 0, 0⟩) (t := eI) (vs := []) (ws := []) (rs := []) (Av := none) (Aw := some ⟨lb, 0, none⟩) (nv := 0) (cv := 0) (nw := 0) (cw := 1) (fun _ h => h.elim) ((H.out.1.step K2.out.1).step hk) (tv_base 3) (by decide) (Rd.nil _ _ 1) ⟨by simp [tflat], some ⟨lb, 0, none⟩, 1, rfl, Nat.zero_le _, fun h => absurd h (Nat.lt_irrefl _)⟩ trivial
      rw [res_C] at this
      exact this
    have HRS := Lib.hid hrs
    clear hrs
    have KC : Hid (Keep (fun _ => False) w2 w2) := Keep.refl _ _
    go_region_with (first
      | (go_at_call 23; refine (HRS.out (w2.drew.alloc (.cells #[.int .i64 0, .string ⟨#[]⟩, .slice none 0 0, .slice none 0 0] 25)) ((Keep.refl _ w2).drew.alloc _)).mono ?_; rintro e w3 ⟨⟨⟨qk, qnm, qAn, qnn, qcn, qAk, qnk, qck⟩, he, hq⟩, hk⟩; simp only [Tv.val] at he; subst he; have az : At w3 w2.heap.size 25 #[.int .i64 0, .string ⟨#[]⟩, .slice none 0 0, .slice none 0 0] := hk.at_ (At.new w2.drew 25 #[.int .i64 0, .string ⟨#[]⟩, .slice none 0 0, .slice none 0 0]) (fun x => x); obtain ⟨zl, z0, z1, z2, z3⟩ := az.tcells; have zf0 := az.frozen 0; have zf1 := az.frozen 1; have zf2 := az.frozen 2; have zf3 := az.frozen 3; have HZ := Lib.hid az; clear az; have H3 := Lib.hid (And.intro (((Keep.refl (fun _ => False) w2).drew.alloc (.cells #[.int .i64 0, .string ⟨#[]⟩, .slice none 0 0, .slice none 0 0] 25)).trans hk (fun _ _ x => x)) hq); clear hk hq)
      | (go_at_call 23; refine (HRS.out ((w2.alloc (.cells #[.int .i64 0, .string ⟨#[]⟩, .slice none 0 0, .slice none 0 0] 25)).drew) ((Keep.refl _ w2).alloc _).drew).mono ?_; rintro e w3 ⟨⟨⟨qk, qnm, qAn, qnn, qcn, qAk, qnk, qck⟩, he, hq⟩, hk⟩; simp only [Tv.val] at he; subst he; have az : At w3 w2.heap.size 25 #[.int .i64 0, .string ⟨#[]⟩, .slice none 0 0, .slice none 0 0] := hk.at_ ((At.new w2 25 #[.int .i64 0, .string ⟨#[]⟩, .slice none 0 0, .slice none 0 0]).drew) (fun x => x); obtain ⟨zl, z0, z1, z2, z3⟩ := az.tcells; have zf0 := az.frozen 0; have zf1 := az.frozen 1; have zf2 := az.frozen 2; have zf3 := az.frozen 3; have HZ := Lib.hid az; clear az; have H3 := Lib.hid (And.intro (((Keep.refl (fun _ => False) w2).alloc (.cells #[.int .i64 0, .string ⟨#[]⟩, .slice none 0 0, .slice none 0 0] 25)).drew.trans hk (fun _ _ x => x)) hq); clear hk hq)
      | (go_at_call 23; refine (HRS.out w2.drew (Keep.refl _ w2).drew).mono ?_; rintro e w3 ⟨⟨⟨qk, qnm, qAn, qnn, qcn, qAk, qnk, qck⟩, he, hq⟩, hk⟩; simp only [Tv.val] at he; subst he; have H3 := Lib.hid (And.intro ((Keep.refl (fun _ => False) w2).drew.trans hk (fun _ _ x => x)) hq); clear hk hq))
    · go_simp
      go_upto_region 11 with fail
      refine gen_world ?_
      intro W5 hW5
      have K5 : Hid (Keep (fun _ => False) wr W5) := by rw [hW5]; exact (K2.out.1.trans H3.out.1 (fun _ _ x => x)).alloc _
      have a8 : At W5 w3.heap.size 25 #[.int .i64 qk, .string qnm, .slice qAn qnn qcn, .slice qAk qnk qck] := by rw [hW5]; exact At.new _ _ _
      clear hW5
      generalize w3.heap.size = p8 at *
      have al := K5.out.at_ H.out.2.2 (fun x => x)
      have hsk : Hid (∀ w', Keep (fun _ => False) W5 w' → (lb < w'.heap.size ∧ w'.cell? ⟨lb, 0, none⟩ = some (.int .i64 4) ∧ w'.cell? ⟨lb, 1, none⟩ = some (.string ⟨#[]⟩) ∧ w'.cell? ⟨lb, 2, none⟩ = some (.slice none 0 0) ∧ w'.cell? ⟨lb, 3, none⟩ = some (.slice none 0 0)) ∧ (p8 < w'.heap.size ∧ w'.cell? ⟨p8, 0, none⟩ = some (.int .i64 qk) ∧ w'.cell? ⟨p8, 1, none⟩ = some (.string qnm) ∧ w'.cell? ⟨p8, 2, none⟩ = some (.slice qAn qnn qcn) ∧ w'.cell? ⟨p8, 3, none⟩ = some (.slice qAk qnk qck))) := fun w' hk => ⟨(hk.at_ al (fun x => x)).tcells, (hk.at_ a8 (fun x => x)).tcells⟩
      have kd3 : Hid (Keep (fun _ => False) W5 W5.drew) := (Keep.refl _ _).drew
      have hcs := rsub_any (a := eS) (b := eI) (r := ⟨4, ⟨#[]⟩, none, 0, 0, none, 0, 0⟩) (r' := ⟨qk, qnm, qAn, qnn, qcn, qAk, qnk, qck⟩) ((H.out.1.step K5.out).step kd3.out) (tv_base 4) (H3.out.2.bare (w' := W5.drew) (Y := nX) rfl rfl)
      rw [sub_SI] at hcs
      unfold Tv.val at hcs
      simp only at hcs
      clear al a8
      have i0 : (0 : Int) ≤ 0 := by omega
      refine wp_region_held_n (S := fun w' => (lb < w'.heap.size ∧ w'.cell? ⟨lb, 0, none⟩ = some (.int .i64 4) ∧ w'.cell? ⟨lb, 1, none⟩ = some (.string ⟨#[]⟩) ∧ w'.cell? ⟨lb, 2, none⟩ = some (.slice none 0 0) ∧ w'.cell? ⟨lb, 3, none⟩ = some (.slice none 0 0)) ∧ (p8 < w'.heap.size ∧ w'.cell? ⟨p8, 0, none⟩ = some (.int .i64 qk) ∧ w'.cell? ⟨p8, 1, none⟩ = some (.string qnm) ∧ w'.cell? ⟨p8, 2, none⟩ = some (.slice qAn qnn qcn) ∧ w'.cell? ⟨p8, 3, none⟩ = some (.slice qAk qnk qck))) 11 rfl (by kernel_rfl) ?_ (fun hHeld => ?_)
      · exact hsk.out _ kd3.out
      refine' wpAnyH_tk (i := 0) (v := _) rfl (by kernel_rfl) (by decide +kernel) (by decide +kernel) (fun _ _ _ h => h) (Or.inl ⟨by rfl, ?_⟩) (by assumption) ?_
      rotate_left
      · (intro w hSw; (try dsimp only at hSw); (try go_simp); (try (with_reducible rfl)))
      (try simp only [Act.put, List.setIfInBounds_toArray, List.set_cons_zero, List.set_cons_succ])
      refine' wpAnyH_tk (i := 1) (v := _) rfl (by kernel_rfl) (by decide +kernel) (by decide +kernel) (fun _ _ _ h => h) (Or.inl ⟨by rfl, ?_⟩) (by assumption) ?_
      rotate_left
      · (intro w hSw; (try dsimp only at hSw); (try go_simp); (try (with_reducible rfl)))
      (try simp only [Act.put, List.setIfInBounds_toArray, List.set_cons_zero, List.set_cons_succ])
      refine' wpAnyH_tk (i := 2) (v := _) rfl (by kernel_rfl) (by decide +kernel) (by decide +kernel) (fun _ _ _ h => h) (Or.inl ⟨by rfl, ?_⟩) (by assumption) ?_
      rotate_left
      · (intro w hSw; (try dsimp only at hSw); (try go_simp); (try (with_reducible rfl)))
      (try simp only [Act.put, List.setIfInBounds_toArray, List.set_cons_zero, List.set_cons_succ])
      refine' wpAnyH_tk (i := 3) (v := _) rfl (by kernel_rfl) (by decide +kernel) (by decide +kernel) (fun _ _ _ h => h) (Or.inl ⟨by rfl, ?_⟩) (by assumption) ?_
      rotate_left
      · (intro w hSw; (try dsimp only at hSw); (try go_simp); (try (with_reducible rfl)))
      (try simp only [Act.put, List.setIfInBounds_toArray, List.set_cons_zero, List.set_cons_succ])
      refine' wpAnyH_tk (i := 4) (v := _) rfl (by kernel_rfl) (by decide +kernel) (by decide +kernel) (fun _ _ _ h => h) (Or.inl ⟨by rfl, ?_⟩) (by assumption) ?_
      rotate_left
      · (intro w hSw; (try dsimp only at hSw); (try go_simp); (try (with_reducible rfl)))
      (try simp only [Act.put, List.setIfInBounds_toArray, List.set_cons_zero, List.set_cons_succ])
      refine' wpAnyH_tk (i := 5) (v := _) rfl (by kernel_rfl) (by decide +kernel) (by decide +kernel) (fun _ _ _ h => h) (Or.inl ⟨by rfl, ?_⟩) (by assumption) ?_
      rotate_left
      · (intro w hSw; (try dsimp only at hSw); (try go_simp); (try (with_reducible rfl)))
      (try simp only [Act.put, List.setIfInBounds_toArray, List.set_cons_zero, List.set_cons_succ])
      refine' wpAnyH_tk (i := 6) (v := _) rfl (by kernel_rfl) (by decide +kernel) (by decide +kernel) (fun _ _ _ h => h) (Or.inl ⟨by rfl, ?_⟩) (by assumption) ?_
      rotate_left
      · (intro w hSw; (try dsimp only at hSw); (try go_simp); (try (with_reducible rfl)))
      (try simp only [Act.put, List.setIfInBounds_toArray, List.set_cons_zero, List.set_cons_succ])
      refine' wpAnyH_tk (i := 7) (v := _) rfl (by kernel_rfl) (by decide +kernel) (by decide +kernel) (fun _ _ _ h => h) (Or.inl ⟨by rfl, ?_⟩) (by assumption) ?_
      rotate_left
      · (intro w hSw; (try dsimp only at hSw); (try go_simp); (try (with_reducible rfl)))
      (try simp only [Act.put, List.setIfInBounds_toArray, List.set_cons_zero, List.set_cons_succ])
      refine wpAnyH_ready (rs := [8]) (by decide +kernel) (by simp) ?_
      refine AllReadyH_one rfl (fun K hK => ?_)
      go_simp
      go_at_call 16
      refine hcs.mono ?_
      rintro e w6 ⟨rfl, hk6⟩
      have KA := Lib.hid (kd3.out.trans hk6 (fun _ _ x => x))
      clear hk6 hcs
      refine hK.out _ _ ?_ (fun hHeld => ?_)
      · exact hsk.out _ KA.out
      clear hK K
      (try simp only [Act.put, List.setIfInBounds_toArray, List.set_cons_zero, List.set_cons_succ])
      refine' wpAnyH_tk (i := 9) (v := _) rfl (by kernel_rfl) (by decide +kernel) (by decide +kernel) (fun _ _ _ h => h) (Or.inl ⟨by rfl, ?_⟩) (by assumption) ?_
      rotate_left
      · (intro w hSw; (try dsimp only at hSw); (try go_simp); (try (with_reducible rfl)))
      (try simp only [Act.put, List.setIfInBounds_toArray, List.set_cons_zero, List.set_cons_succ])
      refine' wpAnyH_tk (i := 10) (v := _) rfl (by kernel_rfl) (by decide +kernel) (by decide +kernel) (fun _ _ _ h => h) (Or.inl ⟨by rfl, ?_⟩) (by assumption) ?_
      rotate_left
      · (intro w hSw; (try dsimp only at hSw); (try go_simp); (try (with_reducible rfl)))
      (try simp only [Act.put, List.setIfInBounds_toArray, List.set_cons_zero, List.set_cons_succ])
      refine wpAnyH_done (by decide +kernel) ?_ _
      go_wp2_with fail
      go_ret
      exact ⟨rfl, K5.out.trans KA.out (fun _ _ x => x)⟩
    · go_simp
      go_upto_region 11 with fail
      refine gen_world ?_
      intro W5 hW5
      have K5 : Hid (Keep (fun _ => False) wr W5) := by rw [hW5]; exact (K2.out.1.trans (H3.out.1.weak (Keep.set4 (Keep.refl (fun j => j = w2.heap.size) w3) (.inl rfl) (.int .i64 qk) (.string qnm) (.slice qAn qnn qcn) (.slice qAk qnk qck)) (fun j hj => Nat.le_of_eq hj.symm)) (fun _ _ x => x))
      have a8 : At W5 w2.heap.size 25 #[.int .i64 qk, .string qnm, .slice qAn qnn qcn, .slice qAk qnk qck] := by rw [hW5]; exact (((HZ.out.set 0 _).set 1 _).set 2 _).set 3 _
      clear hW5
      generalize w2.heap.size = p8 at *
      have al := K5.out.at_ H.out.2.2 (fun x => x)
      have hsk : Hid (∀ w', Keep (fun _ => False) W5 w' → (lb < w'.heap.size ∧ w'.cell? ⟨lb, 0, none⟩ = some (.int .i64 4) ∧ w'.cell? ⟨lb, 1, none⟩ = some (.string ⟨#[]⟩) ∧ w'.cell? ⟨lb, 2, none⟩ = some (.slice none 0 0) ∧ w'.cell? ⟨lb, 3, none⟩ = some (.slice none 0 0)) ∧ (p8 < w'.heap.size ∧ w'.cell? ⟨p8, 0, none⟩ = some (.int .i64 qk) ∧ w'.cell? ⟨p8, 1, none⟩ = some (.string qnm) ∧ w'.cell? ⟨p8, 2, none⟩ = some (.slice qAn qnn qcn) ∧ w'.cell? ⟨p8, 3, none⟩ = some (.slice qAk qnk qck))) := fun w' hk => ⟨(hk.at_ al (fun x => x)).tcells, (hk.at_ a8 (fun x => x)).tcells⟩
      have kd3 : Hid (Keep (fun _ => False) W5 W5.drew) := (Keep.refl _ _).drew
      have hcs := rsub_any (a := eS) (b := eI) (r := ⟨4, ⟨#[]⟩, none, 0, 0, none, 0, 0⟩) (r' := ⟨qk, qnm, qAn, qnn, qcn, qAk, qnk, qck⟩) ((H.out.1.step K5.out).step kd3.out) (tv_base 4) (H3.out.2.bare (w' := W5.drew) (Y := nX) rfl rfl)
      rw [sub_SI] at hcs
      unfold Tv.val at hcs
      simp only at hcs
      clear al a8
      have i0 : (0 : Int) ≤ 0 := by omega
      refine wp_region_held_n (S := fun w' => (lb < w'.heap.size ∧ w'.cell? ⟨lb, 0, none⟩ = some (.int .i64 4) ∧ w'.cell? ⟨lb, 1, none⟩ = some (.string ⟨#[]⟩) ∧ w'.cell? ⟨lb, 2, none⟩ = some (.slice none 0 0) ∧ w'.cell? ⟨lb, 3, none⟩ = some (.slice none 0 0)) ∧ (p8 < w'.heap.size ∧ w'.cell? ⟨p8, 0, none⟩ = some (.int .i64 qk) ∧ w'.cell? ⟨p8, 1, none⟩ = some (.string qnm) ∧ w'.cell? ⟨p8, 2, none⟩ = some (.slice qAn qnn qcn) ∧ w'.cell? ⟨p8, 3, none⟩ = some (.slice qAk qnk qck))) 11 rfl (by kernel_rfl) ?_ (fun hHeld => ?_)
      · exact hsk.out _ kd3.out
      refine' wpAnyH_tk (i := 0) (v := _) rfl (by kernel_rfl) (by decide +kernel) (by decide +kernel) (fun _ _ _ h => h) (Or.inl ⟨by rfl, ?_⟩) (by assumption) ?_
      rotate_left
      · (intro w hSw; (try dsimp only at hSw); (try go_simp); (try (with_reducible rfl)))
      (try simp only [Act.put, List.setIfInBounds_toArray, List.set_cons_zero, List.set_cons_succ])
      refine' wpAnyH_tk (i := 1) (v := _) rfl (by kernel_rfl) (by decide +kernel) (by decide +kernel) (fun _ _ _ h => h) (Or.inl ⟨by rfl, ?_⟩) (by assumption) ?_
      rotate_left
      · (intro w hSw; (try dsimp only at hSw); (try go_simp); (try (with_reducible rfl)))
      (try simp only [Act.put, List.setIfInBounds_toArray, List.set_cons_zero, List.set_cons_succ])
      refine' wpAnyH_tk (i := 2) (v := _) rfl (by kernel_rfl) (by decide +kernel) (by decide +kernel) (fun _ _ _ h => h) (Or.inl ⟨by rfl, ?_⟩) (by assumption) ?_
      rotate_left
      · (intro w hSw; (try dsimp only at hSw); (try go_simp); (try (with_reducible rfl)))
      (try simp only [Act.put, List.setIfInBounds_toArray, List.set_cons_zero, List.set_cons_succ])
      refine' wpAnyH_tk (i := 3) (v := _) rfl (by kernel_rfl) (by decide +kernel) (by decide +kernel) (fun _ _ _ h => h) (Or.inl ⟨by rfl, ?_⟩) (by assumption) ?_
      rotate_left
      · (intro w hSw; (try dsimp only at hSw); (try go_simp); (try (with_reducible rfl)))
      (try simp only [Act.put, List.setIfInBounds_toArray, List.set_cons_zero, List.set_cons_succ])
      refine' wpAnyH_tk (i := 4) (v := _) rfl (by kernel_rfl) (by decide +kernel) (by decide +kernel) (fun _ _ _ h => h) (Or.inl ⟨by rfl, ?_⟩) (by assumption) ?_
      rotate_left
      · (intro w hSw; (try dsimp only at hSw); (try go_simp); (try (with_reducible rfl)))
      (try simp only [Act.put, List.setIfInBounds_toArray, List.set_cons_zero, List.set_cons_succ])
      refine' wpAnyH_tk (i := 5) (v := _) rfl (by kernel_rfl) (by decide +kernel) (by decide +kernel) (fun _ _ _ h => h) (Or.inl ⟨by rfl, ?_⟩) (by assumption) ?_
      rotate_left
      · (intro w hSw; (try dsimp only at hSw); (try go_simp); (try (with_reducible rfl)))
      (try simp only [Act.put, List.setIfInBounds_toArray, List.set_cons_zero, List.set_cons_succ])
      refine' wpAnyH_tk (i := 6) (v := _) rfl (by kernel_rfl) (by decide +kernel) (by decide +kernel) (fun _ _ _ h => h) (Or.inl ⟨by rfl, ?_⟩) (by assumption) ?_
      rotate_left
      · (intro w hSw; (try dsimp only at hSw); (try go_simp); (try (with_reducible rfl)))
      (try simp only [Act.put, List.setIfInBounds_toArray, List.set_cons_zero, List.set_cons_succ])
      refine' wpAnyH_tk (i := 7) (v := _) rfl (by kernel_rfl) (by decide +kernel) (by decide +kernel) (fun _ _ _ h => h) (Or.inl ⟨by rfl, ?_⟩) (by assumption) ?_
      rotate_left
      · (intro w hSw; (try dsimp only at hSw); (try go_simp); (try (with_reducible rfl)))
      (try simp only [Act.put, List.setIfInBounds_toArray, List.set_cons_zero, List.set_cons_succ])
      refine wpAnyH_ready (rs := [8]) (by decide +kernel) (by simp) ?_
      refine AllReadyH_one rfl (fun K hK => ?_)
      go_simp
      go_at_call 16
      refine hcs.mono ?_
      rintro e w6 ⟨rfl, hk6⟩
      have KA := Lib.hid (kd3.out.trans hk6 (fun _ _ x => x))
      clear hk6 hcs
      refine hK.out _ _ ?_ (fun hHeld => ?_)
      · exact hsk.out _ KA.out
      clear hK K
      (try simp only [Act.put, List.setIfInBounds_toArray, List.set_cons_zero, List.set_cons_succ])
      refine' wpAnyH_tk (i := 9) (v := _) rfl (by kernel_rfl) (by decide +kernel) (by decide +kernel) (fun _ _ _ h => h) (Or.inl ⟨by rfl, ?_⟩) (by assumption) ?_
      rotate_left
      · (intro w hSw; (try dsimp only at hSw); (try go_simp); (try (with_reducible rfl)))
      (try simp only [Act.put, List.setIfInBounds_toArray, List.set_cons_zero, List.set_cons_succ])
      refine' wpAnyH_tk (i := 10) (v := _) rfl (by kernel_rfl) (by decide +kernel) (by decide +kernel) (fun _ _ _ h => h) (Or.inl ⟨by rfl, ?_⟩) (by assumption) ?_
      rotate_left
      · (intro w hSw; (try dsimp only at hSw); (try go_simp); (try (with_reducible rfl)))
      (try simp only [Act.put, List.setIfInBounds_toArray, List.set_cons_zero, List.set_cons_succ])
      refine wpAnyH_done (by decide +kernel) ?_ _
      go_wp2_with fail
      go_ret
      exact ⟨rfl, K5.out.trans KA.out (fun _ _ x => x)⟩
    · go_simp
      go_upto_region 11 with fail
      refine gen_world ?_
      intro W5 hW5
      have K5 : Hid (Keep (fun _ => False) wr W5) := by rw [hW5]; exact (K2.out.1.trans (H3.out.1.weak (Keep.set4 (Keep.refl (fun j => j = w2.heap.size) w3) (.inl rfl) (.int .i64 qk) (.string qnm) (.slice qAn qnn qcn) (.slice qAk qnk qck)) (fun j hj => Nat.le_of_eq hj.symm)) (fun _ _ x => x))
      have a8 : At W5 w2.heap.size 25 #[.int .i64 qk, .string qnm, .slice qAn qnn qcn, .slice qAk qnk qck] := by rw [hW5]; exact (((HZ.out.set 0 _).set 1 _).set 2 _).set 3 _
      clear hW5
      generalize w2.heap.size = p8 at *
      have al := K5.out.at_ H.out.2.2 (fun x => x)
      have hsk : Hid (∀ w', Keep (fun _ => False) W5 w' → (lb < w'.heap.size ∧ w'.cell? ⟨lb, 0, none⟩ = some (.int .i64 4) ∧ w'.cell? ⟨lb, 1, none⟩ = some (.string ⟨#[]⟩) ∧ w'.cell? ⟨lb, 2, none⟩ = some (.slice none 0 0) ∧ w'.cell? ⟨lb, 3, none⟩ = some (.slice none 0 0)) ∧ (p8 < w'.heap.size ∧ w'.cell? ⟨p8, 0, none⟩ = some (.int .i64 qk) ∧ w'.cell? ⟨p8, 1, none⟩ = some (.string qnm) ∧ w'.cell? ⟨p8, 2, none⟩ = some (.slice qAn qnn qcn) ∧ w'.cell? ⟨p8, 3, none⟩ = some (.slice qAk qnk qck))) := fun w' hk => ⟨(hk.at_ al (fun x => x)).tcells, (hk.at_ a8 (fun x => x)).tcells⟩
      have kd3 : Hid (Keep (fun _ => False) W5 W5.drew) := (Keep.refl _ _).drew
      have hcs := rsub_any (a := eS) (b := eI) (r := ⟨4, ⟨#[]⟩, none, 0, 0, none, 0, 0⟩) (r' := ⟨qk, qnm, qAn, qnn, qcn, qAk, qnk, qck⟩) ((H.out.1.step K5.out).step kd3.out) (tv_base 4) (H3.out.2.bare (w' := W5.drew) (Y := nX) rfl rfl)
      rw [sub_SI] at hcs
      unfold Tv.val at hcs
      simp only at hcs
      clear al a8
      have i0 : (0 : Int) ≤ 0 := by omega
      refine wp_region_held_n (S := fun w' => (lb < w'.heap.size ∧ w'.cell? ⟨lb, 0, none⟩ = some (.int .i64 4) ∧ w'.cell? ⟨lb, 1, none⟩ = some (.string ⟨#[]⟩) ∧ w'.cell? ⟨lb, 2, none⟩ = some (.slice none 0 0) ∧ w'.cell? ⟨lb, 3, none⟩ = some (.slice none 0 0)) ∧ (p8 < w'.heap.size ∧ w'.cell? ⟨p8, 0, none⟩ = some (.int .i64 qk) ∧ w'.cell? ⟨p8, 1, none⟩ = some (.string qnm) ∧ w'.cell? ⟨p8, 2, none⟩ = some (.slice qAn qnn qcn) ∧ w'.cell? ⟨p8, 3, none⟩ = some (.slice qAk qnk qck))) 11 rfl (by kernel_rfl) ?_ (fun hHeld => ?_)
      · exact hsk.out _ kd3.out
      refine' wpAnyH_tk (i := 0) (v := _) rfl (by kernel_rfl) (by decide +kernel) (by decide +kernel) (fun _ _ _ h => h) (Or.inl ⟨by rfl, ?_⟩) (by assumption) ?_
      rotate_left
      · (intro w hSw; (try dsimp only at hSw); (try go_simp); (try (with_reducible rfl)))
      (try simp only [Act.put, List.setIfInBounds_toArray, List.set_cons_zero, List.set_cons_succ])
      refine' wpAnyH_tk (i := 1) (v := _) rfl (by kernel_rfl) (by decide +kernel) (by decide +kernel) (fun _ _ _ h => h) (Or.inl ⟨by rfl, ?_⟩) (by assumption) ?_
      rotate_left
      · (intro w hSw; (try dsimp only at hSw); (try go_simp); (try (with_reducible rfl)))
      (try simp only [Act.put, List.setIfInBounds_toArray, List.set_cons_zero, List.set_cons_succ])
      refine' wpAnyH_tk (i := 2) (v := _) rfl (by kernel_rfl) (by decide +kernel) (by decide +kernel) (fun _ _ _ h => h) (Or.inl ⟨by rfl, ?_⟩) (by assumption) ?_
      rotate_left
      · (intro w hSw; (try dsimp only at hSw); (try go_simp); (try (with_reducible rfl)))
      (try simp only [Act.put, List.setIfInBounds_toArray, List.set_cons_zero, List.set_cons_succ])
      refine' wpAnyH_tk (i := 3) (v := _) rfl (by kernel_rfl) (by decide +kernel) (by decide +kernel) (fun _ _ _ h => h) (Or.inl ⟨by rfl, ?_⟩) (by assumption) ?_
      rotate_left
      · (intro w hSw; (try dsimp only at hSw); (try go_simp); (try (with_reducible rfl)))
      (try simp only [Act.put, List.setIfInBounds_toArray, List.set_cons_zero, List.set_cons_succ])
      refine' wpAnyH_tk (i := 4) (v := _) rfl (by kernel_rfl) (by decide +kernel) (by decide +kernel) (fun _ _ _ h => h) (Or.inl ⟨by rfl, ?_⟩) (by assumption) ?_
      rotate_left
      · (intro w hSw; (try dsimp only at hSw); (try go_simp); (try (with_reducible rfl)))
      (try simp only [Act.put, List.setIfInBounds_toArray, List.set_cons_zero, List.set_cons_succ])
      refine' wpAnyH_tk (i := 5) (v := _) rfl (by kernel_rfl) (by decide +kernel) (by decide +kernel) (fun _ _ _ h => h) (Or.inl ⟨by rfl, ?_⟩) (by assumption) ?_
      rotate_left
      · (intro w hSw; (try dsimp only at hSw); (try go_simp); (try (with_reducible rfl)))
      (try simp only [Act.put, List.setIfInBounds_toArray, List.set_cons_zero, List.set_cons_succ])
      refine' wpAnyH_tk (i := 6) (v := _) rfl (by kernel_rfl) (by decide +kernel) (by decide +kernel) (fun _ _ _ h => h) (Or.inl ⟨by rfl, ?_⟩) (by assumption) ?_
      rotate_left
      · (intro w hSw; (try dsimp only at hSw); (try go_simp); (try (with_reducible rfl)))
      (try simp only [Act.put, List.setIfInBounds_toArray, List.set_cons_zero, List.set_cons_succ])
      refine' wpAnyH_tk (i := 7) (v := _) rfl (by kernel_rfl) (by decide +kernel) (by decide +kernel) (fun _ _ _ h => h) (Or.inl ⟨by rfl, ?_⟩) (by assumption) ?_
      rotate_left
      · (intro w hSw; (try dsimp only at hSw); (try go_simp); (try (with_reducible rfl)))
      (try simp only [Act.put, List.setIfInBounds_toArray, List.set_cons_zero, List.set_cons_succ])
      refine wpAnyH_ready (rs := [8]) (by decide +kernel) (by simp) ?_
      refine AllReadyH_one rfl (fun K hK => ?_)
      go_simp
      go_at_call 16
      refine hcs.mono ?_
      rintro e w6 ⟨rfl, hk6⟩
      have KA := Lib.hid (kd3.out.trans hk6 (fun _ _ x => x))
      clear hk6 hcs
      refine hK.out _ _ ?_ (fun hHeld => ?_)
      · exact hsk.out _ KA.out
      clear hK K
      (try simp only [Act.put, List.setIfInBounds_toArray, List.set_cons_zero, List.set_cons_succ])
      refine' wpAnyH_tk (i := 9) (v := _) rfl (by kernel_rfl) (by decide +kernel) (by decide +kernel) (fun _ _ _ h => h) (Or.inl ⟨by rfl, ?_⟩) (by assumption) ?_
      rotate_left
      · (intro w hSw; (try dsimp only at hSw); (try go_simp); (try (with_reducible rfl)))
      (try simp only [Act.put, List.setIfInBounds_toArray, List.set_cons_zero, List.set_cons_succ])
      refine' wpAnyH_tk (i := 10) (v := _) rfl (by kernel_rfl) (by decide +kernel) (by decide +kernel) (fun _ _ _ h => h) (Or.inl ⟨by rfl, ?_⟩) (by assumption) ?_
      rotate_left
      · (intro w hSw; (try dsimp only at hSw); (try go_simp); (try (with_reducible rfl)))
      (try simp only [Act.put, List.setIfInBounds_toArray, List.set_cons_zero, List.set_cons_succ])
      refine wpAnyH_done (by decide +kernel) ?_ _
      go_wp2_with fail
      go_ret
      exact ⟨rfl, K5.out.trans KA.out (fun _ _ x => x)⟩
set_option maxRecDepth 100000 in
set_option maxHeartbeats 2000000 in
theorem iawake_any {w : World} (hT : Tab w) :
    Calls Tryd.prog 21 #[] w fun e w' => e = .returned (.bool true) ∧ Keep (fun _ => False) w w' := by
  have H := Lib.hid hT
  clear hT
  go_enter Tryd.func21, Tryd.ntmps21
  go_upto_region 4 with fail
  refine gen_world ?_
  intro W hW
  have kW : Keep (fun _ => False) w W := by rw [hW]; exact (((Keep.refl _ w).alloc _).alloc _).alloc _
  have a0 : At W w.heap.size 25 #[.int .i64 8, .string ⟨#[65]⟩, .slice none 0 0, .slice none 0 0] := by rw [hW]; exact ((At.new_at (by simp)).alloc _).alloc _
  have a1 : At W (w.heap.size + 1) 25 #[.int .i64 3, .string ⟨#[]⟩, .slice none 0 0, .slice none 0 0] := by rw [hW]; exact (At.new_at (by simp)).alloc _
  have a2 : At W (w.heap.size + 1 + 1) 25 #[.int .i64 4, .string ⟨#[]⟩, .slice none 0 0, .slice none 0 0] := by rw [hW]; exact At.new_at (by simp)
  clear hW
  generalize w.heap.size + 1 + 1 = b2 at *
  generalize w.heap.size + 1 = b1 at *
  generalize w.heap.size = b0 at *
  have k4 : Keep (fun _ => False) W (((W.alloc (.cells #[.int .i64 8, .string ⟨#[65]⟩, .slice none 0 0, .slice none 0 0, .int .i64 3, .string ⟨#[]⟩, .slice none 0 0, .slice none 0 0] 25)).alloc (.cells #[.string ⟨#[65]⟩] 9)).alloc (.cells #[.int .i64 4, .string ⟨#[]⟩, .slice none 0 0, .slice none 0 0] 25)) := (((Keep.refl _ W).alloc _).alloc _).alloc _
  have hc := resolve_any (X := nX) (r := ⟨6, ⟨#[]⟩, none, 0, 0, some ⟨W.heap.size, 0, none⟩, 2, 2⟩) (t := eVF) (vs := [⟨#[65]⟩]) (ws := [eS]) (rs := [⟨4, ⟨#[]⟩, none, 0, 0, none, 0, 0⟩]) (fun _ h => h.elim) ((H.out.step kW).step k4)
    (tv_two (q1 := ⟨8, ⟨#[65]⟩, none, 0, 0, none, 0, 0⟩) (q2 := ⟨3, ⟨#[]⟩, none, 0, 0, none, 0, 0⟩) 6 (((At.new_at (by simp)).alloc _).alloc _ : At _ W.heap.size 25 #[.int .i64 8, .string ⟨#[65]⟩, .slice none 0 0, .slice none 0 0, .int .i64 3, .string ⟨#[]⟩, .slice none 0 0, .slice none 0 0]) (fun x => x) (tv_var _) (tv_base 3)) (by decide)
    (rd_s1 ((At.new_at (by simp)).alloc _ : At _ (W.heap.size + 1) 9 #[.string ⟨#[65]⟩])) (rd_t1 (q := ⟨4, ⟨#[]⟩, none, 0, 0, none, 0, 0⟩) (At.new_at (by simp) : At _ (W.heap.size + 1 + 1) 25 #[.int .i64 4, .string ⟨#[]⟩, .slice none 0 0, .slice none 0 0])) ⟨tv_base 4, trivial⟩
  rw [res_A] at hc
  unfold Tv.val at hc
  simp only at hc
  have HB := Lib.hid (And.intro kW (And.intro a0 (And.intro a1 (And.intro a2 k4))))
  obtain ⟨x0l, x00, x01, x02, x03⟩ := a0.tcells
  obtain ⟨x1l, x10, x11, x12, x13⟩ := a1.tcells
  obtain ⟨x2l, x20, x21, x22, x23⟩ := a2.tcells
  clear kW a0 a1 a2 k4
  go_upto_region 5 with (go_at_call 23; refine hc.mono ?_; rintro e w1 ⟨⟨⟨qk, qnm, qAn, qnn, qcn, qAk, qnk, qck⟩, he, hq⟩, hk⟩; simp only [Tv.val] at he; subst he; have H1 := Lib.hid (And.intro hk hq); clear hk hc hq)
  refine gen_world ?_
  intro W1 hW1
  have k1 : Keep (fun _ => False) W W1 := by rw [hW1]; exact (HB.out.2.2.2.2.trans H1.out.1 (fun _ _ x => x)).alloc _
  have a4 : At W1 w1.heap.size 25 #[.int .i64 qk, .string qnm, .slice qAn qnn qcn, .slice qAk qnk qck] := by rw [hW1]; exact At.new _ _ _
  have v4 := H1.out.2.step (show Keep (fun _ => False) w1 W1 by rw [hW1]; exact (Keep.refl _ w1).alloc _)
  clear hW1 H1 x0l x00 x01 x02 x03 x1l x10 x11 x12 x13 x2l x20 x21 x22 x23
  generalize w1.heap.size = b4 at *
  have k5 : Keep (fun _ => False) W1 ((W1.alloc (.cells #[.string ⟨#[66]⟩] 9)).alloc (.cells #[.int .i64 4, .string ⟨#[]⟩, .slice none 0 0, .slice none 0 0] 25)) := ((Keep.refl _ W1).alloc _).alloc _
  have hc := resolve_any (X := nX) (r := ⟨8, ⟨#[65]⟩, none, 0, 0, none, 0, 0⟩) (t := eV) (vs := [⟨#[66]⟩]) (ws := [eS]) (rs := [⟨4, ⟨#[]⟩, none, 0, 0, none, 0, 0⟩]) (fun _ h => h.elim) (((H.out.step HB.out.1).step k1).step k5)
    (tv_var _) (by decide) (rd_s1 ((At.new_at (by simp)).alloc _ : At _ W1.heap.size 9 #[.string ⟨#[66]⟩])) (rd_t1 (q := ⟨4, ⟨#[]⟩, none, 0, 0, none, 0, 0⟩) (At.new_at (by simp) : At _ (W1.heap.size + 1) 25 #[.int .i64 4, .string ⟨#[]⟩, .slice none 0 0, .slice none 0 0])) ⟨tv_base 4, trivial⟩
  rw [res_B] at hc
  unfold Tv.val at hc
  simp only at hc
  obtain ⟨x0l, x00, x01, x02, x03⟩ := (k1.at_ HB.out.2.1 (fun x => x)).tcells
  obtain ⟨x2l, x20, x21, x22, x23⟩ := (k1.at_ HB.out.2.2.2.1 (fun x => x)).tcells
  have HD := Lib.hid (And.intro k1 (And.intro a4 (And.intro v4 k5)))
  clear k1 a4 v4 k5
  go_upto_region 6 with (go_at_call 23; refine hc.mono ?_; rintro e w2 ⟨he, hk⟩; unfold ResP at he; simp only [Tv.val, tv0] at he; subst he; have H2 := Lib.hid hk; clear hk hc)
  refine gen_world ?_
  intro W2 hW2
  have k2 : Keep (fun _ => False) W1 W2 := by rw [hW2]; exact (HD.out.2.2.2.trans H2.out (fun _ _ x => x)).alloc _
  clear hW2 H2 x0l x00 x01 x02 x03 x2l x20 x21 x22 x23
  have k6 : Keep (fun _ => False) W2 (W2.alloc (.cells #[.int .i64 4, .string ⟨#[]⟩, .slice none 0 0, .slice none 0 0, .int .i64 3, .string ⟨#[]⟩, .slice none 0 0, .slice none 0 0] 25)) := (Keep.refl _ W2).alloc _
  have hs := rSame_any (X := nX) (Y := nX) (funOf eS eI) (funOf eS eI) (W2.alloc (.cells #[.int .i64 4, .string ⟨#[]⟩, .slice none 0 0, .slice none 0 0, .int .i64 3, .string ⟨#[]⟩, .slice none 0 0, .slice none 0 0] 25)) ⟨qk, qnm, qAn, qnn, qcn, qAk, qnk, qck⟩ ⟨6, ⟨#[]⟩, none, 0, 0, some ⟨W2.heap.size, 0, none⟩, 2, 2⟩ ((HD.out.2.2.1.step k2).step k6) (tv_two (q1 := ⟨4, ⟨#[]⟩, none, 0, 0, none, 0, 0⟩) (q2 := ⟨3, ⟨#[]⟩, none, 0, 0, none, 0, 0⟩) 6 (At.new_at (by simp) : At _ W2.heap.size 25 #[.int .i64 4, .string ⟨#[]⟩, .slice none 0 0, .slice none 0 0, .int .i64 3, .string ⟨#[]⟩, .slice none 0 0, .slice none 0 0]) (fun x => x) (tv_base 4) (tv_base 3))
  rw [sameT_refl] at hs
  unfold Tv.val at hs
  simp only at hs
  have kk2 := HD.out.1.trans k2 (fun _ _ x => x)
  obtain ⟨x1l, x10, x11, x12, x13⟩ := (kk2.at_ HB.out.2.2.1 (fun x => x)).tcells
  obtain ⟨x2l, x20, x21, x22, x23⟩ := (kk2.at_ HB.out.2.2.2.1 (fun x => x)).tcells
  obtain ⟨x4l, x40, x41, x42, x43⟩ := (k2.at_ HD.out.2.1 (fun x => x)).tcells
  have HE := Lib.hid (And.intro kk2 k6)
  clear kk2 k2 k6
  go_upto_region 7 with (go_at_call 25; refine hs.mono ?_; rintro e w3 ⟨rfl, hk⟩; have H3 := Lib.hid hk; clear hk hs)
  have k3 : Keep (fun _ => False) W w3 := (HE.out.1.trans HE.out.2 (fun _ _ x => x)).trans H3.out (fun _ _ x => x)
  clear x1l x10 x11 x12 x13 x2l x20 x21 x22 x23 x4l x40 x41 x42 x43 H3
  obtain ⟨x1l, x10, x11, x12, x13⟩ := (k3.at_ HB.out.2.2.1 (fun x => x)).tcells
  obtain ⟨x2l, x20, x21, x22, x23⟩ := (k3.at_ HB.out.2.2.2.1 (fun x => x)).tcells
  have k7 : Keep (fun _ => False) w3 ((w3.alloc (.cells #[.string ⟨#[65]⟩, .int .i64 3, .string ⟨#[]⟩, .slice none 0 0, .slice none 0 0] 53)).alloc (.cells #[.int .i64 4, .string ⟨#[]⟩, .slice none 0 0, .slice none 0 0] 25)) := ((Keep.refl _ w3).alloc _).alloc _
  have hb := bind_aw (((H.out.step HB.out.1).step k3).step k7) ((At.new_at (by simp)).alloc _ : At _ w3.heap.size 53 #[.string ⟨#[65]⟩, .int .i64 3, .string ⟨#[]⟩, .slice none 0 0, .slice none 0 0]) (At.new_at (by simp) : At _ (w3.heap.size + 1) 25 #[.int .i64 4, .string ⟨#[]⟩, .slice none 0 0, .slice none 0 0])
  have HF := Lib.hid (And.intro k3 k7)
  clear k3 k7
  go_wp2_with (go_at_call 37; refine hb.mono ?_; rintro e w4 ⟨rfl, hk⟩; have H4 := Lib.hid hk; clear hk hb)
  go_ret
  exact ⟨rfl, HB.out.1.trans ((HF.out.1.trans HF.out.2 (fun _ _ x => x)).trans H4.out (fun _ _ x => x)) (fun _ _ x => x)⟩
end Go.Proofs.YtbanpohholnkaaaDoor

namespace Go.Proofs.YtbanpohholnkaaaDoor
open Go.RowKit Go.ChangeShapes Go.WideShapes Go.ChangeAt Go.Deep

theorem run_app_by {P : Program} {w : World} (t ty : TypeId) {e : TypeId} {size bytes : Nat} (E : Elem P t e size bytes) (v : Value) (n : Nat) (xs : List Value) (hown : w.ownsRow 0 e size v n xs)
    {X : Nat → Prop} (x : Value) (m : Nat) (ys : List Value) (hx : Rd w X size x m ys) (h1 : ∀ u ∈ ys, u.oneCell' = true) (hm63 : n + m ≤ 9223372036854775807) (hbytes : (n + m) * bytes ≤ 140737488355328) :
    ∃ v' w', (Builtin.append_ #[t, t] ty #[v, x]).run P w = .ok v' w' ∧ w'.ownsRow 0 e size v' (n + m) (xs ++ ys) ∧ Keep (fun k => v.ownBlock = some k) w w' ∧ ∀ g, v'.ownBlock = some g → v.ownBlock = some g ∨ w.heap.size ≤ g := by
  obtain ⟨hu, ⟨i, z, hi, hz, hsz, hb2, hzs⟩, hpos⟩ := E
  obtain ⟨hl, A, cap, rfl, hc, hr⟩ := hx
  rcases A with _ | ad
  · have hm : m = 0 := by
      rcases Nat.eq_zero_or_pos m with h0 | h0
      · exact h0
      · obtain ⟨b, o, hA, _⟩ := hr h0
        cases hA
    subst hm
    have hy : ys = [] := List.eq_nil_of_length_eq_zero (by simpa using hl)
    subst hy
    refine ⟨v, w, ?_, by simpa using hown, Keep.refl _ _, fun g hg => .inl hg⟩
    rcases hown.2 with ⟨rfl, rfl⟩ | ⟨g, cap', cur, rfl, _, _, hnc, _⟩
    · simp [Builtin.append_, run_underlying hu, sizeOf, typeInfo, hi, Builtin.lenOf, Builtin.firstCells]
    · simp [Builtin.append_, run_underlying hu, sizeOf, typeInfo, hi, Builtin.lenOf, Builtin.firstCells, hnc, storeCells]
  · have hcells : ∀ j u, ys[j]? = some u → w.cell? (ad.add j) = some u := by
      intro j u hu'
      have hj : j < ys.length := (List.getElem?_eq_some_iff.1 hu').1
      have hm : 0 < m := by
        rcases Nat.eq_zero_or_pos m with h0 | h0
        · subst h0; omega
        · exact h0
      obtain ⟨b, o, hA, _, _, hcell⟩ := hr hm
      simp only [Option.some.injEq] at hA
      subst hA
      rw [Addr_lit, hcell j (by omega)]
      exact hu'
    obtain ⟨v', w', hrun, h2, h3, _, h5⟩ := run_append_own_at (P := P) w 0 t ty e i z size bytes hu hi hz hsz hb2 hzs hpos v n xs hown ad m cap ys hl hcells h1 (by unfold maxLen; omega) hbytes (Nat.zero_le _)
    refine ⟨v', w', hrun, h2, Keep.of_grown h3, fun g hg => ?_⟩
    rcases h5 with h5 | h5
    · exact .inl (by rw [← h5]; exact hg)
    · rw [h5] at hg
      simp only [Option.some.injEq] at hg
      exact .inr (by omega)
theorem wpList_app_by {P : Program} {w : World} {ops : Array Oper} {rest : List Oper} {o : Oper} {a : Act} {Q : Exit → Act → World → Prop} (hgd : o.guard = none) (s x : Operand) (t : TypeId)
    (ho : o.op = .call { callee := .builtin .append, args := #[s, x], argTypes := #[t, t] }) {e : TypeId} {size bytes : Nat} (E : Elem P t e size bytes)
    (v : Value) (n : Nat) (xs : List Value) (hs : a.eval s = v) (hown : w.ownsRow 0 e size v n xs)
    {X : Nat → Prop} (xv : Value) (m : Nat) (ys : List Value) (hx : a.eval x = xv) (hr : Rd w X size xv m ys) (h1 : ∀ u ∈ ys, u.oneCell' = true) (hm63 : n + m ≤ 9223372036854775807) (hbytes : (n + m) * bytes ≤ 140737488355328)
    (h : ∀ v' w', w'.ownsRow 0 e size v' (n + m) (xs ++ ys) → Keep (fun k => v.ownBlock = some k) w w' → (∀ g, v'.ownBlock = some g → v.ownBlock = some g ∨ w.heap.size ≤ g) → wpList P ops Q rest (a.put o.dst v') w') : wpList P ops Q (o :: rest) a w := by
  refine wpList_plain hgd fun K hK => ?_
  obtain ⟨v', w', hrun, h2, h3, h4⟩ := run_app_by (P := P) t o.type E v n xs hown xv m ys hr h1 hm63 hbytes
  unfold Oper.wp execOp
  simp only [ho, resolve, invoke, builtin, Sem.run_bind, Sem.run_pure, Result.andThen_ok, List.map_toArray, List.map_cons, List.map_nil, hs, hx, hrun]
  exact hK _ _ (h v' w' h2 h3 h4)
set_option maxRecDepth 100000 in
set_option maxHeartbeats 1000000 in
theorem open_tys {H : Type} {enc : TypeId × Value → H} {W : World} {fuel : Nat} {v : Value} {y : DataW H × List MemPlace} (h : DataW.trod enc Tryd.prog W 0 (fun _ => true) true fuel 23 [v] = some y) (hlt : ∀ x ∈ y.2, x.block < W.heap.size) (hwe : Weighs Tryd.prog 23 y.1) :
    ∃ (A : Option Addr) (n c : Nat) (rs : List Tv) (ts : List Ty), v = .slice A n c ∧ n * 72 ≤ 140737488351232 ∧ Rd W nX 4 (.slice A n c) n (tflat rs) ∧ TysV W nX rs ts := by
  rcases DataW.trod_slice Tryd.underlying23 h with ⟨hcs, hx⟩ | ⟨a, len, cap, elems, rest, n, hfn, hcs, hx, _, hl, hm, hlen, hel, _, _⟩
  · simp only [List.cons.injEq, and_true] at hcs
    subst hcs
    exact ⟨none, 0, 0, [], [], rfl, by decide, Rd.nil _ _ 4, trivial⟩
  · simp only [List.cons.injEq, and_true] at hcs
    subst hcs
    rw [hx] at hlt hwe
    have ce : Tryd.prog.cellsOf 25 = 4 := by kernel_rfl
    rw [ce] at hel hlt
    have hb72 : len * 72 ≤ 140737488351232 := by
      have := hwe (((elems.map (·.1)).length + (rest.map (·.1)).length) * Tryd.prog.bytesOf 25) (by simp only [DataW.weights, Tryd.underlying23]; exact List.mem_cons_self)
      rw [show Tryd.prog.bytesOf 25 = 72 by kernel_rfl] at this
      simp only [List.length_map] at this
      unfold reachBytes at this
      omega
    have each : ∀ i, ∃ x : Tv × Ty, i < len → (W.cell? (a.add (i * 4)) = some (.int .i64 x.1.k) ∧ W.cell? (a.add (i * 4 + 1)) = some (.string x.1.nm) ∧ W.cell? (a.add (i * 4 + 2)) = some (.slice x.1.An x.1.nn x.1.cn) ∧ W.cell? (a.add (i * 4 + 3)) = some (.slice x.1.Ak x.1.nk x.1.ck)) ∧ TyV W nX x.1 x.2 := by
      intro i
      by_cases hi : i < len
      · have he := hel i hi
        obtain ⟨e, hee⟩ : ∃ e, elems[i]? = some e := ⟨_, List.getElem?_eq_getElem (by omega)⟩
        rw [hee] at he
        obtain ⟨cs', hc1, hc2⟩ := Option.bind_eq_some_iff.1 he
        obtain ⟨_, hcn, hcell⟩ := World.cells?_some hc1
        have hem : e ∈ elems := List.mem_of_getElem? hee
        obtain ⟨r, t, hr, ht⟩ := open_ty n cs' e hc2 (fun x hx => hlt x (List.mem_append_right _ (List.mem_flatMap.2 ⟨e, List.mem_append_left _ hem, hx⟩))) (by
          refine weighs_all (l := elems.map (·.1)) (fun m hm => hwe m ?_) (List.mem_map.2 ⟨e, hem, rfl⟩)
          simp only [DataW.weights, Tryd.underlying23]
          exact List.mem_cons_of_mem _ (List.mem_append_left _ hm))
        subst hr
        have e0 := hcell 0 (by omega)
        have e1 := hcell 1 (by omega)
        have e2 := hcell 2 (by omega)
        have e3 := hcell 3 (by omega)
        rw [Go.Deep.add_add] at e0 e1 e2 e3
        exact ⟨(r, t), fun _ => ⟨⟨by simpa [Tv.vals] using e0, by simpa [Tv.vals] using e1, by simpa [Tv.vals] using e2, by simpa [Tv.vals] using e3⟩, ht⟩⟩
      · exact ⟨(tv0, ty0), fun h => absurd h hi⟩
    obtain ⟨f, hf⟩ := Classical.axiomOfChoice each
    have hrd : Rd W nX 4 (.slice (some a) len cap) len (tflat ((List.range len).map fun i => (f i).1)) := by
      refine ⟨by rw [tflat_length]; simp, some a, cap, rfl, hl, fun hn => ?_⟩
      obtain ⟨b, o, rfl⟩ := addr_plain (hf 0 hn).1.1 rfl
      have hb : b < W.heap.size := hlt (.cell b o) (List.mem_append_left _ (MemPlace.mem_row.2 ⟨0, by omega, by simp⟩))
      refine ⟨b, o, rfl, hb, fun x => x, fun j hj => ?_⟩
      have hq : ((List.range len).map fun i => (f i).1)[j / 4]? = some (f (j / 4)).1 := by simp [show j / 4 < len by omega]
      obtain ⟨g0, g1, g2, g3⟩ := tflat_get _ _ _ hq
      obtain ⟨⟨c0, c1, c2, c3⟩, _⟩ := hf (j / 4) (by omega)
      rw [add_plain] at c0 c1 c2 c3
      have hmod : j % 4 = 0 ∨ j % 4 = 1 ∨ j % 4 = 2 ∨ j % 4 = 3 := by omega
      rcases hmod with h4 | h4 | h4 | h4
      · rw [show j / 4 * 4 = j by omega] at g0 c0
        rw [g0, c0]
      · rw [show j / 4 * 4 + 1 = j by omega] at g1 c1
        rw [g1, c1]
      · rw [show j / 4 * 4 + 2 = j by omega] at g2 c2
        rw [g2, c2]
      · rw [show j / 4 * 4 + 3 = j by omega] at g3 c3
        rw [g3, c3]
    exact ⟨some a, len, cap, (List.range len).map fun i => (f i).1, (List.range len).map fun i => (f i).2, rfl, hb72, hrd, TysV.of_get (by simp) fun i r t hr ht => by
      have hil : i < len := by
        have := (List.getElem?_eq_some_iff.1 hr).1
        simpa using this
      simp [hil] at hr
      simp [hil] at ht
      subst hr ht
      exact (hf i hil).2⟩
end Go.Proofs.YtbanpohholnkaaaDoor

namespace Go.Proofs.YtbanpohholnkaaaDoor
open Go.RowKit

theorem own_new (w : World) {k : Int} {nm : ByteArray} {An Ak : Option Addr} {nn cn nk ck : Nat} : (w.alloc (.cells #[.int .i64 k, .string nm, .slice An nn cn, .slice Ak nk ck] 25)).ownsRow 0 25 4 (.slice (some ⟨w.heap.size, 0, none⟩) 1 1) 1 #[.int .i64 k, .string nm, .slice An nn cn, .slice Ak nk ck].toList := ⟨rfl, .inr ⟨w.heap.size, 1, #[.int .i64 k, .string nm, .slice An nn cn, .slice Ak nk ck], rfl, Nat.zero_le _, At.new w 25 #[.int .i64 k, .string nm, .slice An nn cn, .slice Ak nk ck], Nat.le_refl _, by decide, rfl, rfl⟩⟩
theorem ResP.any {X : Nat → Prop} {o : Option Ty × Int} {e : Ending} {w : World} (h : ResP X o e w) : ∃ q : Tv, e = .returned (.tuple #[q.val, .int .i64 o.2]) ∧ TyV w X q (o.1.getD ty0) := by
  obtain ⟨o, z⟩ := o
  cases o with
  | none => exact ⟨tv0, h, tv_base 0⟩
  | some n => exact h
set_option maxRecDepth 100000 in
set_option maxHeartbeats 600000 in
theorem resolves_law {w : World} {r : Tv} {t : Ty} {vs : List ByteArray} {ws : List Ty} {rs : List Tv} {Av Aw : Option Addr} {nv cv nw cw : Nat} (hT : Tab w) (h : TyV w nX r t) (hvb : nv ≤ 140737488355328) (hvr : Rd w nX 1 (.slice Av nv cv) nv (strs vs))
    (hnw : nw * 72 ≤ 140737488351232) (hwr : Rd w nX 4 (.slice Aw nw cw) nw (tflat rs)) (hwt : TysV w nX rs ws) :
    Calls Tryd.prog 8 #[r.val, .slice Av nv cv, .slice Aw nw cw] w fun e w' => e = .returned (.bool true) ∧ Keep (fun _ => False) w w' := by
  obtain ⟨ak, anm, aAn, ann, acn, aAk, ank, ack⟩ := r
  have kw : Keep (fun _ => False) w (w.alloc (.cells #[.int .i64 ak, .string anm, .slice aAn ann acn, .slice aAk ank ack] 25)) := (Keep.refl _ w).alloc _
  have at0 : At (w.alloc (.cells #[.int .i64 ak, .string anm, .slice aAn ann acn, .slice aAk ank ack] 25)) w.heap.size 25 #[.int .i64 ak, .string anm, .slice aAn ann acn, .slice aAk ank ack] := At.new _ _ _
  have H := Lib.hid (And.intro kw (And.intro at0 (And.intro (hT.step kw) (And.intro (h.step kw) (And.intro (hvr.keep kw (fun _ x => x.elim)) (And.intro (hwr.keep kw (fun _ x => x.elim)) (hwt.step kw)))))))
  clear hT h hvr hwr hwt kw at0
  unfold Tv.val
  simp only
  go_enter Tryd.func8, Tryd.ntmps8
  go_upto_region 1 with fail
  generalize (w.alloc (.cells #[.int .i64 ak, .string anm, .slice aAn ann acn, .slice aAk ank ack] 25)) = w1 at *
  generalize w.heap.size = bx at *
  have HC : Hid (∀ w', Keep (fun _ => False) w1 w' → (bx < w'.heap.size ∧ w'.cell? ⟨bx, 0, none⟩ = some (.int .i64 ak) ∧ w'.cell? ⟨bx, 1, none⟩ = some (.string anm) ∧ w'.cell? ⟨bx, 2, none⟩ = some (.slice aAn ann acn) ∧ w'.cell? ⟨bx, 3, none⟩ = some (.slice aAk ank ack))) := fun w' hk => (hk.at_ H.out.2.1 (fun x => x)).tcells
  have HAw : Hid (∀ w', Keep (fun _ => False) w1 w' → Calls Tryd.prog 21 #[] w' fun e w'' => e = .returned (.bool true) ∧ Keep (fun _ => False) w' w'') := fun w' hk => iawake_any (H.out.2.2.1.step hk)
  have KC : Hid (Keep (fun _ => False) w1 w1) := Keep.refl _ _
  obtain ⟨xal, xa0, xa1, xa2, xa3⟩ := HC.out w1 KC.out
  have hb63 : 1 + nw ≤ 9223372036854775807 := by omega
  have hbby : (1 + nw) * 72 ≤ 140737488355328 := by omega
  go_upto_region 2 with (go_at_call 21; (with_reducible refine (HAw.out _ KC.out).mono ?_); rintro e w2 ⟨rfl, hk⟩; have KN := Lib.hid (KC.out.trans hk (fun _ _ x => x)); clear KC hk xal xa0 xa1 xa2 xa3; have KC := KN; clear KN; obtain ⟨xal, xa0, xa1, xa2, xa3⟩ := HC.out _ KC.out)
  go_upto_region 3 with (at_builtin; refine wpList_app_by rfl (.tmp 16) (.tmp 17) 23 rfl E25 (.slice (some ⟨w2.heap.size, 0, none⟩) 1 1) 1 #[.int .i64 ak, .string anm, .slice aAn ann acn, .slice aAk ank ack].toList rfl (own_new w2) (X := nX) (.slice Aw nw cw) nw (tflat rs) rfl (H.out.2.2.2.2.2.1.keep (KC.out.alloc _) (fun _ x => x.elim)) tflat_cells hb63 hbby ?_)
  intro v' w5 ho hk5 hg5
  obtain ⟨Al, cl, rfl⟩ := own_slice ho
  have k5 : Keep (fun _ => False) w1 w5 := (KC.out.alloc (.cells #[.int .i64 ak, .string anm, .slice aAn ann acn, .slice aAk ank ack] 25)).weak hk5 (fun j hj => by simp only [Value.ownBlock, Option.some.injEq] at hj; have h1 := KC.out.size; omega)
  have hfw := few_any (X := nX) (A := Al) (n := 1 + nw) (c := cl) (rs := ⟨ak, anm, aAn, ann, acn, aAk, ank, ack⟩ :: rs) (l := t :: ws) (by omega) (by have := Rd.of_own (X := nX) ho (fun _ _ x => x); simpa [tflat, Tv.vals] using this) ⟨H.out.2.2.2.1.step k5, H.out.2.2.2.2.2.2.step k5⟩
  have K5 := Lib.hid k5
  clear ho hk5 hg5 KC k5
  go_upto_region 3 with (go_at_call 22; refine hfw.mono ?_; rintro e w6 ⟨⟨z, rfl⟩, hk⟩; have KC : Hid (Keep (fun _ => False) w1 w6) := K5.out.trans hk (fun _ _ x => x); clear hk hfw)
  clear K5 xal xa0 xa1 xa2 xa3
  cases z
  · go_wp2_with fail
    go_ret
    exact ⟨rfl, H.out.1.trans KC.out (fun _ _ x => x)⟩
  by_cases h10 : 10 < nv
  · have d1 : decide (10 < (nv : Int)) = true := by simp; omega
    have d1' : decide (10 < nv) = true := by simp; omega
    go_wp2_with fail
    go_ret
    exact ⟨rfl, H.out.1.trans KC.out (fun _ _ x => x)⟩
  have d1 : decide (10 < (nv : Int)) = false := by simp; omega
  have d1' : decide (10 < nv) = false := by simp; omega
  obtain ⟨xal, xa0, xa1, xa2, xa3⟩ := HC.out _ KC.out
  have HRa : Hid (∀ w', Keep (fun _ => False) w1 w' → Calls Tryd.prog 23 #[.agg #[.int .i64 ak, .string anm, .slice aAn ann acn, .slice aAk ank ack], .slice Av nv cv, .slice Aw nw cw] w' fun e w'' => (∃ q : Tv, e = .returned (.tuple #[q.val, .int .i64 (resolveT vs ws t).2]) ∧ TyV w'' nX q ((resolveT vs ws t).1.getD ty0)) ∧ Keep (fun _ => False) w' w'') := fun w' hk => (resolve_any (X := nX) (r := ⟨ak, anm, aAn, ann, acn, aAk, ank, ack⟩) (fun _ h => h.elim) (H.out.2.2.1.step hk) (H.out.2.2.2.1.step hk) hvb (H.out.2.2.2.2.1.keep hk (fun _ x => x.elim)) (H.out.2.2.2.2.2.1.keep hk (fun _ x => x.elim)) (H.out.2.2.2.2.2.2.step hk)).mono fun e w'' ⟨h1, h2⟩ => ⟨h1.any, h2⟩
  have HRb : Hid (∀ w', Keep (fun _ => False) w1 w' → Calls Tryd.prog 24 #[.agg #[.int .i64 ak, .string anm, .slice aAn ann acn, .slice aAk ank ack], .slice Av nv cv, .slice Aw nw cw] w' fun e w'' => (∃ q : Tv, e = .returned (.tuple #[q.val, .int .i64 (resolveT vs ws t).2]) ∧ TyV w'' nX q ((resolveT vs ws t).1.getD ty0)) ∧ Keep (fun _ => False) w' w'') := fun w' hk => (rresolve_any (X := nX) (r := ⟨ak, anm, aAn, ann, acn, aAk, ank, ack⟩) (fun _ h => h.elim) (H.out.2.2.2.1.step hk) hvb (H.out.2.2.2.2.1.keep hk (fun _ x => x.elim)) (H.out.2.2.2.2.2.1.keep hk (fun _ x => x.elim)) (H.out.2.2.2.2.2.2.step hk)).mono fun e w'' ⟨h1, h2⟩ => ⟨h1.any, h2⟩
  generalize (resolveT vs ws t).1.getD ty0 = u at *
  generalize (resolveT vs ws t).2 = z at *
  have dz : (z == z) = true := by simp
  go_upto_region 6 with (go_at_call 23; (with_reducible refine (HRa.out _ KC.out).mono ?_); rintro e w7 ⟨⟨⟨pk, pnm, pAn, pnn, pcn, pAk, pnk, pck⟩, he, hpv⟩, hk⟩; simp only [Tv.val] at he; subst he; have H7 := Lib.hid (And.intro (KC.out.trans hk (fun _ _ x => x)) hpv); clear hk hpv)
  refine gen_world ?_
  intro W7 hW7
  have k7 : Keep (fun _ => False) w1 W7 := by rw [hW7]; exact H7.out.1.alloc _
  have a7 : At W7 w7.heap.size 25 #[.int .i64 pk, .string pnm, .slice pAn pnn pcn, .slice pAk pnk pck] := by rw [hW7]; exact At.new _ _ _
  have v7 := H7.out.2.step (show Keep (fun _ => False) w7 W7 by rw [hW7]; exact (Keep.refl _ w7).alloc _)
  clear hW7 H7 KC xal xa0 xa1 xa2 xa3
  generalize w7.heap.size = p7 at *
  obtain ⟨xal, xa0, xa1, xa2, xa3⟩ := HC.out _ k7
  have HP := Lib.hid (And.intro k7 (And.intro a7 v7))
  clear k7 a7 v7
  go_upto_region 7 with (go_at_call 24; (with_reducible refine (HRb.out _ HP.out.1).mono ?_); rintro e w8 ⟨⟨⟨qk, qnm, qAn, qnn, qcn, qAk, qnk, qck⟩, he, hqv⟩, hk⟩; simp only [Tv.val] at he; subst he; have H8 := Lib.hid (And.intro hk hqv); clear hk hqv)
  refine gen_world ?_
  intro W8 hW8
  have k8 : Keep (fun _ => False) W7 W8 := by rw [hW8]; exact H8.out.1.alloc _
  have a8 : At W8 w8.heap.size 25 #[.int .i64 qk, .string qnm, .slice qAn qnn qcn, .slice qAk qnk qck] := by rw [hW8]; exact At.new _ _ _
  have v8 := H8.out.2.step (show Keep (fun _ => False) w8 W8 by rw [hW8]; exact (Keep.refl _ w8).alloc _)
  clear hW8 H8 xal xa0 xa1 xa2 xa3
  generalize w8.heap.size = p8 at *
  have hs := rSame_any (X := nX) (Y := nX) u u W8 ⟨pk, pnm, pAn, pnn, pcn, pAk, pnk, pck⟩ ⟨qk, qnm, qAn, qnn, qcn, qAk, qnk, qck⟩ (HP.out.2.2.step k8) v8
  rw [sameT_refl] at hs
  unfold Tv.val at hs
  simp only at hs
  obtain ⟨xpl, xp0, xp1, xp2, xp3⟩ := (k8.at_ HP.out.2.1 (fun x => x)).tcells
  obtain ⟨xql, xq0, xq1, xq2, xq3⟩ := a8.tcells
  have HQ := Lib.hid (HP.out.1.trans k8 (fun _ _ x => x))
  clear k8 a8 v8
  go_wp2_with (go_at_call 25; refine hs.mono ?_; rintro e w9 ⟨rfl, hk⟩; have H9 := Lib.hid hk; clear hk hs)
  go_ret
  exact ⟨rfl, H.out.1.trans (HQ.out.trans H9.out (fun _ _ x => x)) (fun _ _ x => x)⟩
end Go.Proofs.YtbanpohholnkaaaDoor

namespace Go.Proofs.YtbanpohholnkaaaDoor
open Go.RowKit

def eX (t : Ty) : Ty := .mk 5 ⟨#[]⟩ [⟨#[120]⟩] [t]
theorem one_A (t : Ty) : resolveT [⟨#[65]⟩] [t] eV = match NormT t with | none => (none, 9) | some n => (some n, 0) := by
  unfold resolveT
  rw [if_neg (by simp), if_neg (by simp [eV, Ty.size, sizeL, Ty.ht, htL])]
  have : replT (lookT [⟨#[65]⟩] [t]) eV = some t := by
    rw [replT_eq, if_pos (show eV.kind = 8 from rfl), if_pos (show eV.names.length + eV.kids.length = 0 from rfl)]
    simp [lookT, eV, Ty.name]
  rw [this]
  cases hn : NormT t <;> simp [hn]
theorem one_B {t m : Ty} (h : NormT (eX t) = some m) : ∃ n, NormT t = some n ∧ m.kids = [n] := by
  unfold NormT at h
  split at h
  · cases h
  · rename_i hs
    have hsz : t.size ≤ 200 ∧ t.ht ≤ 16 := by
      simp only [eX, Ty.size, sizeL, Ty.ht, htL] at hs
      omega
    rw [normT_eq] at h
    have hn : NormT t = normT t := by unfold NormT; rw [if_neg (by omega)]
    rw [hn]
    cases hc : normT t with
    | none =>
      simp [eX, Ty.kind, Ty.names, Ty.kids, normL, hc, headT] at h
    | some n =>
      refine ⟨n, rfl, ?_⟩
      simp only [eX, Ty.kind, Ty.names, Ty.kids, normL, hc, Option.bind_some, Option.map_some] at h
      unfold headT at h
      rw [if_neg (by decide), if_pos rfl, Option.bind_some] at h
      unfold recT at h
      split at h
      · simp only [Option.some.injEq] at h
        rw [← h]
        rfl
      · cases h
theorem one_C {t m : Ty} {z : Int} (h : resolveT [⟨#[65]⟩] [t] (eX eV) = (some m, z)) : ∃ n, NormT t = some n ∧ m.kids = [n] := by
  unfold resolveT at h
  rw [if_neg (by simp), if_neg (by simp [eX, eV, Ty.size, sizeL, Ty.ht, htL])] at h
  have hr : replT (lookT [⟨#[65]⟩] [t]) (eX eV) = some (eX t) := by
    have e1 : replT (lookT [⟨#[65]⟩] [t]) eV = some t := by
      rw [replT_eq, if_pos (show eV.kind = 8 from rfl), if_pos (show eV.names.length + eV.kids.length = 0 from rfl)]
      simp [lookT, eV, Ty.name]
    rw [replT_eq, if_neg (show ¬ (eX eV).kind = 8 by decide)]
    simp only [eX, Ty.kids, replL, e1]
    rfl
  rw [hr] at h
  simp only at h
  cases hn : NormT (eX t) with
  | none => rw [hn] at h; simp at h
  | some k =>
    rw [hn] at h
    simp only [Prod.mk.injEq, Option.some.injEq] at h
    rw [← h.1]
    exact one_B hn
theorem NormP.any {X : Nat → Prop} {o : Option Ty} {e : Ending} {w : World} (h : NormP X o e w) : ∃ q : Tv, e = .returned (.tuple #[q.val, .int .i64 (if o.isSome then 0 else 9)]) ∧ TyV w X q (o.getD ty0) := by
  cases o with
  | none => exact ⟨tv0, h, tv_base 0⟩
  | some n => exact h
theorem rNorm_two {w : World} {r : Tv} {t : Ty} (h : TyV w nX r t) : Calls Tryd.prog 26 #[r.val] w fun e w' => (∃ q : Tv, e = .returned (.tuple #[q.val, .int .i64 (if (NormT t).isSome then 0 else 9)]) ∧ TyV w' nX q ((NormT t).getD ty0)) ∧ Keep (fun _ => False) w w' :=
  (rNorm_any (X := nX) (fun _ h => h.elim) h).mono fun e w' ⟨h1, h2⟩ => ⟨h1.any, h2⟩
theorem resolve_two {w : World} {r : Tv} {t : Ty} {vs : List ByteArray} {ws : List Ty} {rs : List Tv} {Av Aw : Option Addr} {nv cv nw cw : Nat} (hT : Tab w) (h : TyV w nX r t) (hvb : nv ≤ 140737488355328)
    (hvr : Rd w nX 1 (.slice Av nv cv) nv (strs vs)) (hwr : Rd w nX 4 (.slice Aw nw cw) nw (tflat rs)) (hwt : TysV w nX rs ws) :
    Calls Tryd.prog 23 #[r.val, .slice Av nv cv, .slice Aw nw cw] w fun e w' => (∃ q : Tv, e = .returned (.tuple #[q.val, .int .i64 (resolveT vs ws t).2]) ∧ TyV w' nX q ((resolveT vs ws t).1.getD ty0)) ∧ Keep (fun _ => False) w w' :=
  (resolve_any (X := nX) (fun _ h => h.elim) hT h hvb hvr hwr hwt).mono fun e w' ⟨h1, h2⟩ => ⟨h1.any, h2⟩
theorem rd_k1 {w : World} {b : Nat} {s : ByteArray} {q : Tv} {t : Ty} {c d : Nat} {e : TypeId} (hc : At w c e #[.string s]) (hk : At w b 25 q.vals.toArray) (h : TyV w nX q t) : TyV w nX ⟨5, ⟨#[]⟩, some ⟨c, 0, none⟩, 1, 1, some ⟨b, 0, none⟩, 1, 1⟩ (.mk 5 ⟨#[]⟩ [s] [t]) := tv_rec1 hc (fun x => x) hk (fun x => x) h
set_option maxRecDepth 100000 in
set_option maxHeartbeats 1000000 in
theorem one_law {w : World} {r : Tv} {t : Ty} (hT : Tab w) (h : TyV w nX r t) :
    Calls Tryd.prog 9 #[r.val] w fun e w' => e = .returned (.bool true) ∧ Keep (fun _ => False) w w' := by
  obtain ⟨ak, anm, aAn, ann, acn, aAk, ank, ack⟩ := r
  have kw : Keep (fun _ => False) w (w.alloc (.cells #[.int .i64 ak, .string anm, .slice aAn ann acn, .slice aAk ank ack] 25)) := (Keep.refl _ w).alloc _
  have at0 : At (w.alloc (.cells #[.int .i64 ak, .string anm, .slice aAn ann acn, .slice aAk ank ack] 25)) w.heap.size 25 #[.int .i64 ak, .string anm, .slice aAn ann acn, .slice aAk ank ack] := At.new _ _ _
  have H := Lib.hid (And.intro kw (And.intro at0 (And.intro (hT.step kw) (h.step kw))))
  clear hT h kw at0
  unfold Tv.val
  simp only
  go_enter Tryd.func9, Tryd.ntmps9
  go_upto_region 1 with fail
  generalize (w.alloc (.cells #[.int .i64 ak, .string anm, .slice aAn ann acn, .slice aAk ank ack] 25)) = w1 at *
  generalize w.heap.size = bx at *
  have HC : Hid (∀ w', Keep (fun _ => False) w1 w' → (bx < w'.heap.size ∧ w'.cell? ⟨bx, 0, none⟩ = some (.int .i64 ak) ∧ w'.cell? ⟨bx, 1, none⟩ = some (.string anm) ∧ w'.cell? ⟨bx, 2, none⟩ = some (.slice aAn ann acn) ∧ w'.cell? ⟨bx, 3, none⟩ = some (.slice aAk ank ack))) := fun w' hk => (hk.at_ H.out.2.1 (fun x => x)).tcells
  have HAw : Hid (∀ w', Keep (fun _ => False) w1 w' → Calls Tryd.prog 21 #[] w' fun e w'' => e = .returned (.bool true) ∧ Keep (fun _ => False) w' w'') := fun w' hk => iawake_any (H.out.2.2.1.step hk)
  have KC : Hid (Keep (fun _ => False) w1 w1) := Keep.refl _ _
  obtain ⟨xal, xa0, xa1, xa2, xa3⟩ := HC.out w1 KC.out
  go_upto_region 2 with (go_at_call 21; (with_reducible refine (HAw.out _ KC.out).mono ?_); rintro e w2 ⟨rfl, hk⟩; have KN := Lib.hid (KC.out.trans hk (fun _ _ x => x)); clear KC hk xal xa0 xa1 xa2 xa3; have KC := KN; clear KN; obtain ⟨xal, xa0, xa1, xa2, xa3⟩ := HC.out _ KC.out)
  have hfw := few_any (w := w2.alloc (.cells #[.int .i64 ak, .string anm, .slice aAn ann acn, .slice aAk ank ack] 25)) (X := nX) (A := some ⟨w2.heap.size, 0, none⟩) (n := 1) (c := 1) (rs := [⟨ak, anm, aAn, ann, acn, aAk, ank, ack⟩]) (l := [t]) (by decide) (rd_t1 (q := ⟨ak, anm, aAn, ann, acn, aAk, ank, ack⟩) (At.new w2 25 #[.int .i64 ak, .string anm, .slice aAn ann acn, .slice aAk ank ack])) ⟨(H.out.2.2.2.step KC.out).step ((Keep.refl _ w2).alloc _), trivial⟩
  go_upto_region 3 with (go_at_call 22; refine hfw.mono ?_; rintro e w6 ⟨⟨z, rfl⟩, hk⟩; have KN : Hid (Keep (fun _ => False) w1 w6) := (KC.out.alloc _).trans hk (fun _ _ x => x); clear KC hk hfw; have KC := KN; clear KN)
  clear xal xa0 xa1 xa2 xa3
  cases z
  · go_wp2_with fail
    go_ret
    exact ⟨rfl, H.out.1.trans KC.out (fun _ _ x => x)⟩
  go_upto_region 6 with fail
  refine gen_world ?_
  intro W5 hW5
  have k5 : Keep (fun _ => False) w1 W5 := by rw [hW5]; exact KC.out.alloc _
  have a5 : At W5 w6.heap.size 25 #[.int .i64 8, .string ⟨#[65]⟩, .slice none 0 0, .slice none 0 0] := by rw [hW5]; exact At.new _ _ _
  clear hW5 KC
  generalize w6.heap.size = p5 at *
  have hn := rNorm_two (r := ⟨ak, anm, aAn, ann, acn, aAk, ank, ack⟩) (H.out.2.2.2.step k5)
  unfold Tv.val at hn
  simp only at hn
  obtain ⟨xal, xa0, xa1, xa2, xa3⟩ := HC.out _ k5
  have H5 := Lib.hid (And.intro k5 a5)
  clear k5 a5
  go_upto_region 7 with (go_at_call 26; refine hn.mono ?_; rintro e w7 ⟨⟨⟨pk, pnm, pAn, pnn, pcn, pAk, pnk, pck⟩, he, hpv⟩, hk⟩; simp only [Tv.val] at he; subst he; have H7 := Lib.hid (And.intro hk hpv); clear hk hpv hn)
  refine gen_world ?_
  intro W6 hW6
  have k6 : Keep (fun _ => False) W5 W6 := by rw [hW6]; exact H7.out.1.alloc _
  have a6 : At W6 w7.heap.size 25 #[.int .i64 pk, .string pnm, .slice pAn pnn pcn, .slice pAk pnk pck] := by rw [hW6]; exact At.new _ _ _
  have v6 := H7.out.2.step (show Keep (fun _ => False) w7 W6 by rw [hW6]; exact (Keep.refl _ w7).alloc _)
  clear hW6 H7 xal xa0 xa1 xa2 xa3
  generalize w7.heap.size = p6 at *
  have K6 := Lib.hid (H5.out.1.trans k6 (fun _ _ x => x))
  have kal : Keep (fun _ => False) W6 ((W6.alloc (.cells #[.string ⟨#[65]⟩] 9)).alloc (.cells #[.int .i64 ak, .string anm, .slice aAn ann acn, .slice aAk ank ack] 25)) := ((Keep.refl _ W6).alloc _).alloc _
  have hr := resolve_two (r := ⟨8, ⟨#[65]⟩, none, 0, 0, none, 0, 0⟩) (t := eV) (vs := [⟨#[65]⟩]) (ws := [t]) (rs := [⟨ak, anm, aAn, ann, acn, aAk, ank, ack⟩]) ((H.out.2.2.1.step K6.out).step kal) (tv_var _) (by decide)
    (rd_s1 ((At.new_at (by simp)).alloc _ : At _ W6.heap.size 9 #[.string ⟨#[65]⟩])) (rd_t1 (q := ⟨ak, anm, aAn, ann, acn, aAk, ank, ack⟩) (At.new_at (by simp) : At _ (W6.heap.size + 1) 25 #[.int .i64 ak, .string anm, .slice aAn ann acn, .slice aAk ank ack])) ⟨(H.out.2.2.2.step K6.out).step kal, trivial⟩
  have eo1 : (resolveT [⟨#[65]⟩] [t] eV).1.getD ty0 = (NormT t).getD ty0 := by rw [one_A]; cases NormT t <;> rfl
  have eo2 : (resolveT [⟨#[65]⟩] [t] eV).2 = (if (NormT t).isSome then 0 else 9) := by rw [one_A]; cases NormT t <;> rfl
  rw [eo1, eo2] at hr
  unfold Tv.val at hr
  simp only at hr
  obtain ⟨xal, xa0, xa1, xa2, xa3⟩ := HC.out _ K6.out
  obtain ⟨y5l, y50, y51, y52, y53⟩ := (k6.at_ H5.out.2 (fun x => x)).tcells
  have H6 := Lib.hid (And.intro k6 (And.intro a6 (And.intro v6 kal)))
  clear k6 a6 v6 kal eo1 eo2
  generalize (if (NormT t).isSome then (0 : Int) else 9) = ez at *
  have dz : (ez != ez) = false := by simp
  go_upto_region 8 with (go_at_call 23; refine hr.mono ?_; rintro e w8 ⟨⟨⟨qk, qnm, qAn, qnn, qcn, qAk, qnk, qck⟩, he, hqv⟩, hk⟩; simp only [Tv.val] at he; subst he; have H8 := Lib.hid (And.intro hk hqv); clear hk hqv hr)
  refine gen_world ?_
  intro W8 hW8
  have k8 : Keep (fun _ => False) W6 W8 := by rw [hW8]; exact (H6.out.2.2.2.trans H8.out.1 (fun _ _ x => x)).alloc _
  have a8 : At W8 w8.heap.size 25 #[.int .i64 qk, .string qnm, .slice qAn qnn qcn, .slice qAk qnk qck] := by rw [hW8]; exact At.new _ _ _
  have v8 := H8.out.2.step (show Keep (fun _ => False) w8 W8 by rw [hW8]; exact (Keep.refl _ w8).alloc _)
  clear hW8 H8 xal xa0 xa1 xa2 xa3 y5l y50 y51 y52 y53
  generalize w8.heap.size = p8 at *
  have K8 := Lib.hid (K6.out.trans k8 (fun _ _ x => x))
  have hs := rSame_any (X := nX) (Y := nX) ((NormT t).getD ty0) ((NormT t).getD ty0) W8 ⟨qk, qnm, qAn, qnn, qcn, qAk, qnk, qck⟩ ⟨pk, pnm, pAn, pnn, pcn, pAk, pnk, pck⟩ v8 (H6.out.2.2.1.step k8)
  rw [sameT_refl] at hs
  unfold Tv.val at hs
  simp only at hs
  obtain ⟨xql, xq0, xq1, xq2, xq3⟩ := a8.tcells
  obtain ⟨xpl, xp0, xp1, xp2, xp3⟩ := (k8.at_ H6.out.2.1 (fun x => x)).tcells
  have HA8 := Lib.hid (And.intro k8 (H6.out.2.2.1.step k8))
  clear k8 a8 v8
  go_upto_region 11 with (go_at_call 25; refine hs.mono ?_; rintro e w9 ⟨rfl, hk⟩; have H9 := Lib.hid hk; clear hk hs)
  have k9 : Keep (fun _ => False) w1 w9 := K8.out.trans H9.out (fun _ _ x => x)
  have K9 := Lib.hid k9
  clear xpl xp0 xp1 xp2 xp3 xql xq0 xq1 xq2 xq3
  obtain ⟨xal, xa0, xa1, xa2, xa3⟩ := HC.out _ k9
  obtain ⟨y5l, y50, y51, y52, y53⟩ := (((H6.out.1.trans HA8.out.1 (fun _ _ x => x)).trans H9.out (fun _ _ x => x)).at_ H5.out.2 (fun x => x)).tcells
  have kb : Keep (fun _ => False) w9 ((((w9.alloc (.cells #[.string ⟨#[120]⟩] 9)).alloc (.cells #[.int .i64 8, .string ⟨#[65]⟩, .slice none 0 0, .slice none 0 0] 25)).alloc (.cells #[.string ⟨#[65]⟩] 9)).alloc (.cells #[.int .i64 ak, .string anm, .slice aAn ann acn, .slice aAk ank ack] 25)) := ((((Keep.refl _ w9).alloc _).alloc _).alloc _).alloc _
  have hr := resolve_two (r := ⟨5, ⟨#[]⟩, some ⟨w9.heap.size, 0, none⟩, 1, 1, some ⟨w9.heap.size + 1, 0, none⟩, 1, 1⟩) (t := eX eV) (vs := [⟨#[65]⟩]) (ws := [t]) (rs := [⟨ak, anm, aAn, ann, acn, aAk, ank, ack⟩]) ((H.out.2.2.1.step k9).step kb) (rd_k1 (q := ⟨8, ⟨#[65]⟩, none, 0, 0, none, 0, 0⟩) (d := 0) ((((At.new_at (by simp)).alloc _).alloc _).alloc _ : At _ w9.heap.size 9 #[.string ⟨#[120]⟩]) (((At.new_at (by simp)).alloc _).alloc _ : At _ (w9.heap.size + 1) 25 #[.int .i64 8, .string ⟨#[65]⟩, .slice none 0 0, .slice none 0 0]) (tv_var _)) (by decide)
    (rd_s1 ((At.new_at (by simp)).alloc _ : At _ (w9.heap.size + 1 + 1) 9 #[.string ⟨#[65]⟩])) (rd_t1 (q := ⟨ak, anm, aAn, ann, acn, aAk, ank, ack⟩) (At.new_at (by simp) : At _ (w9.heap.size + 1 + 1 + 1) 25 #[.int .i64 ak, .string anm, .slice aAn ann acn, .slice aAk ank ack])) ⟨(H.out.2.2.2.step k9).step kb, trivial⟩
  unfold Tv.val at hr
  simp only at hr
  have KB := Lib.hid kb
  clear k9 kb
  have k3a : Keep (fun _ => False) w9 (((w9.alloc (.cells #[.string ⟨#[120]⟩] 9)).alloc (.cells #[.int .i64 8, .string ⟨#[65]⟩, .slice none 0 0, .slice none 0 0] 25)).alloc (.cells #[.string ⟨#[65]⟩] 9)) := (((Keep.refl _ w9).alloc _).alloc _).alloc _
  have xb0 := k3a.cell xa0 (fun x => x)
  have xb1 := k3a.cell xa1 (fun x => x)
  have xb2 := k3a.cell xa2 (fun x => x)
  have xb3 := k3a.cell xa3 (fun x => x)
  have xbl : bx < (((w9.alloc (.cells #[.string ⟨#[120]⟩] 9)).alloc (.cells #[.int .i64 8, .string ⟨#[65]⟩, .slice none 0 0, .slice none 0 0] 25)).alloc (.cells #[.string ⟨#[65]⟩] 9)).heap.size := Nat.lt_of_lt_of_le xal k3a.size
  clear k3a
  have hcase : ((resolveT [⟨#[65]⟩] [t] (eX eV)).2 ≠ 0) ∨ ((resolveT [⟨#[65]⟩] [t] (eX eV)).2 = 0 ∧ ∃ n, NormT t = some n ∧ ((resolveT [⟨#[65]⟩] [t] (eX eV)).1.getD ty0).kids = [n]) := by
    by_cases h0 : (resolveT [⟨#[65]⟩] [t] (eX eV)).2 = 0
    · refine .inr ⟨h0, ?_⟩
      cases ho : resolveT [⟨#[65]⟩] [t] (eX eV) with
      | mk o z =>
        cases o with
        | some m =>
          obtain ⟨n, h1, h2⟩ := one_C ho
          exact ⟨n, h1, h2⟩
        | none =>
          exfalso
          rw [ho] at h0
          simp only at h0
          unfold resolveT at ho
          split at ho
          · simp only [Prod.mk.injEq] at ho; omega
          · split at ho
            · simp only [Prod.mk.injEq] at ho; omega
            · split at ho
              · simp only [Prod.mk.injEq] at ho; omega
              · split at ho
                · simp only [Prod.mk.injEq] at ho; omega
                · simp at ho
    · exact .inl h0
  generalize (resolveT [⟨#[65]⟩] [t] (eX eV)).2 = gz at *
  generalize (resolveT [⟨#[65]⟩] [t] (eX eV)).1.getD ty0 = gu at *
  have HCS := Lib.hid hcase
  clear hcase
  go_upto_region 12 with (go_at_call 23; refine hr.mono ?_; rintro e w10 ⟨⟨⟨uk, unm, uAn, unn, ucn, uAk, unk, uck⟩, he, huv⟩, hk⟩; simp only [Tv.val] at he; subst he; have H10 := Lib.hid (And.intro hk huv); clear hk huv hr)
  refine gen_world ?_
  intro Wb hWb
  have k11 : Keep (fun _ => False) w9 Wb := by rw [hWb]; exact (KB.out.trans H10.out.1 (fun _ _ x => x)).alloc _
  have a11 : At Wb w10.heap.size 25 #[.int .i64 uk, .string unm, .slice uAn unn ucn, .slice uAk unk uck] := by rw [hWb]; exact At.new _ _ _
  have v11 := H10.out.2.step (show Keep (fun _ => False) w10 Wb by rw [hWb]; exact (Keep.refl _ w10).alloc _)
  clear hWb H10 xal xa0 xa1 xa2 xa3 y5l y50 y51 y52 y53
  generalize w10.heap.size = pb at *
  have HX := Lib.hid (And.intro (K9.out.trans k11 (fun _ _ x => x)) (And.intro a11 v11))
  have a6b := ((HA8.out.1.trans H9.out (fun _ _ x => x)).trans k11 (fun _ _ x => x)).at_ H6.out.2.1 (fun x => x)
  have v6b := HA8.out.2.step (H9.out.trans k11 (fun _ _ x => x))
  have H6B := Lib.hid (And.intro a6b v6b)
  clear k11 a11 v11 a6b v6b
  have kd3 : Hid (Keep (fun _ => False) Wb Wb.drew) := (Keep.refl _ _).drew
  have hsk : Hid (∀ w', Keep (fun _ => False) Wb w' → (pb < w'.heap.size ∧ w'.cell? ⟨pb, 0, none⟩ = some (.int .i64 uk) ∧ w'.cell? ⟨pb, 1, none⟩ = some (.string unm) ∧ w'.cell? ⟨pb, 2, none⟩ = some (.slice uAn unn ucn) ∧ w'.cell? ⟨pb, 3, none⟩ = some (.slice uAk unk uck)) ∧ (p6 < w'.heap.size ∧ w'.cell? ⟨p6, 0, none⟩ = some (.int .i64 pk) ∧ w'.cell? ⟨p6, 1, none⟩ = some (.string pnm) ∧ w'.cell? ⟨p6, 2, none⟩ = some (.slice pAn pnn pcn) ∧ w'.cell? ⟨p6, 3, none⟩ = some (.slice pAk pnk pck))) := fun w' hk => ⟨(hk.at_ HX.out.2.1 (fun x => x)).tcells, (hk.at_ H6B.out.1 (fun x => x)).tcells⟩
  rcases HCS.out with hg | ⟨hg, n, hn, hkids⟩
  · have d0 : (gz != 0) = true := by rw [bne_iff_ne]; exact hg
    clear hg
    · skip
      refine wp_region_held_n (S := fun w' => (pb < w'.heap.size ∧ w'.cell? ⟨pb, 0, none⟩ = some (.int .i64 uk) ∧ w'.cell? ⟨pb, 1, none⟩ = some (.string unm) ∧ w'.cell? ⟨pb, 2, none⟩ = some (.slice uAn unn ucn) ∧ w'.cell? ⟨pb, 3, none⟩ = some (.slice uAk unk uck)) ∧ (p6 < w'.heap.size ∧ w'.cell? ⟨p6, 0, none⟩ = some (.int .i64 pk) ∧ w'.cell? ⟨p6, 1, none⟩ = some (.string pnm) ∧ w'.cell? ⟨p6, 2, none⟩ = some (.slice pAn pnn pcn) ∧ w'.cell? ⟨p6, 3, none⟩ = some (.slice pAk pnk pck))) 17 rfl (by kernel_rfl) ?_ (fun hHeld => ?_)
      · exact hsk.out _ kd3.out
      refine' wpAnyH_tk (i := 0) (v := _) rfl (by kernel_rfl) (by decide +kernel) (by decide +kernel) (fun _ _ _ h => h) (Or.inl ⟨by rfl, ?_⟩) (by assumption) ?_
      rotate_left
      · (intro w hSw; (try dsimp only at hSw); (try go_simp); (try (with_reducible rfl)))
      (try simp only [Act.put, List.setIfInBounds_toArray, List.set_cons_zero, List.set_cons_succ])
      refine' wpAnyH_tk (i := 1) (v := _) rfl (by kernel_rfl) (by decide +kernel) (by decide +kernel) (fun _ _ _ h => h) (Or.inl ⟨by rfl, ?_⟩) (by assumption) ?_
      rotate_left
      · (intro w hSw; (try dsimp only at hSw); (try go_simp); (try (with_reducible rfl)))
      (try simp only [Act.put, List.setIfInBounds_toArray, List.set_cons_zero, List.set_cons_succ])
      refine' wpAnyH_tk (i := 2) (v := _) rfl (by kernel_rfl) (by decide +kernel) (by decide +kernel) (fun _ _ _ h => h) (Or.inl ⟨by rfl, ?_⟩) (by assumption) ?_
      rotate_left
      · (intro w hSw; (try dsimp only at hSw); (try go_simp); (try (with_reducible rfl)))
      (try simp only [Act.put, List.setIfInBounds_toArray, List.set_cons_zero, List.set_cons_succ])
      refine wpAnyH_tk (i := 3) (v := undef) rfl (by kernel_rfl) (by decide +kernel) (by decide +kernel) (fun _ _ _ h => h) (Or.inr ⟨by rfl, rfl⟩) (by assumption) ?_
      (try simp only [Act.put, List.setIfInBounds_toArray, List.set_cons_zero, List.set_cons_succ])
      refine wpAnyH_tk (i := 4) (v := undef) rfl (by kernel_rfl) (by decide +kernel) (by decide +kernel) (fun _ _ _ h => h) (Or.inr ⟨by rfl, rfl⟩) (by assumption) ?_
      (try simp only [Act.put, List.setIfInBounds_toArray, List.set_cons_zero, List.set_cons_succ])
      refine wpAnyH_tk (i := 5) (v := undef) rfl (by kernel_rfl) (by decide +kernel) (by decide +kernel) (fun _ _ _ h => h) (Or.inr ⟨by rfl, rfl⟩) (by assumption) ?_
      (try simp only [Act.put, List.setIfInBounds_toArray, List.set_cons_zero, List.set_cons_succ])
      refine wpAnyH_tk (i := 6) (v := undef) rfl (by kernel_rfl) (by decide +kernel) (by decide +kernel) (fun _ _ _ h => h) (Or.inr ⟨by rfl, rfl⟩) (by assumption) ?_
      (try simp only [Act.put, List.setIfInBounds_toArray, List.set_cons_zero, List.set_cons_succ])
      refine wpAnyH_tk (i := 7) (v := undef) rfl (by kernel_rfl) (by decide +kernel) (by decide +kernel) (fun _ _ _ h => h) (Or.inr ⟨by rfl, rfl⟩) (by assumption) ?_
      (try simp only [Act.put, List.setIfInBounds_toArray, List.set_cons_zero, List.set_cons_succ])
      refine wpAnyH_tk (i := 8) (v := undef) rfl (by kernel_rfl) (by decide +kernel) (by decide +kernel) (fun _ _ _ h => h) (Or.inr ⟨by rfl, rfl⟩) (by assumption) ?_
      (try simp only [Act.put, List.setIfInBounds_toArray, List.set_cons_zero, List.set_cons_succ])
      refine wpAnyH_tk (i := 9) (v := undef) rfl (by kernel_rfl) (by decide +kernel) (by decide +kernel) (fun _ _ _ h => h) (Or.inr ⟨by rfl, rfl⟩) (by assumption) ?_
      (try simp only [Act.put, List.setIfInBounds_toArray, List.set_cons_zero, List.set_cons_succ])
      refine wpAnyH_tk (i := 10) (v := undef) rfl (by kernel_rfl) (by decide +kernel) (by decide +kernel) (fun _ _ _ h => h) (Or.inr ⟨by rfl, rfl⟩) (by assumption) ?_
      (try simp only [Act.put, List.setIfInBounds_toArray, List.set_cons_zero, List.set_cons_succ])
      refine wpAnyH_tk (i := 11) (v := undef) rfl (by kernel_rfl) (by decide +kernel) (by decide +kernel) (fun _ _ _ h => h) (Or.inr ⟨by rfl, rfl⟩) (by assumption) ?_
      (try simp only [Act.put, List.setIfInBounds_toArray, List.set_cons_zero, List.set_cons_succ])
      refine wpAnyH_tk (i := 12) (v := undef) rfl (by kernel_rfl) (by decide +kernel) (by decide +kernel) (fun _ _ _ h => h) (Or.inr ⟨by rfl, rfl⟩) (by assumption) ?_
      (try simp only [Act.put, List.setIfInBounds_toArray, List.set_cons_zero, List.set_cons_succ])
      refine wpAnyH_tk (i := 13) (v := undef) rfl (by kernel_rfl) (by decide +kernel) (by decide +kernel) (fun _ _ _ h => h) (Or.inr ⟨by rfl, rfl⟩) (by assumption) ?_
      (try simp only [Act.put, List.setIfInBounds_toArray, List.set_cons_zero, List.set_cons_succ])
      refine wpAnyH_tk (i := 14) (v := undef) rfl (by kernel_rfl) (by decide +kernel) (by decide +kernel) (fun _ _ _ h => h) (Or.inr ⟨by rfl, rfl⟩) (by assumption) ?_
      (try simp only [Act.put, List.setIfInBounds_toArray, List.set_cons_zero, List.set_cons_succ])
      refine' wpAnyH_tk (i := 15) (v := _) rfl (by kernel_rfl) (by decide +kernel) (by decide +kernel) (fun _ _ _ h => h) (Or.inl ⟨by rfl, ?_⟩) (by assumption) ?_
      rotate_left
      · (intro w hSw; (try dsimp only at hSw); (try go_simp); (try (with_reducible rfl)))
      (try simp only [Act.put, List.setIfInBounds_toArray, List.set_cons_zero, List.set_cons_succ])
      refine' wpAnyH_tk (i := 16) (v := _) rfl (by kernel_rfl) (by decide +kernel) (by decide +kernel) (fun _ _ _ h => h) (Or.inl ⟨by rfl, ?_⟩) (by assumption) ?_
      rotate_left
      · (intro w hSw; (try dsimp only at hSw); (try go_simp); (try (with_reducible rfl)))
      (try simp only [Act.put, List.setIfInBounds_toArray, List.set_cons_zero, List.set_cons_succ])
      refine wpAnyH_done (by decide +kernel) ?_ _
      go_wp2_with fail
      go_ret
      exact ⟨rfl, (H.out.1.trans HX.out.1 (fun _ _ x => x)).trans kd3.out (fun _ _ x => x)⟩
  · subst hg
    have hnk : unk = 1 := by
      obtain ⟨_, h1, _⟩ := HX.out.2.2.kds
      rw [hkids] at h1
      exact h1
    subst hnk
    obtain ⟨kd, ⟨sk, snm, sAn, snn, scn, sAk, snk, sck⟩, kb, ko, hkd, hsv, hAk, hkz, _, c0, c1, c2, c3⟩ := HX.out.2.2.kid (i := 0) Nat.one_pos
    rw [hkids] at hkd
    simp only [List.getElem?_cons_zero, Option.some.injEq] at hkd
    subst hkd
    simp only at hAk c0 c1 c2 c3
    subst hAk
    simp only [Nat.zero_mul, Nat.add_zero] at c0 c1 c2 c3
    have hpv := H6B.out.2
    rw [hn] at hpv
    have hs := rSame_any (X := nX) (Y := nX) n n Wb.drew ⟨sk, snm, sAn, snn, scn, sAk, snk, sck⟩ ⟨pk, pnm, pAn, pnn, pcn, pAk, pnk, pck⟩ (hsv.step kd3.out) (hpv.step kd3.out)
    rw [sameT_refl] at hs
    unfold Tv.val at hs
    simp only at hs
    have hsk2 : Hid (∀ w', Keep (fun _ => False) Wb w' → (pb < w'.heap.size ∧ w'.cell? ⟨pb, 0, none⟩ = some (.int .i64 uk) ∧ w'.cell? ⟨pb, 1, none⟩ = some (.string unm) ∧ w'.cell? ⟨pb, 2, none⟩ = some (.slice uAn unn ucn) ∧ w'.cell? ⟨pb, 3, none⟩ = some (.slice (some ⟨kb, ko, none⟩) 1 uck)) ∧ (p6 < w'.heap.size ∧ w'.cell? ⟨p6, 0, none⟩ = some (.int .i64 pk) ∧ w'.cell? ⟨p6, 1, none⟩ = some (.string pnm) ∧ w'.cell? ⟨p6, 2, none⟩ = some (.slice pAn pnn pcn) ∧ w'.cell? ⟨p6, 3, none⟩ = some (.slice pAk pnk pck)) ∧ kb < w'.heap.size ∧ w'.cell? ⟨kb, ko, none⟩ = some (.int .i64 sk) ∧ w'.cell? ⟨kb, ko + 1, none⟩ = some (.string snm) ∧ w'.cell? ⟨kb, ko + 2, none⟩ = some (.slice sAn snn scn) ∧ w'.cell? ⟨kb, ko + 3, none⟩ = some (.slice sAk snk sck)) := fun w' hk => ⟨(hk.at_ HX.out.2.1 (fun x => x)).tcells, (hk.at_ H6B.out.1 (fun x => x)).tcells, Nat.lt_of_lt_of_le hkz hk.size, hk.cell c0 (fun x => x), hk.cell c1 (fun x => x), hk.cell c2 (fun x => x), hk.cell c3 (fun x => x)⟩
    clear hkids hn hsv hpv hkz c0 c1 c2 c3 hsk
    · skip
      refine wp_region_held_n (S := fun w' => (pb < w'.heap.size ∧ w'.cell? ⟨pb, 0, none⟩ = some (.int .i64 uk) ∧ w'.cell? ⟨pb, 1, none⟩ = some (.string unm) ∧ w'.cell? ⟨pb, 2, none⟩ = some (.slice uAn unn ucn) ∧ w'.cell? ⟨pb, 3, none⟩ = some (.slice (some ⟨kb, ko, none⟩) 1 uck)) ∧ (p6 < w'.heap.size ∧ w'.cell? ⟨p6, 0, none⟩ = some (.int .i64 pk) ∧ w'.cell? ⟨p6, 1, none⟩ = some (.string pnm) ∧ w'.cell? ⟨p6, 2, none⟩ = some (.slice pAn pnn pcn) ∧ w'.cell? ⟨p6, 3, none⟩ = some (.slice pAk pnk pck)) ∧ kb < w'.heap.size ∧ w'.cell? ⟨kb, ko, none⟩ = some (.int .i64 sk) ∧ w'.cell? ⟨kb, ko + 1, none⟩ = some (.string snm) ∧ w'.cell? ⟨kb, ko + 2, none⟩ = some (.slice sAn snn scn) ∧ w'.cell? ⟨kb, ko + 3, none⟩ = some (.slice sAk snk sck)) 17 rfl (by kernel_rfl) ?_ (fun hHeld => ?_)
      · exact hsk2.out _ kd3.out
      refine' wpAnyH_tk (i := 0) (v := _) rfl (by kernel_rfl) (by decide +kernel) (by decide +kernel) (fun _ _ _ h => h) (Or.inl ⟨by rfl, ?_⟩) (by assumption) ?_
      rotate_left
      · (intro w hSw; (try dsimp only at hSw); (try go_simp); (try (with_reducible rfl)))
      (try simp only [Act.put, List.setIfInBounds_toArray, List.set_cons_zero, List.set_cons_succ])
      refine' wpAnyH_tk (i := 1) (v := _) rfl (by kernel_rfl) (by decide +kernel) (by decide +kernel) (fun _ _ _ h => h) (Or.inl ⟨by rfl, ?_⟩) (by assumption) ?_
      rotate_left
      · (intro w hSw; (try dsimp only at hSw); (try go_simp); (try (with_reducible rfl)))
      (try simp only [Act.put, List.setIfInBounds_toArray, List.set_cons_zero, List.set_cons_succ])
      refine' wpAnyH_tk (i := 2) (v := _) rfl (by kernel_rfl) (by decide +kernel) (by decide +kernel) (fun _ _ _ h => h) (Or.inl ⟨by rfl, ?_⟩) (by assumption) ?_
      rotate_left
      · (intro w hSw; (try dsimp only at hSw); (try go_simp); (try (with_reducible rfl)))
      (try simp only [Act.put, List.setIfInBounds_toArray, List.set_cons_zero, List.set_cons_succ])
      refine' wpAnyH_tk (i := 3) (v := _) rfl (by kernel_rfl) (by decide +kernel) (by decide +kernel) (fun _ _ _ h => h) (Or.inl ⟨by rfl, ?_⟩) (by assumption) ?_
      rotate_left
      · (intro w hSw; (try dsimp only at hSw); (try go_simp); (try (with_reducible rfl)))
      (try simp only [Act.put, List.setIfInBounds_toArray, List.set_cons_zero, List.set_cons_succ])
      refine' wpAnyH_tk (i := 4) (v := _) rfl (by kernel_rfl) (by decide +kernel) (by decide +kernel) (fun _ _ _ h => h) (Or.inl ⟨by rfl, ?_⟩) (by assumption) ?_
      rotate_left
      · (intro w hSw; (try dsimp only at hSw); (try go_simp); (try (with_reducible rfl)))
      (try simp only [Act.put, List.setIfInBounds_toArray, List.set_cons_zero, List.set_cons_succ])
      refine' wpAnyH_tk (i := 5) (v := _) rfl (by kernel_rfl) (by decide +kernel) (by decide +kernel) (fun _ _ _ h => h) (Or.inl ⟨by rfl, ?_⟩) (by assumption) ?_
      rotate_left
      · (intro w hSw; (try dsimp only at hSw); (try go_simp); (try (with_reducible rfl)))
      (try simp only [Act.put, List.setIfInBounds_toArray, List.set_cons_zero, List.set_cons_succ])
      refine' wpAnyH_tk (i := 6) (v := _) rfl (by kernel_rfl) (by decide +kernel) (by decide +kernel) (fun _ _ _ h => h) (Or.inl ⟨by rfl, ?_⟩) (by assumption) ?_
      rotate_left
      · (intro w hSw; (try dsimp only at hSw); (try go_simp); (try (with_reducible rfl)))
      (try simp only [Act.put, List.setIfInBounds_toArray, List.set_cons_zero, List.set_cons_succ])
      refine' wpAnyH_tk (i := 7) (v := _) rfl (by kernel_rfl) (by decide +kernel) (by decide +kernel) (fun _ _ _ h => h) (Or.inl ⟨by rfl, ?_⟩) (by assumption) ?_
      rotate_left
      · (intro w hSw; (try dsimp only at hSw); (try go_simp); (try (with_reducible rfl)))
      (try simp only [Act.put, List.setIfInBounds_toArray, List.set_cons_zero, List.set_cons_succ])
      refine' wpAnyH_tk (i := 8) (v := _) rfl (by kernel_rfl) (by decide +kernel) (by decide +kernel) (fun _ _ _ h => h) (Or.inl ⟨by rfl, ?_⟩) (by assumption) ?_
      rotate_left
      · (intro w hSw; (try dsimp only at hSw); (try go_simp); (try (with_reducible rfl)))
      (try simp only [Act.put, List.setIfInBounds_toArray, List.set_cons_zero, List.set_cons_succ])
      refine' wpAnyH_tk (i := 9) (v := _) rfl (by kernel_rfl) (by decide +kernel) (by decide +kernel) (fun _ _ _ h => h) (Or.inl ⟨by rfl, ?_⟩) (by assumption) ?_
      rotate_left
      · (intro w hSw; (try dsimp only at hSw); (try go_simp); (try (with_reducible rfl)))
      (try simp only [Act.put, List.setIfInBounds_toArray, List.set_cons_zero, List.set_cons_succ])
      refine' wpAnyH_tk (i := 10) (v := _) rfl (by kernel_rfl) (by decide +kernel) (by decide +kernel) (fun _ _ _ h => h) (Or.inl ⟨by rfl, ?_⟩) (by assumption) ?_
      rotate_left
      · (intro w hSw; (try dsimp only at hSw); (try go_simp); (try (with_reducible rfl)))
      (try simp only [Act.put, List.setIfInBounds_toArray, List.set_cons_zero, List.set_cons_succ])
      refine' wpAnyH_tk (i := 11) (v := _) rfl (by kernel_rfl) (by decide +kernel) (by decide +kernel) (fun _ _ _ h => h) (Or.inl ⟨by rfl, ?_⟩) (by assumption) ?_
      rotate_left
      · (intro w hSw; (try dsimp only at hSw); (try go_simp); (try (with_reducible rfl)))
      (try simp only [Act.put, List.setIfInBounds_toArray, List.set_cons_zero, List.set_cons_succ])
      refine' wpAnyH_tk (i := 12) (v := _) rfl (by kernel_rfl) (by decide +kernel) (by decide +kernel) (fun _ _ _ h => h) (Or.inl ⟨by rfl, ?_⟩) (by assumption) ?_
      rotate_left
      · (intro w hSw; (try dsimp only at hSw); (try go_simp); (try (with_reducible rfl)))
      (try simp only [Act.put, List.setIfInBounds_toArray, List.set_cons_zero, List.set_cons_succ])
      refine wpAnyH_ready (rs := [13]) (by decide +kernel) (by simp) ?_
      refine AllReadyH_one rfl (fun K hK => ?_)
      go_simp
      go_at_call 25
      refine hs.mono ?_
      rintro e wz ⟨rfl, hkz⟩
      have KA := Lib.hid (kd3.out.trans hkz (fun _ _ x => x))
      clear hkz hs
      refine hK.out _ _ ?_ (fun hHeld => ?_)
      · exact hsk2.out _ KA.out
      clear hK K
      (try simp only [Act.put, List.setIfInBounds_toArray, List.set_cons_zero, List.set_cons_succ])
      refine' wpAnyH_tk (i := 14) (v := _) rfl (by kernel_rfl) (by decide +kernel) (by decide +kernel) (fun _ _ _ h => h) (Or.inl ⟨by rfl, ?_⟩) (by assumption) ?_
      rotate_left
      · (intro w hSw; (try dsimp only at hSw); (try go_simp); (try (with_reducible rfl)))
      (try simp only [Act.put, List.setIfInBounds_toArray, List.set_cons_zero, List.set_cons_succ])
      refine' wpAnyH_tk (i := 15) (v := _) rfl (by kernel_rfl) (by decide +kernel) (by decide +kernel) (fun _ _ _ h => h) (Or.inl ⟨by rfl, ?_⟩) (by assumption) ?_
      rotate_left
      · (intro w hSw; (try dsimp only at hSw); (try go_simp); (try (with_reducible rfl)))
      (try simp only [Act.put, List.setIfInBounds_toArray, List.set_cons_zero, List.set_cons_succ])
      refine' wpAnyH_tk (i := 16) (v := _) rfl (by kernel_rfl) (by decide +kernel) (by decide +kernel) (fun _ _ _ h => h) (Or.inl ⟨by rfl, ?_⟩) (by assumption) ?_
      rotate_left
      · (intro w hSw; (try dsimp only at hSw); (try go_simp); (try (with_reducible rfl)))
      (try simp only [Act.put, List.setIfInBounds_toArray, List.set_cons_zero, List.set_cons_succ])
      refine wpAnyH_done (by decide +kernel) ?_ _
      go_wp2_with fail
      go_ret
      exact ⟨rfl, (H.out.1.trans HX.out.1 (fun _ _ x => x)).trans KA.out (fun _ _ x => x)⟩
end Go.Proofs.YtbanpohholnkaaaDoor

namespace Go.Proofs.YtbanpohholnkaaaDoor
open Go Go.RowKit Go.ChangeShapes Go.WideShapes Go.ChangeAt

set_option maxRecDepth 100000 in
theorem instOne_lifted (os : Os) (started : os.Started) (H : Type) (enc : TypeId × Value → H) :
    ReturnsInHanded {} Tryd.checked os 9 .any (fun w args => (Rows.instOneSpec.pre enc Tryd.prog Tryd.f9 [] false w args ∧ laidMetH Tryd.prog laids w) ∧ sizedMet enc Tryd.prog Tryd.f9 (OpenSpec.ofChange Rows.instOneSpec) false w args)
      (Rows.instOneSpec.post enc Tryd.prog Tryd.f9 false true false false) := by
  refine returnsInHanded_of_change_and (C := Tryd.checked) (X := fun w _ => laidMetH Tryd.prog laids w) (fun _ _ _ hh h => h.of_heap hh) ownP started (by kernel_rfl) Tryd.func9
    (ChangeSpec.witness_shaped (enc := enc) (C := Tryd.checked) (os := os) (X := fun w _ => laidMetH Tryd.prog laids w) false (World.doorLaid Tryd.prog 400 os) #[.agg #[.int .i64 0, .string ⟨#[]⟩, .slice none 0 0, .slice none 0 0]] 8 rfl (World.shaped_of_RefB (by kernel_rfl) (by kernel_rfl)) (by kernel_rfl) (by kernel_rfl) (by kernel_rfl) (door_met os _)) ?_
  intro W base args ds gs before hval0 hW _ hsz hL _
  have hval : ∀ (j : Nat) t v, Tryd.f9.params[j]? = some t → args[j]? = some v → Value.okWide Tryd.prog W .any base t v := hval0
  have hW' := hW
  obtain ⟨p, q, hA0, hV, rfl, hfz, hnd⟩ := hW
  have hA : DataW.TrodAll enc Tryd.prog W 0 (fun _ => true) true Tryd.f9.params.toList args.toList ds p := hA0
  rw [Tryd.params9] at hA hval hsz
  obtain ⟨v0, d0, rfl, rfl, h0⟩ := trodAll_one hA
  obtain ⟨rfl, rfl⟩ := trodVars_none hV
  obtain ⟨r0, t0, rfl, hr0⟩ := open_type (hval 0 25 v0 rfl rfl) h0 (fun x hx => hW'.lt x (by simp [hx])) (weighs_at hsz (j := 0) rfl rfl)
  refine (one_law (tab_of_laid hL) hr0).mono fun e W' ⟨he, hk⟩ => ?_
  exact ⟨_, he, law_post laidOut (by kernel_rfl) (by kernel_rfl) Tryd.underlying4 rfl hW' rfl rfl rfl hk⟩
theorem instOne_row : Rows.InstOneSaid :=
  OpenClaim.holds_of_wide 9 Tryd.f9 rfl rfl rfl rfl rfl rfl rfl ⟨rfl, rfl, rfl, rfl, rfl⟩ rfl rfl rfl rfl rfl (by kernel_rfl) Tryd.func9 (by kernel_rfl)
    (of_decide_eq_true (by kernel_rfl)) (by unfold Func.isWrapper; first | (rw [if_pos (by decide +kernel)]; kernel_rfl) | (rw [if_neg (by decide +kernel)]; exact ⟨rfl, rfl⟩))
    (fun os started H enc _ => instOne_lifted os started H enc)
/-- THE STATEMENT. -/
theorem instOne_holds : Rows.InstOneCardSaid :=
  Claim7.holds_tied_plain_at .later [] [.listed, .data] true Rows.instOneCard.stood.harness Rows.instOneCard.stood.looks
    instOne_row (fun _ h => by cases h) (by kernel_rfl) (fun _ h => by cases h) instOne_row_tie rfl ⟨rfl, rfl⟩ (by kernel_rfl) rfl
    (fun f fn hf hfn => by
      obtain rfl : f = 9 := Option.some.inj ((show Tryd.prog.funcNamed Rows.instOneRow.func = some 9 by kernel_rfl).symm.trans hf) |>.symm
      obtain rfl : fn = Tryd.f9 := (Option.some.inj (Tryd.func9.symm.trans hfn)).symm
      exact ⟨by kernel_rfl, fun j t ht => by
        rw [Tryd.params9] at ht
        have hm : t ∈ [25] := by simpa using Array.mem_of_getElem? ht
        have hall : ([25].all fun u => !Tryd.prog.wantsStandIn u) = true := by kernel_rfl
        exact (show Tryd.prog.wantsStandIn t = false by simpa using List.all_eq_true.1 hall t hm)⟩)
    (by kernel_rfl)
#print axioms instOne_holds
end Go.Proofs.YtbanpohholnkaaaDoor
