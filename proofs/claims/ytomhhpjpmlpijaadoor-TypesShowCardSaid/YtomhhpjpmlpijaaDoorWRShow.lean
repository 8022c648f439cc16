/-
  Walk: gradusref03's show. Conditions: the type has the shape of a normal one, at most 200 nodes.
-/
import Derived.Test.YtomhhpjpmlpijaaDoorWShow
import Derived.Test.YtomhhpjpmlpijaaDoorWRSame
namespace Go.Proofs.YtomhhpjpmlpijaaDoor
open Go.RowKit

theorem joinB_snoc (sep : ByteArray) : ∀ (l : List ByteArray) (s : ByteArray), l ≠ [] → joinB sep (l ++ [s]) = joinB sep l ++ sep ++ s
  | [], _, h => absurd rfl h
  | [x], s, _ => rfl
  | x :: y :: l, s, _ => by
    have h := joinB_snoc sep (y :: l) s (by simp)
    show x ++ sep ++ joinB sep ((y :: l) ++ [s]) = x ++ sep ++ joinB sep (y :: l) ++ sep ++ s
    rw [h]
    simp only [ByteArray.append_assoc]
theorem joinB_first {sep s : ByteArray} {l : List ByteArray} {i : Nat} (h : l[i]? = some s) (hi : i = 0) : joinB sep (l.take (i + 1)) = s := by
  subst hi
  rw [List.take_add_one, h]
  rfl
theorem joinB_next {sep s : ByteArray} {l : List ByteArray} {i : Nat} (h : l[i]? = some s) (hi : 0 < i) : joinB sep (l.take (i + 1)) = joinB sep (l.take i) ++ sep ++ s := by
  rw [List.take_add_one, h]
  refine joinB_snoc sep _ s fun e => ?_
  have h1 := (List.getElem?_eq_some_iff.1 h).1
  have h2 := congrArg List.length e
  rw [List.length_take] at h2
  simp only [List.length_nil] at h2
  omega
theorem joinB_le (sep : ByteArray) : ∀ (l : List ByteArray) (i : Nat), (joinB sep (l.take i)).size ≤ (joinB sep l).size
  | [], i => by simp
  | [x], 0 => by show 0 ≤ _; omega
  | [x], i + 1 => by simp
  | x :: y :: l, 0 => by show 0 ≤ _; omega
  | x :: y :: l, 1 => by
    show x.size ≤ (x ++ sep ++ joinB sep (y :: l)).size
    rw [size_app, size_app]
    omega
  | x :: y :: l, i + 2 => by
    have h := joinB_le sep (y :: l) (i + 1)
    show (x ++ sep ++ joinB sep ((y :: l).take (i + 1))).size ≤ (x ++ sep ++ joinB sep (y :: l)).size
    rw [size_app, size_app, size_app, size_app]
    omega
/-- Text of a type, in brackets if it is asked for. -/
def rsh (br : Bool) (t : Ty) : ByteArray := if br = true then innS (t.kind, showT t) else showT t
theorem rsh_plain {br : Bool} {t : Ty} (h : t.kind ≠ 6) : rsh br t = showT t := by
  unfold rsh innS
  rw [if_neg h]
  split <;> rfl
theorem rsh_size (br : Bool) (t : Ty) : (rsh br t).size ≤ (showT t).size + 2 := by
  unfold rsh
  split
  · exact innS_size _
  · omega
def RShowOk (X : Nat → Prop) (t : Ty) : Prop := ∀ (w : World) (r : Tv) (br : Bool), TyV w X r t → Calls Tryd.prog 33 #[r.val, .bool br] w fun e w' => e = .returned (.string (rsh br t)) ∧ Keep (fun _ => False) w w'
def RsC (w1 : World) (sep : ByteArray) (ss : List ByteArray) (n : Nat) (k : Nat) (a b : Value) (wr : World) : Prop :=
  ∃ (i : Nat) (pre : ByteArray), a = .string pre ∧ b = .int .i64 i ∧ i ≤ n ∧ k = n - i ∧ pre = joinB sep (ss.take i) ∧ Keep (fun _ => False) w1 wr
set_option maxRecDepth 100000 in
set_option maxHeartbeats 8000000 in
theorem rshow_any {X : Nat → Prop} (t : Ty) : WfS t → t.size ≤ 200 → RShowOk X t := by
  induction t using Ty.ind with
  | h t ih =>
    intro hw hsz w r br h
    obtain ⟨k, nm, An, nn, cn, Ak, nk, ck⟩ := r
    obtain ⟨rs0, hnk, hnkb, hrd0, hv0⟩ := h.kds
    have hkk := h.knd
    have hnm := h.out.2.2.2.1
    have hnn := h.out.2.2.1
    have hnb := h.out.1.2.1
    simp only at hnk hnkb hrd0 hkk hnm hnn hnb
    obtain ⟨hh, hwk⟩ := hw.out
    have hlen : t.kids.length ≤ 200 := by
      have := length_le_sizeL t.kids
      have := t.size_eq
      omega
    have hkid : ∀ kd ∈ t.kids, RShowOk X kd := fun kd hkd => ih kd (Ty.kid_lt hkd) (WfL_iff.1 hwk kd hkd) (by have := Ty.kid_lt hkd; omega)
    have hts := showT_size t hw
    have hks : ∀ kd ∈ t.kids, (showT kd).size ≤ 10000 := fun kd hkd => by
      have h1 := showT_size kd (WfL_iff.1 hwk kd hkd)
      have h2 := Ty.kid_lt hkd
      omega
    have HKS := Lib.hid hks
    clear hks
    have kw : Keep (fun _ => False) w (w.alloc (.cells #[.int .i64 k, .string nm, .slice An nn cn, .slice Ak nk ck] 25)) := (Keep.refl _ w).alloc _
    have abx : At (w.alloc (.cells #[.int .i64 k, .string nm, .slice An nn cn, .slice Ak nk ck] 25)) w.heap.size 25 #[.int .i64 k, .string nm, .slice An nn cn, .slice Ak nk ck] := At.new _ _ _
    have hts2 : (showT t).size ≤ 10000 := by omega
    have hst := showT_eq t
    rw [← hkk] at hst
    have H := Lib.hid (And.intro h (And.intro hkid (And.intro kw (And.intro abx (And.intro hnm hts2)))))
    have HN := Lib.hid (And.intro hnk (And.intro hnn hlen))
    unfold Tv.val
    simp only
    rw [← hkk] at hh
    clear h ih hw hwk hrd0 hv0 hnm kw abx hkid hts hts2 hsz hlen hnn
    rcases hh with h04 | ⟨rfl, h5l, h5n⟩ | ⟨rfl, h6⟩ | rfl
    · have hb : headS k t.names (showL t.kids) = baseS k := by unfold headS; rw [if_neg (by omega), if_neg (by omega), if_neg (by omega)]
      rw [rsh_plain (by omega), hst, hb]
      have hk5 : k = 0 ∨ k = 1 ∨ k = 2 ∨ k = 3 ∨ k = 4 := by omega
      clear hb h04 hnk hkk hst
      rcases hk5 with rfl | rfl | rfl | rfl | rfl
      all_goals (
        go_enter Tryd.func33, Tryd.ntmps33
        go_wp2_with fail
        go_ret
        exact ⟨rfl, (Keep.refl _ w).alloc _⟩)
    · have hss : ∀ (i : Nat) (kd : Ty) (s : ByteArray), t.kids[i]? = some kd → t.names[i]? = some s → ((t.names.zip (showL t.kids)).map fun x => x.1 ++ ⟨#[58, 32]⟩ ++ x.2.2)[i]? = some (s ++ ⟨#[58, 32]⟩ ++ showT kd) := by
        intro i kd s h1 h2
        rw [List.getElem?_map, (List.getElem?_zip_eq_some (z := (s, (kd.kind, showT kd)))).2 ⟨h2, by rw [showL_eq, List.getElem?_map, h1]; rfl⟩]
        rfl
      have hsl : ((t.names.zip (showL t.kids)).map fun x => x.1 ++ ⟨#[58, 32]⟩ ++ x.2.2).length = t.kids.length := by simp [showL_eq, h5l]
      have hhd : showT t = ⟨#[123]⟩ ++ joinB ⟨#[44, 32]⟩ ((t.names.zip (showL t.kids)).map fun x => x.1 ++ ⟨#[58, 32]⟩ ++ x.2.2) ++ ⟨#[125]⟩ := hst
      rw [rsh_plain (by omega), hhd]
      have hjs : (joinB ⟨#[44, 32]⟩ ((t.names.zip (showL t.kids)).map fun x => x.1 ++ ⟨#[58, 32]⟩ ++ x.2.2)).size ≤ 10000 := by
        have h1 := H.out.2.2.2.2.2
        rw [hhd, size_app, size_app] at h1
        omega
      clear hhd hst hkk
      generalize ((t.names.zip (showL t.kids)).map fun x => x.1 ++ ⟨#[58, 32]⟩ ++ x.2.2) = ss at *
      have HJ := Lib.hid hjs
      have h0 : Hid (RsC (w.alloc (.cells #[.int .i64 5, .string nm, .slice An nn cn, .slice Ak nk ck] 25)) ⟨#[44, 32]⟩ ss nn nn (.string ⟨#[]⟩) (.int .i64 0) (w.alloc (.cells #[.int .i64 5, .string nm, .slice An nn cn, .slice Ak nk ck] 25))) :=
        ⟨0, _, rfl, rfl, Nat.zero_le _, rfl, rfl, Keep.refl _ _⟩
      have HSS := Lib.hid (And.intro hss (And.intro hsl (And.intro h5l h5n)))
      have hnn : nn ≤ 200 := by have := HN.out; omega
      clear hss hsl h5l h5n hnk hjs
      go_enter Tryd.func33, Tryd.ntmps33
      go_wp2_with fail
      generalize (w.alloc (.cells #[.int .i64 5, .string nm, .slice An nn cn, .slice Ak nk ck] 25)) = w1 at *
      generalize w.heap.size = bx at *
      go_loopg [5, 6] nn (RsC w1 ⟨#[44, 32]⟩ ss nn)
      case atStart => exact h0.out
      case round =>
        clear h0
        obtain ⟨i, pre, rfl, rfl, hi, rfl, hp, hk⟩ := hrel
        have hpl : pre.size ≤ 10000 := by
          have h1 := joinB_le ⟨#[44, 32]⟩ ss i
          have h2 := HJ.out
          rw [hp]
          omega
        have hkwr := H.out.2.2.1.trans hk (fun _ _ x => x)
        have hax := hk.at_ H.out.2.2.2.1 (fun x => x)
        have HP := Lib.hid (And.intro hp hk)
        clear hp hk
        by_cases hlt : i < nn
        · have e1 : decide ((i : Int) < (nn : Int)) = true := by simp; omega
          have e1' : decide (i < nn) = true := by simp; omega
          have hlk : i < nk := by have h1 := HN.out; have h2 := HSS.out.2.2.1; omega
          obtain ⟨kd, ⟨qk, qnm, qAn, qnn, qcn, qAk, qnk, qck⟩, b, o, hkd, hqv, hAk, hbz, _, c0, c1, c2, c3⟩ := (H.out.1.step hkwr).kid (i := i) hlk
          simp only at c0 c1 c2 c3 hAk
          subst hAk
          obtain ⟨s, hs⟩ : ∃ s, t.names[i]? = some s := ⟨_, List.getElem?_eq_getElem (by have h1 := HN.out; omega)⟩
          have hs32 := HSS.out.2.2.2 s (List.mem_of_getElem? hs)
          obtain ⟨b2, o2, hA2, hbz2, _, f0⟩ := (H.out.2.2.2.2.1.keep hkwr (fun _ x => x.elim)).scell (i := i) hlt hs
          subst hA2
          have hc := H.out.2.1 kd (List.mem_of_getElem? hkd) wr.drew ⟨qk, qnm, qAn, qnn, qcn, qAk, qnk, qck⟩ false (hqv.step (Keep.refl _ wr).drew)
          have hks := HKS.out kd (List.mem_of_getElem? hkd)
          have hsi := HSS.out.1 i kd s hkd hs
          rw [show rsh false kd = showT kd from rfl] at hc
          unfold Tv.val at hc
          simp only at hc
          generalize showT kd = ks at *
          have x2 : wr.cell? ⟨bx, 2, none⟩ = some (.slice (some ⟨b2, o2, none⟩) nn cn) := hax.cell 2
          have x3 : wr.cell? ⟨bx, 3, none⟩ = some (.slice (some ⟨b, o, none⟩) nk ck) := hax.cell 3
          have xl := hax.lt
          have hsx : (bx < wr.heap.size ∧ b < wr.heap.size ∧ b2 < wr.heap.size) ∧ wr.cell? ⟨bx, 2, none⟩ = some (.slice (some ⟨b2, o2, none⟩) nn cn) ∧ wr.cell? ⟨bx, 3, none⟩ = some (.slice (some ⟨b, o, none⟩) nk ck) ∧ wr.cell? ⟨b2, o2 + i, none⟩ = some (.string s) ∧ wr.cell? ⟨b, o + i * 4, none⟩ = some (.int .i64 qk) ∧ wr.cell? ⟨b, o + i * 4 + 1, none⟩ = some (.string qnm) ∧ wr.cell? ⟨b, o + i * 4 + 2, none⟩ = some (.slice qAn qnn qcn) ∧ wr.cell? ⟨b, o + i * 4 + 3, none⟩ = some (.slice qAk qnk qck) := ⟨⟨xl, hbz, hbz2⟩, x2, x3, f0, c0, c1, c2, c3⟩
          have hsk : ∀ w', Keep (fun _ => False) wr.drew w' → (bx < w'.heap.size ∧ b < w'.heap.size ∧ b2 < w'.heap.size) ∧ w'.cell? ⟨bx, 2, none⟩ = some (.slice (some ⟨b2, o2, none⟩) nn cn) ∧ w'.cell? ⟨bx, 3, none⟩ = some (.slice (some ⟨b, o, none⟩) nk ck) ∧ w'.cell? ⟨b2, o2 + i, none⟩ = some (.string s) ∧ w'.cell? ⟨b, o + i * 4, none⟩ = some (.int .i64 qk) ∧ w'.cell? ⟨b, o + i * 4 + 1, none⟩ = some (.string qnm) ∧ w'.cell? ⟨b, o + i * 4 + 2, none⟩ = some (.slice qAn qnn qcn) ∧ w'.cell? ⟨b, o + i * 4 + 3, none⟩ = some (.slice qAk qnk qck) := fun w' hk => by
            have hz : wr.heap.size ≤ w'.heap.size := hk.size
            exact ⟨⟨by omega, by omega, by omega⟩, hk.cell x2 (fun x => x), hk.cell x3 (fun x => x), hk.cell f0 (fun x => x), hk.cell c0 (fun x => x), hk.cell c1 (fun x => x), hk.cell c2 (fun x => x), hk.cell c3 (fun x => x)⟩
          have HSK := Lib.hid hsk
          have HQ := Lib.hid hsi
          have HKW := Lib.hid hkwr
          have j0 : (0 : Int) ≤ (i : Int) := by omega
          have j1 : (i : Int) < (nn : Int) := by omega
          have j2 : (i : Int) < (nk : Int) := by omega
          clear hkd hqv hs hsi hsk hkwr hax
          by_cases hi0 : 0 < i
          · have e2 : decide (0 < (i : Int)) = true := by simp; omega
            have e2' : decide (0 < i) = true := by simp; omega
            have q0 : ¬ 9223372036854775807 < pre.size + 2 := by omega
            have q1 : ¬ 9223372036854775807 < pre.size + 2 + s.size := by omega
            have q2 : ¬ 9223372036854775807 < pre.size + 2 + s.size + 2 := by omega
            have q3 : ¬ 9223372036854775807 < pre.size + 2 + s.size + 2 + ks.size := by omega
            go_wp2_with fail
            clear xl x2 x3 hbz hbz2 f0 c0 c1 c2 c3
            go_region_held3 (fun w' => (bx < w'.heap.size ∧ b < w'.heap.size ∧ b2 < w'.heap.size) ∧ w'.cell? ⟨bx, 2, none⟩ = some (.slice (some ⟨b2, o2, none⟩) nn cn) ∧ w'.cell? ⟨bx, 3, none⟩ = some (.slice (some ⟨b, o, none⟩) nk ck) ∧ w'.cell? ⟨b2, o2 + i, none⟩ = some (.string s) ∧ w'.cell? ⟨b, o + i * 4, none⟩ = some (.int .i64 qk) ∧ w'.cell? ⟨b, o + i * 4 + 1, none⟩ = some (.string qnm) ∧ w'.cell? ⟨b, o + i * 4 + 2, none⟩ = some (.slice qAn qnn qcn) ∧ w'.cell? ⟨b, o + i * 4 + 3, none⟩ = some (.slice qAk qnk qck))
              (first | exact hsx | exact HSK.out _ HK2.out)
              ((go_at_call 33; refine hc.mono ?_; rintro e w' ⟨rfl, hk⟩; have HK2 := Lib.hid hk; clear hk hc))
            go_wp2_with fail
            go_roundg (nn - (i + 1))
            case measure => omega
            case rel => exact ⟨i + 1, _, rfl, by go_num, by omega, rfl, by rw [joinB_next HQ.out hi0, ← HP.out.1]; simp only [ByteArray.append_assoc], HP.out.2.drew.trans HK2.out (fun _ _ x => x)⟩
          · have e2 : decide (0 < (i : Int)) = false := by simp; omega
            have e2' : decide (0 < i) = false := by simp; omega
            have q1 : ¬ 9223372036854775807 < pre.size + s.size := by omega
            have q2 : ¬ 9223372036854775807 < pre.size + s.size + 2 := by omega
            have q3 : ¬ 9223372036854775807 < pre.size + s.size + 2 + ks.size := by omega
            have hpe : pre = ⟨#[]⟩ := by rw [HP.out.1, show i = 0 by omega]; rfl
            have HPE := Lib.hid hpe
            clear hpe
            go_wp2_with fail
            clear xl x2 x3 hbz hbz2 f0 c0 c1 c2 c3
            go_region_held3 (fun w' => (bx < w'.heap.size ∧ b < w'.heap.size ∧ b2 < w'.heap.size) ∧ w'.cell? ⟨bx, 2, none⟩ = some (.slice (some ⟨b2, o2, none⟩) nn cn) ∧ w'.cell? ⟨bx, 3, none⟩ = some (.slice (some ⟨b, o, none⟩) nk ck) ∧ w'.cell? ⟨b2, o2 + i, none⟩ = some (.string s) ∧ w'.cell? ⟨b, o + i * 4, none⟩ = some (.int .i64 qk) ∧ w'.cell? ⟨b, o + i * 4 + 1, none⟩ = some (.string qnm) ∧ w'.cell? ⟨b, o + i * 4 + 2, none⟩ = some (.slice qAn qnn qcn) ∧ w'.cell? ⟨b, o + i * 4 + 3, none⟩ = some (.slice qAk qnk qck))
              (first | exact hsx | exact HSK.out _ HK2.out)
              ((go_at_call 33; refine hc.mono ?_; rintro e w' ⟨rfl, hk⟩; have HK2 := Lib.hid hk; clear hk hc))
            go_wp2_with fail
            go_roundg (nn - (i + 1))
            case measure => omega
            case rel => exact ⟨i + 1, _, rfl, by go_num, by omega, rfl, by rw [joinB_first HQ.out (by omega), HPE.out]; simp only [ByteArray.append_assoc]; exact ByteArray.empty_append, HP.out.2.drew.trans HK2.out (fun _ _ x => x)⟩
        · have e1 : decide ((i : Int) < (nn : Int)) = false := by simp; omega
          have e1' : decide (i < nn) = false := by simp; omega
          have hfull : pre = joinB ⟨#[44, 32]⟩ ss := by
            have h1 := HP.out.1
            rw [List.take_of_length_le (by have h1 := HSS.out.2.1; have h2 := HN.out.1; have h3 := HSS.out.2.2.1; have h4 := HN.out.2.1; omega)] at h1
            exact h1
          have HF := Lib.hid (And.intro hfull hkwr)
          have q1 : ¬ 9223372036854775807 < 1 + pre.size := by omega
          have q2 : ¬ 9223372036854775807 < 1 + pre.size + 1 := by omega
          have x2 : wr.cell? ⟨bx, 2, none⟩ = some (.slice An nn cn) := hax.cell 2
          have xl := hax.lt
          clear hfull hkwr hax
          go_wp2_with fail
          go_ret
          exact ⟨by rw [HF.out.1]; rfl, HF.out.2⟩
    · obtain ⟨a, b, hab⟩ : ∃ a b, t.kids = [a, b] := by
        match hks : t.kids, h6 with
        | [a, b], _ => exact ⟨a, b, rfl⟩
      have hhd : showT t = innS (a.kind, showT a) ++ ⟨#[32, 45, 62, 32]⟩ ++ showT b := by rw [hst, hab]; rfl
      have hnk2 : nk = 2 := by omega
      subst hnk2
      obtain ⟨ka, ⟨qk, qnm, qAn, qnn, qcn, qAk, qnk, qck⟩, bl, o, hka, hqa, hAk, hbz, _, c0, c1, c2, c3⟩ := (H.out.1.step H.out.2.2.1).kid (i := 0) (Nat.zero_lt_succ 1)
      obtain ⟨kb, ⟨pk, pnm, pAn, pnn, pcn, pAk, pnk, pck⟩, bl', o', hkb, hpb, hAk', hbz', _, d0, d1, d2, d3⟩ := (H.out.1.step H.out.2.2.1).kid (i := 1) (Nat.lt_succ_self 1)
      simp only at c0 c1 c2 c3 d0 d1 d2 d3 hAk hAk'
      subst hAk
      simp only [Option.some.injEq, Addr.mk.injEq, and_true] at hAk'
      obtain ⟨rfl, rfl⟩ := hAk'
      rw [hab] at hka hkb
      simp only [List.getElem?_cons_zero, List.getElem?_cons_succ, Option.some.injEq] at hka hkb
      subst hka
      subst hkb
      have hma : a ∈ t.kids := by rw [hab]; simp
      have hmb : b ∈ t.kids := by rw [hab]; simp
      have hsa := HKS.out a hma
      have hsb := HKS.out b hmb
      have hia := innS_size (a.kind, showT a)
      have hAA := H.out.2.1 a hma
      have hBB := H.out.2.1 b hmb
      have hiA := fun (w' : World) (hk : Keep (fun _ => False) (w.alloc (.cells #[.int .i64 6, .string nm, .slice An nn cn, .slice (some ⟨bl, o, none⟩) 2 ck] 25)) w') => hAA w' _ true (hqa.step hk)
      have hiB := fun (w' : World) (hk : Keep (fun _ => False) (w.alloc (.cells #[.int .i64 6, .string nm, .slice An nn cn, .slice (some ⟨bl, o, none⟩) 2 ck] 25)) w') => hBB w' _ false (hpb.step hk)
      have hax := H.out.2.2.2.1
      rw [show rsh true a = innS (a.kind, showT a) from rfl] at hiA
      rw [show rsh false b = showT b from rfl] at hiB
      unfold Tv.val at hiA hiB
      simp only at hiA hiB hia
      have hr : rsh br t = if br = true then ⟨#[40]⟩ ++ (innS (a.kind, showT a) ++ ⟨#[32, 45, 62, 32]⟩ ++ showT b) ++ ⟨#[41]⟩ else innS (a.kind, showT a) ++ ⟨#[32, 45, 62, 32]⟩ ++ showT b := by
        unfold rsh
        rw [hhd]
        unfold innS
        rw [if_pos hkk.symm]
      rw [hr]
      have H3 := Lib.hid H.out.2.2.1
      clear hhd hab hma hmb hqa hpb hnk h6 H HN HKS hst hkk hAA hBB hr
      generalize showT a = sa at *
      generalize showT b = sb at *
      generalize innS (a.kind, sa) = ia at *
      have q1 : ¬ 9223372036854775807 < ia.size + 4 := by omega
      have q2 : ¬ 9223372036854775807 < ia.size + 4 + sb.size := by omega
      have q3 : ¬ 9223372036854775807 < 1 + (ia.size + 4 + sb.size) := by omega
      have q4 : ¬ 9223372036854775807 < 1 + (ia.size + 4 + sb.size) + 1 := by omega
      go_enter Tryd.func33, Tryd.ntmps33
      go_wp2_with fail
      generalize (w.alloc (.cells #[.int .i64 6, .string nm, .slice An nn cn, .slice (some ⟨bl, o, none⟩) 2 ck] 25)) = w1 at *
      generalize w.heap.size = bx at *
      have kd : Keep (fun _ => False) w1 w1.drew := (Keep.refl _ w1).drew
      have hsk : ∀ w', Keep (fun _ => False) w1 w' → (bx < w'.heap.size ∧ bl < w'.heap.size) ∧ w'.cell? ⟨bx, 3, none⟩ = some (.slice (some ⟨bl, o, none⟩) 2 ck) ∧ (w'.cell? ⟨bl, o, none⟩ = some (.int .i64 qk) ∧ w'.cell? ⟨bl, o + 1, none⟩ = some (.string qnm) ∧ w'.cell? ⟨bl, o + 2, none⟩ = some (.slice qAn qnn qcn) ∧ w'.cell? ⟨bl, o + 3, none⟩ = some (.slice qAk qnk qck)) ∧ w'.cell? ⟨bl, o + 4, none⟩ = some (.int .i64 pk) ∧ w'.cell? ⟨bl, o + 4 + 1, none⟩ = some (.string pnm) ∧ w'.cell? ⟨bl, o + 4 + 2, none⟩ = some (.slice pAn pnn pcn) ∧ w'.cell? ⟨bl, o + 4 + 3, none⟩ = some (.slice pAk pnk pck) := fun w' hk => ⟨⟨(hk.at_ hax (fun x => x)).lt, Nat.lt_of_lt_of_le hbz hk.size⟩, (hk.at_ hax (fun x => x)).cell 3, ⟨hk.cell (by simpa using c0) (fun x => x), hk.cell (by simpa using c1) (fun x => x), hk.cell (by simpa using c2) (fun x => x), hk.cell (by simpa using c3) (fun x => x)⟩, hk.cell (by simpa using d0) (fun x => x), hk.cell (by simpa using d1) (fun x => x), hk.cell (by simpa using d2) (fun x => x), hk.cell (by simpa using d3) (fun x => x)⟩
      have hsx := hsk w1 (Keep.refl _ _)
      have HSK := Lib.hid hsk
      have HA := Lib.hid hiA
      have HB := Lib.hid hiB
      have KD := Lib.hid kd
      clear c0 c1 c2 c3 d0 d1 d2 d3 hbz hbz' hia hsa hsb hax hsk hiA hiB kd
      cases br
      all_goals (
        go_wp2_with fail
        go_region_held3 (fun w' => (bx < w'.heap.size ∧ bl < w'.heap.size) ∧ w'.cell? ⟨bx, 3, none⟩ = some (.slice (some ⟨bl, o, none⟩) 2 ck) ∧ (w'.cell? ⟨bl, o, none⟩ = some (.int .i64 qk) ∧ w'.cell? ⟨bl, o + 1, none⟩ = some (.string qnm) ∧ w'.cell? ⟨bl, o + 2, none⟩ = some (.slice qAn qnn qcn) ∧ w'.cell? ⟨bl, o + 3, none⟩ = some (.slice qAk qnk qck)) ∧ w'.cell? ⟨bl, o + 4, none⟩ = some (.int .i64 pk) ∧ w'.cell? ⟨bl, o + 4 + 1, none⟩ = some (.string pnm) ∧ w'.cell? ⟨bl, o + 4 + 2, none⟩ = some (.slice pAn pnn pcn) ∧ w'.cell? ⟨bl, o + 4 + 3, none⟩ = some (.slice pAk pnk pck))
          (first | exact hsx | exact HSK.out _ KA.out | exact HSK.out _ KB.out)
          ((first
            | (go_at_call 33; (with_reducible refine (HA.out _ KD.out).mono ?_); rintro e w2 ⟨rfl, hk2⟩; have KA := Lib.hid (KD.out.trans hk2 (fun _ _ x => x)); clear hk2)
            | (go_at_call 33; (with_reducible refine (HB.out _ KA.out).mono ?_); rintro e w3 ⟨rfl, hk3⟩; have KB := Lib.hid (KA.out.trans hk3 (fun _ _ x => x)); clear hk3)))
        go_wp2_with fail
        go_ret
        exact ⟨rfl, H3.out.trans KB.out (fun _ _ x => x)⟩)
    · have hss : ∀ (i : Nat) (kd : Ty), t.kids[i]? = some kd → ((showL t.kids).map innS)[i]? = some (innS (kd.kind, showT kd)) := by
        intro i kd h1
        rw [showL_eq, List.getElem?_map, List.getElem?_map, h1]
        rfl
      have hsl : ((showL t.kids).map innS).length = t.kids.length := by simp [showL_eq]
      have hhd : showT t = joinB ⟨#[32, 124, 32]⟩ ((showL t.kids).map innS) := hst
      rw [rsh_plain (by omega), hhd]
      have hjs : (joinB ⟨#[32, 124, 32]⟩ ((showL t.kids).map innS)).size ≤ 10000 := by
        have h1 := H.out.2.2.2.2.2
        rw [hhd] at h1
        omega
      clear hhd hst hkk
      generalize ((showL t.kids).map innS) = ss at *
      have HJ := Lib.hid hjs
      have h0 : Hid (RsC (w.alloc (.cells #[.int .i64 7, .string nm, .slice An nn cn, .slice Ak nk ck] 25)) ⟨#[32, 124, 32]⟩ ss nk nk (.string ⟨#[]⟩) (.int .i64 0) (w.alloc (.cells #[.int .i64 7, .string nm, .slice An nn cn, .slice Ak nk ck] 25))) :=
        ⟨0, _, rfl, rfl, Nat.zero_le _, rfl, rfl, Keep.refl _ _⟩
      have HSS := Lib.hid (And.intro hss hsl)
      clear hss hsl hnk hjs
      go_enter Tryd.func33, Tryd.ntmps33
      go_wp2_with fail
      generalize (w.alloc (.cells #[.int .i64 7, .string nm, .slice An nn cn, .slice Ak nk ck] 25)) = w1 at *
      generalize w.heap.size = bx at *
      go_loopg [5, 7] nk (RsC w1 ⟨#[32, 124, 32]⟩ ss nk)
      case atStart => exact h0.out
      case round =>
        clear h0
        obtain ⟨i, pre, rfl, rfl, hi, rfl, hp, hk⟩ := hrel
        have hpl : pre.size ≤ 10000 := by
          have h1 := joinB_le ⟨#[32, 124, 32]⟩ ss i
          have h2 := HJ.out
          rw [hp]
          omega
        have hkwr := H.out.2.2.1.trans hk (fun _ _ x => x)
        have hax := hk.at_ H.out.2.2.2.1 (fun x => x)
        have HP := Lib.hid (And.intro hp hk)
        clear hp hk
        by_cases hlt : i < nk
        · have e1 : decide ((i : Int) < (nk : Int)) = true := by simp; omega
          have e1' : decide (i < nk) = true := by simp; omega
          obtain ⟨kd, ⟨qk, qnm, qAn, qnn, qcn, qAk, qnk, qck⟩, b, o, hkd, hqv, hAk, hbz, _, c0, c1, c2, c3⟩ := (H.out.1.step hkwr).kid (i := i) hlt
          simp only at c0 c1 c2 c3 hAk
          subst hAk
          have hc := H.out.2.1 kd (List.mem_of_getElem? hkd) wr ⟨qk, qnm, qAn, qnn, qcn, qAk, qnk, qck⟩ true hqv
          have hks := HKS.out kd (List.mem_of_getElem? hkd)
          have hii := innS_size (kd.kind, showT kd)
          have hsi := HSS.out.1 i kd hkd
          rw [show rsh true kd = innS (kd.kind, showT kd) from rfl] at hc
          unfold Tv.val at hc
          simp only at hc hii
          generalize innS (kd.kind, showT kd) = ks at *
          have x3 : wr.cell? ⟨bx, 3, none⟩ = some (.slice (some ⟨b, o, none⟩) nk ck) := hax.cell 3
          have xl := hax.lt
          have HQ := Lib.hid hsi
          have HKW := Lib.hid hkwr
          have j0 : (0 : Int) ≤ (i : Int) := by omega
          have j2 : (i : Int) < (nk : Int) := by omega
          clear hkd hqv hsi hkwr hax
          by_cases hi0 : 0 < i
          · have e2 : decide (0 < (i : Int)) = true := by simp; omega
            have e2' : decide (0 < i) = true := by simp; omega
            have q0 : ¬ 9223372036854775807 < pre.size + 3 := by omega
            have q3 : ¬ 9223372036854775807 < pre.size + 3 + ks.size := by omega
            go_wp2_with (go_at_call 33; refine hc.mono ?_; rintro e w' ⟨rfl, hk⟩; have HK2 := Lib.hid hk; clear hk hc)
            go_roundg (nk - (i + 1))
            case measure => omega
            case rel => exact ⟨i + 1, _, rfl, by go_num, by omega, rfl, by rw [joinB_next HQ.out hi0, ← HP.out.1], HP.out.2.trans HK2.out (fun _ _ x => x)⟩
          · have e2 : decide (0 < (i : Int)) = false := by simp; omega
            have e2' : decide (0 < i) = false := by simp; omega
            have q3 : ¬ 9223372036854775807 < pre.size + ks.size := by omega
            have hpe : pre = ⟨#[]⟩ := by rw [HP.out.1, show i = 0 by omega]; rfl
            have HPE := Lib.hid hpe
            clear hpe
            go_wp2_with (go_at_call 33; refine hc.mono ?_; rintro e w' ⟨rfl, hk⟩; have HK2 := Lib.hid hk; clear hk hc)
            go_roundg (nk - (i + 1))
            case measure => omega
            case rel => exact ⟨i + 1, _, rfl, by go_num, by omega, rfl, by rw [joinB_first HQ.out (by omega), HPE.out]; exact ByteArray.empty_append, HP.out.2.trans HK2.out (fun _ _ x => x)⟩
        · have e1 : decide ((i : Int) < (nk : Int)) = false := by simp; omega
          have e1' : decide (i < nk) = false := by simp; omega
          have hfull : pre = joinB ⟨#[32, 124, 32]⟩ ss := by
            have h1 := HP.out.1
            rw [List.take_of_length_le (by have h1 := HSS.out.2; have h2 := HN.out.1; omega)] at h1
            exact h1
          have HF := Lib.hid (And.intro hfull hkwr)
          have x3 : wr.cell? ⟨bx, 3, none⟩ = some (.slice Ak nk ck) := hax.cell 3
          have xl := hax.lt
          clear hfull hkwr hax
          go_wp2_with fail
          go_ret
          exact ⟨congrArg (fun x => Ending.returned (.string x)) HF.out.1, HF.out.2⟩
end Go.Proofs.YtomhhpjpmlpijaaDoor
