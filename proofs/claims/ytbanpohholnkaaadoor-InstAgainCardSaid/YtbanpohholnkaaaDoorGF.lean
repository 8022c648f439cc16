/-
  Walk: types.Show. Conditions: none.
-/
import Derived.Test.YtbanpohholnkaaaDoorWFew
import Derived.Test.YtbanpohholnkaaaDoorWNormF
import Derived.Test.YtbanpohholnkaaaDoorShowT
import Derived.Test.YtbanpohholnkaaaDoorNf
namespace Go.Proofs.YtbanpohholnkaaaDoor
open Go.RowKit

set_option maxHeartbeats 2000000 in
theorem notNormal_any {w : World} {r : Tv} {t : Ty} (hT : Tab w) (h : TyV w nX r t) :
    Calls Tryd.prog 50 #[r.val] w fun e w' => e = .returned (.bool (!normB t)) ∧ Keep (fun _ => False) w w' := by
  obtain ⟨k, nm, An, nn, cn, Ak, nk, ck⟩ := r
  have kal : Keep (fun _ => False) w (w.alloc (.cells #[.int .i64 k, .string nm, .slice An nn cn, .slice Ak nk ck] 25)) := (Keep.refl _ w).alloc _
  have hc := normal8_any (hT.step kal) (h.step kal)
  unfold Tv.val at hc ⊢
  simp only at hc ⊢
  have HK := Lib.hid kal
  clear h kal hT
  go_enter Tryd.func50, Tryd.ntmps50
  go_wp2_with (go_at_call 51; refine hc.mono ?_; rintro e w' ⟨rfl, hk⟩; have HK2 := Lib.hid hk; clear hk hc)
  go_ret
  exact ⟨rfl, HK.out.trans HK2.out (fun _ _ x => x)⟩
def CoA (w : World) (l : List Ty) (n : Nat) (k : Nat) (v : Value) (wr : World) : Prop :=
  ∃ i : Nat, v = .int .i64 i ∧ i ≤ n ∧ k = n - i ∧ (∀ x ∈ l.take i, normB x = true) ∧ Keep (fun _ => False) w wr
set_option maxRecDepth 100000 in
set_option maxHeartbeats 2000000 in
theorem indexN_any {w : World} {A : Option Addr} {n c : Nat} {l : List Ty} {rs : List Tv} (hb : n ≤ 140737488355328) (hT : Tab w) (h : Rd w nX 4 (.slice A n c) n (tflat rs)) (hv : TysV w nX rs l) :
    Calls Tryd.prog 70 #[.slice A n c, .func (.func 50) #[] #[]] w fun e w' => (∃ z : Int, e = .returned (.int .i64 z) ∧ decide (z ≥ 0) = !l.all normB) ∧ Keep (fun _ => False) w w' := by
  have hl := hv.len
  have hn := h.nlen
  have HH := Lib.hid (And.intro h (And.intro hv (And.intro hT (And.intro hl hn))))
  have h0 : Hid (CoA w l n n (.int .i64 0) w) := ⟨0, rfl, Nat.zero_le _, rfl, by simp, Keep.refl _ _⟩
  clear h hv hT hl hn
  go_enter Tryd.func70, Tryd.ntmps70
  go_wp2
  go_loopg [8] n (CoA w l n)
  case atStart => exact h0.out
  case round =>
    clear h0
    obtain ⟨i, rfl, hi, rfl, hall, hk⟩ := hrel
    by_cases hlt : i < n
    · have d1 : decide ((i : Int) < (n : Int)) = true := by simp; omega
      obtain ⟨s, hs⟩ : ∃ s, l[i]? = some s := ⟨_, List.getElem?_eq_getElem (by have := HH.out.2.2.2; omega)⟩
      obtain ⟨⟨qk, qnm, qAn, qnn, qcn, qAk, qnk, qck⟩, hq, hqv⟩ := (HH.out.2.1.step hk).at_ hs
      obtain ⟨b, o, rfl, hbz, _, c0, c1, c2, c3⟩ := (HH.out.1.keep hk (fun _ x => x.elim)).tcells hlt hq
      simp only at c0 c1 c2 c3
      have hc := notNormal_any (HH.out.2.2.1.step hk) hqv
      unfold Tv.val at hc
      simp only at hc
      have i0 : (0 : Int) ≤ (i : Int) := by omega
      have i1 : (i : Int) < (n : Int) := by omega
      have HS := Lib.hid (And.intro hall (And.intro hk hs))
      clear hall hk hs hq hqv
      cases hno : normB s with
      | false =>
        rw [hno] at hc
        have HN := Lib.hid hno
        clear hno
        go_wp2_with (go_at_call 50; refine hc.mono ?_; rintro e w' ⟨rfl, hk⟩; have HK2 := Lib.hid hk; clear hk hc)
        go_ret
        exact ⟨⟨i, rfl, by rw [all_bad (List.mem_of_getElem? HS.out.2.2) HN.out]; simp⟩, HS.out.2.1.trans HK2.out (fun _ _ x => x)⟩
      | true =>
        rw [hno] at hc
        have HN := Lib.hid hno
        clear hno
        go_wp2_with (go_at_call 50; refine hc.mono ?_; rintro e w' ⟨rfl, hk⟩; have HK2 := Lib.hid hk; clear hk hc)
        go_roundg (n - (i + 1))
        case measure => omega
        case rel => exact ⟨i + 1, by go_num, by omega, rfl, take_norm HS.out.1 HS.out.2.2 HN.out, HS.out.2.1.trans HK2.out (fun _ _ x => x)⟩
    · have d1 : decide ((i : Int) < (n : Int)) = false := by simp; omega
      have hee : l.all normB = true := by
        rw [List.take_of_length_le (by have := HH.out.2.2.2; omega)] at hall
        rw [List.all_eq_true]
        exact hall
      have HN := Lib.hid (And.intro hee hk)
      clear hee hall hk
      go_wp2_with fail
      go_ret
      exact ⟨⟨-1, rfl, by rw [HN.out.1]; simp⟩, HN.out.2⟩
set_option maxHeartbeats 2000000 in
theorem containsN_any {w : World} {A : Option Addr} {n c : Nat} {l : List Ty} {rs : List Tv} (hb : n ≤ 140737488355328) (hT : Tab w) (h : Rd w nX 4 (.slice A n c) n (tflat rs)) (hv : TysV w nX rs l) :
    Calls Tryd.prog 49 #[.slice A n c, .func (.func 50) #[] #[]] w fun e w' => e = .returned (.bool (!l.all normB)) ∧ Keep (fun _ => False) w w' := by
  have hc := indexN_any hb hT h hv
  clear h hv hT
  go_enter Tryd.func49, Tryd.ntmps49
  go_wp2_with (go_at_call 70; refine hc.mono ?_; rintro e w' ⟨⟨z, rfl, hz⟩, hk⟩; have HK2 := Lib.hid hk; have HZ := Lib.hid hz; clear hk hc hz)
  go_ret
  exact ⟨ret_bool (by rw [← HZ.out]), HK2.out⟩
end Go.Proofs.YtbanpohholnkaaaDoor

namespace Go.Proofs.YtbanpohholnkaaaDoor
open Go.RowKit

theorem join_data (sep : ByteArray) : ∀ xs : List ByteArray, Lib.join (xs.map (·.data.toList)) sep.data.toList = (joinB sep xs).data.toList
  | [] => rfl
  | [x] => by simp [joinB, Lib.join]
  | x :: y :: l => by
    have h := join_data sep (y :: l)
    have e : Lib.join ((x :: y :: l).map (·.data.toList)) sep.data.toList = x.data.toList ++ (sep.data.toList ++ Lib.join ((y :: l).map (·.data.toList)) sep.data.toList) := by
      simp [Lib.join]
    rw [e, h]
    simp [joinB]
theorem join_any {w : World} {A : Option Addr} {n c : Nat} {xs : List ByteArray} (sep : ByteArray) (hn : n = xs.length) (hb : n ≤ 140737488355328) (ho : w.ownsRow 0 9 1 (.slice A n c) n (strs xs)) (hl : (joinB sep xs).size ≤ 140737488355328) :
    Calls Tryd.prog 53 #[.slice A n c, .string sep] w fun e w' => e = .returned (.string (joinB sep xs)) ∧ Keep (fun _ => False) w w' := by
  subst hn
  rcases own_cases ho with ⟨hv, h0, _⟩ | ⟨g, cap', hv, hc, hg⟩
  · have hl : xs = [] := List.eq_nil_of_length_eq_zero h0
    subst hl
    refine (Tryd.strings_Join_none A c sep w).mono ?_
    rintro e w' ⟨rfl, rfl⟩
    exact ⟨rfl, Keep.refl _ _⟩
  · simp only [Value.slice.injEq, true_and] at hv
    obtain ⟨rfl, rfl⟩ := hv
    have hc2 := Tryd.strings_Join g 0 c xs sep w (fun j x hx => by
      have hj := (List.getElem?_eq_some_iff.1 hx).1
      rw [Nat.zero_add, ho.cellAt j (by omega)]
      simp [strs, hx]) hg hb hc (by rw [join_data]; simpa using hl)
    refine hc2.mono ?_
    rintro e w' ⟨rfl, hbw⟩
    refine ⟨?_, Keep.of_below hbw (Nat.le_refl _) _⟩
    rw [join_data]

def ShowOk (X : Nat → Prop) (t : Ty) : Prop := ∀ (w : World) (r : Tv), TyV w X r t → Calls Tryd.prog 71 #[r.val] w fun e w' => e = .returned (.string (showT t)) ∧ Keep (fun _ => False) w w'
set_option maxHeartbeats 2000000 in
theorem inner_any {X : Nat → Prop} {t : Ty} (hs : ShowOk X t) (hsz : (showT t).size ≤ 10000) {w : World} {r : Tv} (h : TyV w X r t) :
    Calls Tryd.prog 80 #[r.val] w fun e w' => e = .returned (.string (innS (t.kind, showT t))) ∧ Keep (fun _ => False) w w' := by
  obtain ⟨k, nm, An, nn, cn, Ak, nk, ck⟩ := r
  have hc := hs _ _ (h.box (.cells #[.int .i64 k, .string nm, .slice An nn cn, .slice Ak nk ck] 25))
  have hk := h.knd
  simp only at hk
  unfold innS
  rw [← hk]
  unfold Tv.val at hc ⊢
  simp only at hc ⊢
  generalize showT t = s at *
  have q1 : ¬ 9223372036854775807 < 1 + s.size := by omega
  have q2 : ¬ 9223372036854775807 < 1 + s.size + 1 := by omega
  clear h hs hk
  by_cases h6 : k = 6
  · subst h6
    rw [if_pos rfl]
    go_enter Tryd.func80, Tryd.ntmps80
    go_wp2_with (go_at_call 71; refine hc.mono ?_; rintro e w' ⟨rfl, hk⟩; have HK := Lib.hid hk; clear hk hc)
    go_ret
    exact ⟨rfl, ((Keep.refl _ w).alloc _).trans HK.out (fun _ _ x => x)⟩
  · have d6 : (k == 6) = false := by rw [beq_eq_false_iff_ne]; exact h6
    rw [if_neg h6]
    clear h6
    go_enter Tryd.func80, Tryd.ntmps80
    go_wp2_with (go_at_call 71; refine hc.mono ?_; rintro e w' ⟨rfl, hk⟩; have HK := Lib.hid hk; clear hk hc)
    go_ret
    exact ⟨rfl, ((Keep.refl _ w).alloc _).trans HK.out (fun _ _ x => x)⟩
structure ShR (w1 : World) (ss : List ByteArray) (i : Nat) (lv : Value) (wr : World) : Prop where
  keep : Keep (fun _ => False) w1 wr
  own : wr.ownsRow 0 9 1 lv i (strs (ss.take i))
  new : ∀ g, lv.ownBlock = some g → w1.heap.size ≤ g
def ShA (w1 : World) (ss : List ByteArray) (n : Nat) (k : Nat) (a b : Value) (wr : World) : Prop :=
  ∃ (i : Nat) (lv : Value), a = lv ∧ b = .int .i64 i ∧ i ≤ n ∧ k = n - i ∧ ShR w1 ss i lv wr
theorem ShR.app {w1 wr w2 w3 : World} {ss : List ByteArray} {i g cap : Nat} {lv : Value} {s : ByteArray} (h : ShR w1 ss i lv wr) (hs : ss[i]? = some s) (hk2 : Keep (fun _ => False) wr w2)
    (ho : w3.ownsRow 0 9 1 (.slice (some ⟨g, 0, none⟩) (i + 1) cap) (i + 1) (strs (ss.take i) ++ [.string s])) (hk : Keep (fun k => lv.ownBlock = some k) w2 w3) (hg : lv.ownBlock = some g ∨ w2.heap.size ≤ g) : ShR w1 ss (i + 1) (.slice (some ⟨g, 0, none⟩) (i + 1) cap) w3 := by
  refine ⟨(h.keep.trans hk2 (fun _ _ x => x)).weak hk (fun j hj => h.new j hj), ?_, fun j hj => ?_⟩
  · rw [List.take_add_one, hs, strs_append]
    exact ho
  · simp only [Value.ownBlock, Option.some.injEq] at hj
    subst hj
    rcases hg with hg | hg
    · exact h.new _ hg
    · have := h.keep.size; have := hk2.size; omega
set_option maxRecDepth 100000 in
set_option maxHeartbeats 8000000 in
theorem show_any {X : Nat → Prop} (t : Ty) : WfS t → t.size ≤ 200 → ShowOk X t := by
  induction t using Ty.ind with
  | h t ih =>
    intro hw hsz w r h
    obtain ⟨k, nm, An, nn, cn, Ak, nk, ck⟩ := r
    obtain ⟨rs0, hnk, hnkb, hrd0, hv0⟩ := h.kds
    have hkk := h.knd
    have hnm := h.out.2.2.2.1
    have hnn := h.out.2.2.1
    have hnb := h.out.1.2.1
    simp only at hnk hnkb hrd0 hkk hnm hnn hnb
    obtain ⟨hh, hwk⟩ := hw.out
    have hlen : t.kids.length ≤ 200 := by
      have := length_le_sizeL t.kids
      have := t.size_eq
      omega
    have hkid : ∀ kd ∈ t.kids, ShowOk X kd := fun kd hkd => ih kd (Ty.kid_lt hkd) (WfL_iff.1 hwk kd hkd) (by have := Ty.kid_lt hkd; omega)
    have hts := showT_size t hw
    have hks : ∀ kd ∈ t.kids, (showT kd).size ≤ 10000 := fun kd hkd => by
      have h1 := showT_size kd (WfL_iff.1 hwk kd hkd)
      have h2 := Ty.kid_lt hkd
      omega
    have HKS := Lib.hid hks
    clear hks
    have kw : Keep (fun _ => False) w (w.alloc (.cells #[.int .i64 k, .string nm, .slice An nn cn, .slice Ak nk ck] 25)) := (Keep.refl _ w).alloc _
    have abx : At (w.alloc (.cells #[.int .i64 k, .string nm, .slice An nn cn, .slice Ak nk ck] 25)) w.heap.size 25 #[.int .i64 k, .string nm, .slice An nn cn, .slice Ak nk ck] := At.new _ _ _
    rw [showT_eq] at hts ⊢
    rw [← hkk] at hts
    have H := Lib.hid (And.intro h (And.intro hkid (And.intro kw (And.intro abx (And.intro hnm (And.intro hts hsz))))))
    have HN := Lib.hid (And.intro hnk (And.intro hnn hlen))
    unfold Tv.val
    simp only
    rw [← hkk] at hh ⊢
    clear h ih hw hwk hrd0 hv0 hnm hkk kw abx hkid hts hsz hlen hnn
    rcases hh with h04 | ⟨rfl, h5l, h5n⟩ | ⟨rfl, h6⟩ | rfl
    · have hb : headS k t.names (showL t.kids) = baseS k := by unfold headS; rw [if_neg (by omega), if_neg (by omega), if_neg (by omega)]
      rw [hb]
      have hk5 : k = 0 ∨ k = 1 ∨ k = 2 ∨ k = 3 ∨ k = 4 := by omega
      clear hb h04 hnk
      rcases hk5 with rfl | rfl | rfl | rfl | rfl
      all_goals (
        go_enter Tryd.func71, Tryd.ntmps71
        go_wp2_with fail
        go_ret
        exact ⟨rfl, ((Keep.refl _ w).alloc _).alloc _⟩)
    · have hss : ∀ (i : Nat) (kd : Ty) (s : ByteArray), t.kids[i]? = some kd → t.names[i]? = some s → ((t.names.zip (showL t.kids)).map fun x => x.1 ++ ⟨#[58, 32]⟩ ++ x.2.2)[i]? = some (s ++ ⟨#[58, 32]⟩ ++ showT kd) := by
        intro i kd s h1 h2
        rw [List.getElem?_map, (List.getElem?_zip_eq_some (z := (s, (kd.kind, showT kd)))).2 ⟨h2, by rw [showL_eq, List.getElem?_map, h1]; rfl⟩]
        rfl
      have hsl : ((t.names.zip (showL t.kids)).map fun x => x.1 ++ ⟨#[58, 32]⟩ ++ x.2.2).length = t.kids.length := by simp [showL_eq, h5l]
      have hhd : headS 5 t.names (showL t.kids) = ⟨#[123]⟩ ++ joinB ⟨#[44, 32]⟩ ((t.names.zip (showL t.kids)).map fun x => x.1 ++ ⟨#[58, 32]⟩ ++ x.2.2) ++ ⟨#[125]⟩ := rfl
      rw [hhd]
      have HHD := Lib.hid hhd
      clear hhd
      generalize ((t.names.zip (showL t.kids)).map fun x => x.1 ++ ⟨#[58, 32]⟩ ++ x.2.2) = ss at *
      have h0 : Hid (ShA (w.alloc (.cells #[.int .i64 5, .string nm, .slice An nn cn, .slice Ak nk ck] 25)) ss nk nk (.slice none 0 0) (.int .i64 0) (w.alloc (.cells #[.int .i64 5, .string nm, .slice An nn cn, .slice Ak nk ck] 25))) :=
        ⟨0, _, rfl, rfl, Nat.zero_le _, rfl, ⟨Keep.refl _ _, World.ownsRow_nil _ 0 9 1, fun g hg => by simp [Value.ownBlock] at hg⟩⟩
      have HSS := Lib.hid (And.intro hss (And.intro hsl (And.intro h5l h5n)))
      clear hss hsl h5l h5n hnk
      go_enter Tryd.func71, Tryd.ntmps71
      go_wp2_with fail
      generalize (w.alloc (.cells #[.int .i64 5, .string nm, .slice An nn cn, .slice Ak nk ck] 25)) = w1 at *
      generalize w.heap.size = bx at *
      go_loopg [3, 16] nk (ShA w1 ss nk)
      case atStart => exact h0.out
      case round =>
        clear h0
        obtain ⟨i, lv, rfl, rfl, hi, rfl, hR⟩ := hrel
        obtain ⟨Al, cl, rfl⟩ := own_slice hR.own
        have hkwr := H.out.2.2.1.trans hR.keep (fun _ _ x => x)
        have hax := hR.keep.at_ H.out.2.2.2.1 (fun x => x)
        have HR := Lib.hid (And.intro hR (And.intro hkwr hax))
        by_cases hlt : i < nk
        · obtain ⟨kd, ⟨qk, qnm, qAn, qnn, qcn, qAk, qnk, qck⟩, b, o, hkd, hqv, hAk, hbz, _, c0, c1, c2, c3⟩ := (H.out.1.step hkwr).kid (i := i) hlt
          simp only at c0 c1 c2 c3 hAk
          subst hAk
          obtain ⟨s, hs⟩ : ∃ s, t.names[i]? = some s := ⟨_, List.getElem?_eq_getElem (by have h1 := HN.out; have h2 := HSS.out.2.2.1; omega)⟩
          have hs32 := HSS.out.2.2.2 s (List.mem_of_getElem? hs)
          have hnn5 : nn = t.names.length := HN.out.2.1
          have hnmf : ∀ w2, Keep (fun _ => False) wr w2 → ∃ b2 o2, An = some ⟨b2, o2, none⟩ ∧ b2 < w2.heap.size ∧ w2.cell? ⟨b2, o2 + i, none⟩ = some (.string s) := fun w2 hk2 => by
            obtain ⟨b2, o2, hA, hb2, _, e0⟩ := (H.out.2.2.2.2.1.keep (hkwr.trans hk2 (fun _ _ x => x)) (fun _ x => x.elim)).scell (i := i) (by have h1 := (List.getElem?_eq_some_iff.1 hs).1; omega) hs
            exact ⟨b2, o2, hA, hb2, e0⟩
          obtain ⟨b2, o2, hA2, hbz2, e0⟩ := hnmf wr (Keep.refl _ _)
          subst hA2
          have hin : i < nn := by have h1 := (List.getElem?_eq_some_iff.1 hs).1; omega
          have kal : Keep (fun _ => False) wr (wr.alloc (.cells #[.int .i64 qk, .string qnm, .slice qAn qnn qcn, .slice qAk qnk qck] 25)).drew := ((Keep.refl _ wr).alloc _).drew
          have hc := H.out.2.1 kd (List.mem_of_getElem? hkd) _ ⟨qk, qnm, qAn, qnn, qcn, qAk, qnk, qck⟩ (hqv.step kal)
          have hks := HKS.out kd (List.mem_of_getElem? hkd)
          have hsi := HSS.out.1 i kd s hkd hs
          unfold Tv.val at hc
          simp only at hc
          generalize showT kd = ks at *
          have q1 : ¬ 9223372036854775807 < s.size + 2 := by omega
          have q2 : ¬ 9223372036854775807 < s.size + 2 + ks.size := by omega
          have hbig : i + 1 ≤ 1099511627776 := by have := HN.out; omega
          have x2 : wr.cell? ⟨bx, 2, none⟩ = some (.slice (some ⟨b2, o2, none⟩) nn cn) := hax.cell 2
          have xl := hax.lt
          have HQ := Lib.hid (And.intro hnmf (And.intro kal hsi))
          clear hkd hqv hR hkwr hax hnmf hs hsi kal hnn5
          go_wp2_with fail
          go_region_law (first
            | (go_simp; go_at_call 71; refine hc.mono ?_; rintro e w2 ⟨rfl, hk2⟩; have k2 := HQ.out.2.1.trans hk2 (fun _ _ x => x); obtain ⟨b3, o3, hA3, hb3, e1⟩ := HQ.out.1 w2 k2; simp only [Option.some.injEq, Addr.mk.injEq, and_true] at hA3; obtain ⟨rfl, rfl⟩ := hA3; have hax2 := k2.at_ HR.out.2.2 (fun x => x); have x22 : w2.cell? ⟨bx, 2, none⟩ = some (.slice (some ⟨b2, o2, none⟩) nn cn) := hax2.cell 2; have x2l := hax2.lt; have hown2 := k2.own HR.out.1.own (fun _ _ x => x); have H2 := Lib.hid (And.intro k2 hown2); clear hk2 k2 hax2 hown2)
            | (refine step_app rfl (.tmp 21) (.tmp 31) 22 rfl E9 (.slice Al i cl) i (strs (ss.take i)) rfl (H2.out.2.alloc _) _ 1 1 #[.string (s ++ ⟨#[58, 32]⟩ ++ ks)] rfl (At.new_at (by simp)) rfl (by simp [Value.oneCell']) (by decide) hbig (by decide) ?_; intro g cap w5 ho5 hk5 hg5 hgl5; have H5 := Lib.hid (And.intro ho5 (And.intro hk5 hg5)); clear ho5 hk5 hg5))
          all_goals (
            go_wp2_with fail
            go_roundg (nk - (i + 1))
            case measure => omega
            case rel =>
              obtain ⟨ho5, hk5, hg5⟩ := H5.out
              exact ⟨i + 1, _, rfl, by go_num, by omega, rfl, HR.out.1.app HQ.out.2.2 (H2.out.1.alloc _) ho5 hk5 (by first | exact hg5 | simpa using hg5)⟩)
        · have hie : i = nk := by omega
          subst hie
          have hfull : ss.take i = ss := List.take_of_length_le (by have h1 := HSS.out.2.1; have h2 := HN.out.1; omega)
          have hown := hR.own
          rw [hfull] at hown
          have htot : (⟨#[123]⟩ ++ joinB ⟨#[44, 32]⟩ ss ++ ⟨#[125]⟩ : ByteArray).size ≤ 10000 := by
            have h1 := H.out.2.2.2.2.2.1
            rw [HHD.out] at h1
            have h2 := H.out.2.2.2.2.2.2
            omega
          have hjs : (joinB ⟨#[44, 32]⟩ ss).size ≤ 10000 := by
            rw [size_app, size_app] at htot
            omega
          have hj := join_any ⟨#[44, 32]⟩ (by have h1 := HSS.out.2.1; have h2 := HN.out.1; omega) (by have h2 := HN.out; omega) hown (by omega)
          obtain ⟨js, hjs2⟩ : ∃ js, js = joinB ⟨#[44, 32]⟩ ss := ⟨_, rfl⟩
          rw [← hjs2] at hj hjs
          have HJ := Lib.hid hjs2
          have q1 : ¬ 9223372036854775807 < 1 + js.size := by omega
          have q2 : ¬ 9223372036854775807 < 1 + js.size + 1 := by omega
          clear hR hown hfull htot hjs hax hjs2
          go_wp2_with (go_at_call 53; refine hj.mono ?_; rintro e w2 ⟨rfl, hk2⟩; have H2 := Lib.hid hk2; clear hk2 hj)
          go_ret
          refine ⟨?_, hkwr.trans H2.out (fun _ _ x => x)⟩
          rw [← HJ.out]
          rfl
    · have h2l := h6
      obtain ⟨a, b, hab⟩ : ∃ a b, t.kids = [a, b] := by
        match hks : t.kids, h6 with
        | [a, b], _ => exact ⟨a, b, rfl⟩
      have hhd : headS 6 t.names (showL t.kids) = innS (a.kind, showT a) ++ ⟨#[32, 45, 62, 32]⟩ ++ showT b := by rw [hab]; rfl
      have hnk2 : nk = 2 := by omega
      subst hnk2
      obtain ⟨ka, ⟨qk, qnm, qAn, qnn, qcn, qAk, qnk, qck⟩, bl, o, hka, hqa, hAk, hbz, _, c0, c1, c2, c3⟩ := (H.out.1.step H.out.2.2.1).kid (i := 0) (Nat.zero_lt_succ 1)
      obtain ⟨kb, ⟨pk, pnm, pAn, pnn, pcn, pAk, pnk, pck⟩, bl', o', hkb, hpb, hAk', hbz', _, d0, d1, d2, d3⟩ := (H.out.1.step H.out.2.2.1).kid (i := 1) (Nat.lt_succ_self 1)
      simp only at c0 c1 c2 c3 d0 d1 d2 d3 hAk hAk'
      subst hAk
      simp only [Option.some.injEq, Addr.mk.injEq, and_true] at hAk'
      obtain ⟨rfl, rfl⟩ := hAk'
      rw [hab] at hka hkb
      simp only [List.getElem?_cons_zero, List.getElem?_cons_succ, Option.some.injEq] at hka hkb
      subst hka
      subst hkb
      have hma : a ∈ t.kids := by rw [hab]; simp
      have hmb : b ∈ t.kids := by rw [hab]; simp
      have hsa := HKS.out a hma
      have hsb := HKS.out b hmb
      have hia := innS_size (a.kind, showT a)
      have hib := H.out.2.1 b hmb
      have hiA := fun (w' : World) (hk : Keep (fun _ => False) (w.alloc (.cells #[.int .i64 6, .string nm, .slice An nn cn, .slice (some ⟨bl, o, none⟩) 2 ck] 25)) w') => inner_any (H.out.2.1 a hma) hsa (hqa.step hk)
      have hiB := fun (w' : World) (hk : Keep (fun _ => False) (w.alloc (.cells #[.int .i64 6, .string nm, .slice An nn cn, .slice (some ⟨bl, o, none⟩) 2 ck] 25)) w') => hib w' _ (hpb.step hk)
      have hax := H.out.2.2.2.1
      unfold Tv.val at hiA hiB
      simp only at hiA hiB hia
      have HH := Lib.hid hhd
      have H3 := Lib.hid H.out.2.2.1
      clear hhd hib hab hma hmb hqa hpb hnk h2l h6 H HN HKS
      go_enter Tryd.func71, Tryd.ntmps71
      go_wp2_with fail
      generalize (w.alloc (.cells #[.int .i64 6, .string nm, .slice An nn cn, .slice (some ⟨bl, o, none⟩) 2 ck] 25)) = w1 at *
      generalize w.heap.size = bx at *
      have kd : Keep (fun _ => False) w1 w1.drew := (Keep.refl _ w1).drew
      obtain ⟨hF⟩ : Nonempty (∀ w2, Keep (fun _ => False) w1 w2 → (w2.cell? ⟨bx, 3, none⟩ = some (.slice (some ⟨bl, o, none⟩) 2 ck) ∧ bx < w2.heap.size ∧ bl < w2.heap.size) ∧ (w2.cell? ⟨bl, o, none⟩ = some (.int .i64 qk) ∧ w2.cell? ⟨bl, o + 1, none⟩ = some (.string qnm) ∧ w2.cell? ⟨bl, o + 2, none⟩ = some (.slice qAn qnn qcn) ∧ w2.cell? ⟨bl, o + 3, none⟩ = some (.slice qAk qnk qck)) ∧ w2.cell? ⟨bl, o + 4, none⟩ = some (.int .i64 pk) ∧ w2.cell? ⟨bl, o + 4 + 1, none⟩ = some (.string pnm) ∧ w2.cell? ⟨bl, o + 4 + 2, none⟩ = some (.slice pAn pnn pcn) ∧ w2.cell? ⟨bl, o + 4 + 3, none⟩ = some (.slice pAk pnk pck)) :=
        ⟨fun w2 hk => ⟨⟨(hk.at_ hax (fun x => x)).cell 3, (hk.at_ hax (fun x => x)).lt, Nat.lt_of_lt_of_le hbz hk.size⟩, ⟨hk.cell (by simpa using c0) (fun x => x), hk.cell (by simpa using c1) (fun x => x), hk.cell (by simpa using c2) (fun x => x), hk.cell (by simpa using c3) (fun x => x)⟩, hk.cell (by simpa using d0) (fun x => x), hk.cell (by simpa using d1) (fun x => x), hk.cell (by simpa using d2) (fun x => x), hk.cell (by simpa using d3) (fun x => x)⟩⟩
      generalize showT a = sa at *
      generalize showT b = sb at *
      generalize innS (a.kind, sa) = ia at *
      have q1 : ¬ 9223372036854775807 < ia.size + 4 := by omega
      have q2 : ¬ 9223372036854775807 < ia.size + 4 + sb.size := by omega
      obtain ⟨⟨x3, xl, bll⟩, ⟨e0, e1, e2, e3⟩, f0, f1, f2, f3⟩ := hF w1 (Keep.refl _ _)
      clear c0 c1 c2 c3 d0 d1 d2 d3 hbz hbz' hia hsa hsb hax
      have HF := Lib.hid hF
      have HA := Lib.hid hiA
      have HB := Lib.hid hiB
      have KD := Lib.hid kd
      clear hF hiA hiB kd
      go_wp2_with fail
      go_region_law (first
        | (go_simp; go_at_call 80; refine (HA.out _ KD.out).mono ?_; rintro e w2 ⟨rfl, hk2⟩; have k2 := KD.out.trans hk2 (fun _ _ x => x); clear x3 xl bll e0 e1 e2 e3 f0 f1 f2 f3; obtain ⟨⟨x3, xl, bll⟩, ⟨e0, e1, e2, e3⟩, f0, f1, f2, f3⟩ := HF.out w2 k2; have K2 := Lib.hid k2; clear k2 hk2 KD)
        | (go_simp; go_at_call 71; refine (HB.out _ KD.out).mono ?_; rintro e w2 ⟨rfl, hk2⟩; have k2 := KD.out.trans hk2 (fun _ _ x => x); clear x3 xl bll e0 e1 e2 e3 f0 f1 f2 f3; obtain ⟨⟨x3, xl, bll⟩, ⟨e0, e1, e2, e3⟩, f0, f1, f2, f3⟩ := HF.out w2 k2; have K2 := Lib.hid k2; clear k2 hk2 KD)
        | (go_simp; go_at_call 80; refine (HA.out _ K2.out).mono ?_; rintro e w3 ⟨rfl, hk3⟩; have K3 := Lib.hid (K2.out.trans hk3 (fun _ _ x => x)); clear hk3 x3 xl bll e0 e1 e2 e3 f0 f1 f2 f3 K2)
        | (go_simp; go_at_call 71; refine (HB.out _ K2.out).mono ?_; rintro e w3 ⟨rfl, hk3⟩; have K3 := Lib.hid (K2.out.trans hk3 (fun _ _ x => x)); clear hk3 x3 xl bll e0 e1 e2 e3 f0 f1 f2 f3 K2))
      all_goals (
        go_wp2_with fail
        go_ret
        exact ⟨by rw [HH.out]; rfl, H3.out.trans K3.out (fun _ _ x => x)⟩)
    · have hsz2 := H.out.2.2.2.2.2.1
      have hss : ∀ (i : Nat) (kd : Ty), t.kids[i]? = some kd → ((showL t.kids).map innS)[i]? = some (innS (kd.kind, showT kd)) := by
        intro i kd h1
        rw [showL_eq, List.getElem?_map, List.getElem?_map, h1]
        rfl
      have hsl : ((showL t.kids).map innS).length = t.kids.length := by simp [showL_eq]
      have hhd : headS 7 t.names (showL t.kids) = joinB ⟨#[32, 124, 32]⟩ ((showL t.kids).map innS) := rfl
      rw [hhd] at hsz2 ⊢
      have HSZ := Lib.hid (And.intro hsz2 H.out.2.2.2.2.2.2)
      clear hhd hsz2
      generalize ((showL t.kids).map innS) = ss at *
      have h0 : Hid (ShA (w.alloc (.cells #[.int .i64 7, .string nm, .slice An nn cn, .slice Ak nk ck] 25)) ss nk nk (.slice none 0 0) (.int .i64 0) (w.alloc (.cells #[.int .i64 7, .string nm, .slice An nn cn, .slice Ak nk ck] 25))) :=
        ⟨0, _, rfl, rfl, Nat.zero_le _, rfl, ⟨Keep.refl _ _, World.ownsRow_nil _ 0 9 1, fun g hg => by simp [Value.ownBlock] at hg⟩⟩
      have HSS := Lib.hid (And.intro hss hsl)
      clear hss hsl hnk
      go_enter Tryd.func71, Tryd.ntmps71
      go_wp2_with fail
      generalize (w.alloc (.cells #[.int .i64 7, .string nm, .slice An nn cn, .slice Ak nk ck] 25)) = w1 at *
      generalize w.heap.size = bx at *
      go_loopg [3, 57] nk (ShA w1 ss nk)
      case atStart => exact h0.out
      case round =>
        clear h0
        obtain ⟨i, lv, rfl, rfl, hi, rfl, hR⟩ := hrel
        obtain ⟨Al, cl, rfl⟩ := own_slice hR.own
        have hkwr := H.out.2.2.1.trans hR.keep (fun _ _ x => x)
        have HR := Lib.hid (And.intro hR hkwr)
        by_cases hlt : i < nk
        · obtain ⟨kd, ⟨qk, qnm, qAn, qnn, qcn, qAk, qnk, qck⟩, b, o, hkd, hqv, hAk, hbz, _, c0, c1, c2, c3⟩ := (H.out.1.step hkwr).kid (i := i) hlt
          simp only at c0 c1 c2 c3 hAk
          subst hAk
          have kal : Keep (fun _ => False) wr (wr.alloc (.cells #[.int .i64 qk, .string qnm, .slice qAn qnn qcn, .slice qAk qnk qck] 25)) := (Keep.refl _ wr).alloc _
          have hc := inner_any (H.out.2.1 kd (List.mem_of_getElem? hkd)) (HKS.out kd (List.mem_of_getElem? hkd)) (hqv.step kal)
          have hsi := HSS.out.1 i kd hkd
          unfold Tv.val at hc
          simp only at hc
          generalize innS (kd.kind, showT kd) = ks at *
          have hbig : i + 1 ≤ 1099511627776 := by have := HN.out; omega
          have HQ := Lib.hid (And.intro kal hsi)
          clear hkd hqv hR hkwr hsi kal
          go_wp2_with (first
            | (go_at_call 80; refine hc.mono ?_; rintro e w2 ⟨rfl, hk2⟩; have k2 := HQ.out.1.trans hk2 (fun _ _ x => x); have hown2 := k2.own HR.out.1.own (fun _ _ x => x); have H2 := Lib.hid (And.intro k2 hown2); clear hk2 k2 hown2)
            | (at_builtin; refine wpList_app rfl (.tmp 61) (.tmp 64) 22 rfl E9 (.slice Al i cl) i (strs (ss.take i)) rfl (H2.out.2.alloc _) _ 1 1 #[.string ks] rfl (At.new_at (by simp)) rfl (by simp [Value.oneCell']) (by decide) hbig (by decide) ?_; intro g cap w5 ho5 hk5 hg5 hgl5; have H5 := Lib.hid (And.intro ho5 (And.intro hk5 hg5)); clear ho5 hk5 hg5))
          go_roundg (nk - (i + 1))
          case measure => omega
          case rel =>
            obtain ⟨ho5, hk5, hg5⟩ := H5.out
            exact ⟨i + 1, _, rfl, by go_num, by omega, rfl, HR.out.1.app HQ.out.2 (H2.out.1.alloc _) ho5 hk5 (by first | exact hg5 | simpa using hg5)⟩
        · have hie : i = nk := by omega
          subst hie
          have hfull : ss.take i = ss := List.take_of_length_le (by have h1 := HSS.out.2; have h2 := HN.out.1; omega)
          have hown := hR.own
          rw [hfull] at hown
          have hj := join_any ⟨#[32, 124, 32]⟩ (by have h1 := HSS.out.2; have h2 := HN.out.1; omega) (by have h2 := HN.out; omega) hown (by have h2 := HSZ.out; omega)
          clear hR hown hfull
          go_wp2_with (go_at_call 53; refine hj.mono ?_; rintro e w2 ⟨rfl, hk2⟩; have H2 := Lib.hid hk2; clear hk2 hj)
          go_ret
          exact ⟨rfl, hkwr.trans H2.out (fun _ _ x => x)⟩
end Go.Proofs.YtbanpohholnkaaaDoor

namespace Go.Proofs.YtbanpohholnkaaaDoor
open Go.RowKit

set_option maxRecDepth 100000 in
set_option maxHeartbeats 4000000 in
theorem Show_any {w : World} {X : Nat → Prop} {r : Tv} {t : Ty} (hX : ∀ i, X i → i < w.heap.size) (hT : Tab w) (h : TyV w X r t) :
    Calls Tryd.prog 52 #[r.val] w fun e w' => e = .returned (.string (ShowS t)) ∧ Keep (fun _ => False) w w' := by
  obtain ⟨k, nm, An, nn, cn, Ak, nk, ck⟩ := r
  have kw : Keep (fun _ => False) w (w.alloc (.cells #[.int .i64 k, .string nm, .slice An nn cn, .slice Ak nk ck] 25)) := (Keep.refl _ w).alloc _
  have abx : At (w.alloc (.cells #[.int .i64 k, .string nm, .slice An nn cn, .slice Ak nk ck] 25)) w.heap.size 25 #[.int .i64 k, .string nm, .slice An nn cn, .slice Ak nk ck] := At.new _ _ _
  have hn := Norm_any (fun i hi => Nat.lt_of_lt_of_le (hX i hi) kw.size) (hT.step kw) (h.step kw)
  have H := Lib.hid (And.intro (h.step kw) (And.intro kw abx))
  unfold Tv.val at hn ⊢
  simp only at hn ⊢
  clear h hX hT kw abx
  cases hno : NormT t with
  | none =>
    have hs : ShowS t = ⟨#[]⟩ := by unfold ShowS; rw [if_neg]; rw [hno]; simp
    rw [hs]
    rw [hno] at hn
    clear hs hno
    go_enter Tryd.func52, Tryd.ntmps52
    go_wp2_with (go_at_call 42; refine hn.mono ?_; rintro e w2 ⟨he, hk2⟩; unfold NormP at he; simp only [Tv.val, tv0] at he; subst he; have ax := hk2.at_ H.out.2.2 (fun x => x); have x0 := ax.cell 0; have x1 := ax.cell 1; have x2 := ax.cell 2; have x3 := ax.cell 3; have xl := ax.lt; simp only [List.getElem?_toArray, List.getElem?_cons_succ, List.getElem?_cons_zero] at x0 x1 x2 x3; have H2 := Lib.hid hk2; clear hk2 hn ax)
    go_ret
    exact ⟨rfl, (H.out.2.1.trans H2.out (fun _ _ x => x)).alloc _⟩
  | some n =>
    rw [hno] at hn
    have hnf := NormT_nf hno
    by_cases hnt : n = t
    · subst hnt
      have hs : ShowS n = showT n := by unfold ShowS; rw [if_pos hno]
      rw [hs]
      have hsh : ShowOk X n := show_any n hnf.1.wf (by omega)
      have HS := Lib.hid hsh
      clear hs hno hnf hsh
      go_enter Tryd.func52, Tryd.ntmps52
      go_wp2_with (first
        | (go_at_call 42; refine hn.mono ?_; rintro e w2 ⟨⟨⟨pk, pnm, pAn, pnn, pcn, pAk, pnk, pck⟩, he, hp⟩, hk2⟩; simp only [Tv.val] at he; subst he; have ax := hk2.at_ H.out.2.2 (fun x => x); have x0 := ax.cell 0; have x1 := ax.cell 1; have x2 := ax.cell 2; have x3 := ax.cell 3; have xl := ax.lt; simp only [List.getElem?_toArray, List.getElem?_cons_succ, List.getElem?_cons_zero] at x0 x1 x2 x3; have hsm := same_any n n (w2.alloc (.cells #[.int .i64 pk, .string pnm, .slice pAn pnn pcn, .slice pAk pnk pck] 25)) _ _ (hp.box _) ((H.out.1.step hk2).box _); rw [sameT_refl] at hsm; unfold Tv.val at hsm; simp only at hsm; have H2 := Lib.hid (And.intro (hk2.alloc (.cells #[.int .i64 pk, .string pnm, .slice pAn pnn pcn, .slice pAk pnk pck] 25)) ax); clear hk2 hn ax hp)
        | (go_at_call 54; refine hsm.mono ?_; rintro e w3 ⟨rfl, hk3⟩; have k13 := H2.out.1.trans hk3 (fun _ _ x => x); have ay := k13.at_ H.out.2.2 (fun x => x); have y0 := ay.cell 0; have y1 := ay.cell 1; have y2 := ay.cell 2; have y3 := ay.cell 3; have yl := ay.lt; simp only [List.getElem?_toArray, List.getElem?_cons_succ, List.getElem?_cons_zero] at y0 y1 y2 y3; have hsh := HS.out _ _ (H.out.1.step k13); unfold Tv.val at hsh; simp only at hsh; have H3 := Lib.hid k13; clear hk3 k13 ay hsm)
        | (go_at_call 71; refine hsh.mono ?_; rintro e w4 ⟨rfl, hk4⟩; have H4 := Lib.hid (H3.out.trans hk4 (fun _ _ x => x)); clear hk4 hsh))
      go_ret
      exact ⟨rfl, H.out.2.1.trans H4.out (fun _ _ x => x)⟩
    · have hs : ShowS t = ⟨#[]⟩ := by unfold ShowS; rw [if_neg]; rw [hno]; simpa using hnt
      rw [hs]
      have HN := Lib.hid (sameT_ne hnt)
      clear hs hno hnf hnt
      go_enter Tryd.func52, Tryd.ntmps52
      go_wp2_with (first
        | (go_at_call 42; refine hn.mono ?_; rintro e w2 ⟨⟨⟨pk, pnm, pAn, pnn, pcn, pAk, pnk, pck⟩, he, hp⟩, hk2⟩; simp only [Tv.val] at he; subst he; have ax := hk2.at_ H.out.2.2 (fun x => x); have x0 := ax.cell 0; have x1 := ax.cell 1; have x2 := ax.cell 2; have x3 := ax.cell 3; have xl := ax.lt; simp only [List.getElem?_toArray, List.getElem?_cons_succ, List.getElem?_cons_zero] at x0 x1 x2 x3; have hsm := same_any n t (w2.alloc (.cells #[.int .i64 pk, .string pnm, .slice pAn pnn pcn, .slice pAk pnk pck] 25)) _ _ (hp.box _) ((H.out.1.step hk2).box _); rw [HN.out] at hsm; unfold Tv.val at hsm; simp only at hsm; have H2 := Lib.hid (And.intro (hk2.alloc (.cells #[.int .i64 pk, .string pnm, .slice pAn pnn pcn, .slice pAk pnk pck] 25)) ax); clear hk2 hn ax hp)
        | (go_at_call 54; refine hsm.mono ?_; rintro e w3 ⟨rfl, hk3⟩; have H3 := Lib.hid (H2.out.1.trans hk3 (fun _ _ x => x)); clear hk3 hsm))
      go_ret
      exact ⟨rfl, H.out.2.1.trans H3.out (fun _ _ x => x)⟩
end Go.Proofs.YtbanpohholnkaaaDoor
