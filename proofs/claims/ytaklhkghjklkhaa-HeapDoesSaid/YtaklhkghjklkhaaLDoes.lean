/-
  HeapDoes: the walk. Conditions: none.
-/
import Derived.Test.YtaklhkghjklkhaaDoRel
import Derived.Deep.RegionWith
namespace Go.Proofs.Ytaklhkghjklkhaa
open Go.RowKit Go.ChangeShapes Go.WideShapes Go.ChangeAt

def DoA (w0 : World) (p pw : Nat) (c : Int) (n : Nat) (k : Nat) (a b : Value) (wr : World) : Prop :=
  ∃ (i : Nat) (lv rv : Value) (es : List (Value × Wo)) (xs : Xs) (X : Nat → Prop) (objs : List Obj'), a = rv ∧ b = .int .i64 i ∧ i ≤ n ∧ k = n - i ∧ DoR w0 p pw c (41 * i) lv rv es xs (refsX xs) X objs wr ∧ es.length ≤ i
def RtA (wo : World) (ks : List Int) (m : Nat) (k : Nat) (a b : Value) (wr : World) : Prop :=
  ∃ (j : Nat) (sv : Value), a = sv ∧ b = .int .i64 j ∧ j ≤ m ∧ k = m - j ∧ wr.ownsRow 0 3 1 sv j (ints (ks.take j)) ∧ Keep (fun _ => False) wo wr ∧ ∀ g, sv.ownBlock = some g → wo.heap.size ≤ g

theorem ops_keep {w w1 : World} {A : Option Addr} {n : Nat} {l : List Ope} (hr : OpsR w (fun k => w.heap.size ≤ k) A n l) (hk : Keep (fun _ => False) w w1) : OpsR w1 (fun k => w.heap.size ≤ k) A n l := ⟨hr.1, fun hn => by
    obtain ⟨b, o, h1, h2, h3, h4⟩ := hr.2 hn
    exact ⟨b, o, h1, Nat.lt_of_lt_of_le h2 hk.size, h3, fun i x hx => OpAt.keep (h4 i x hx) hk⟩⟩

set_option maxRecDepth 100000 in
set_option maxHeartbeats 1000000 in
theorem does_out (cells : Int) (A : Option Addr) (n c : Nat) (l : List Ope) (w : World) (hc : cells ≤ 9223372036854775807) (hr : OpsR w (fun k => w.heap.size ≤ k) A n l) (hB : fewB l = false) :
    Calls Try.prog 4 #[.int .i64 cells, .slice A n c] w fun e w' => e = .returned (.bool true) ∧ Keep (fun _ => False) w w' := by
  have ha := awake_any w
  have hf : ∀ w1, Keep (fun _ => False) w w1 → Calls Try.prog 9 #[.slice A n c] w1 fun e w' => e = .returned (.bool false) ∧ w1 = w' := fun w1 hk => by
    rw [← hB]; exact few_any (ops_keep hr hk)
  have HF := Lib.hid hf
  clear hf hr hB
  go_enter Try.func4, Try.ntmps4
  go_wp2_with (first | (go_at_call 8; refine ha.mono ?_; rintro e w1 ⟨rfl, hk⟩; have HK := Lib.hid hk; have hff := HF.out w1 hk; clear hk) | (go_at_call 9; refine hff.mono ?_; rintro e w' ⟨rfl, rfl⟩) | (go_at_call 10; refine (St.make cells hc HK.out).mono ?_; rintro e w2 ⟨X, rfl, hS⟩; have HS := Lib.hid hS; clear hS))
  go_ret
  exact ⟨rfl, HS.out.keep⟩

set_option maxRecDepth 100000 in
set_option maxHeartbeats 8000000 in
theorem does_in (cells : Int) (A : Option Addr) (n c : Nat) (l : List Ope) (w : World) (hc : cells ≤ 9223372036854775807) (hr : OpsR w (fun k => w.heap.size ≤ k) A n l) (h : fewB l = true) :
    Calls Try.prog 4 #[.int .i64 cells, .slice A n c] w fun e w' => e = .returned (.bool true) ∧ Keep (fun _ => False) w w' := by
  have ha := awake_any w
  have hf : ∀ w1, Keep (fun _ => False) w w1 → Calls Try.prog 9 #[.slice A n c] w1 fun e w' => e = .returned (.bool true) ∧ w1 = w' := fun w1 hk => by
    rw [← h]; exact few_any (ops_keep hr hk)
  obtain ⟨hl60, hl40⟩ := fewB_spec h
  have hn60 : n ≤ 60 := by rw [hr.1]; exact hl60
  have HOP := Lib.hid (And.intro hr.1 (And.intro hr hl40))
  have HF := Lib.hid hf
  clear hf hr h hl60 hl40
  go_enter Try.func4, Try.ntmps4
  go_wp2_with (first | (go_at_call 8; refine ha.mono ?_; rintro e w1 ⟨rfl, hk⟩; have HK := Lib.hid hk; have hff := HF.out w1 hk; clear hk) | (go_at_call 9; refine hff.mono ?_; rintro e w' ⟨rfl, rfl⟩) | (go_at_call 10; refine (St.make cells hc HK.out).mono ?_; rintro e w2 ⟨X1, rfl, hS⟩; have HS := Lib.hid hS; clear hS))
  have h0 : Hid (DoA w w1.heap.size w2.heap.size cells n n (.slice none 0 0) (.int .i64 0) (w2.alloc (.cells #[.int .i64 cells, .slice none 0 0] 42))) := by
    have hS := HS.out.al (.cells #[.int .i64 cells, .slice none 0 0] 42)
    refine ⟨0, .slice none 0 0, _, [], [], X1, [], rfl, rfl, Nat.zero_le _, rfl, ⟨hS, ⟨At.new _ _ _, World.ownsRow_nil _ 0 65 2, fun i e h => by simp at h, by simp, fun e h => by simp at h⟩, ⟨fun i o h => by simp [wsX] at h, rfl, fun i j x y h => by simp at h⟩, rfl, World.ownsRow_nil _ 0 3 1, fun g hg => by simp [Value.ownBlock] at hg, fun g hg => ?_⟩, Nat.le_refl _⟩
    have : g = w2.heap.size := by
      rcases hg with hg | hg
      · exact hg
      · simp [Value.ownBlock] at hg
    subst this
    exact ⟨fun hx => by have := HS.out.ar.lt _ hx; omega, HS.out.keep.size⟩
  clear ha hff HF HS
  generalize w1.heap.size = pa at *
  generalize w2.heap.size = pw at *
  go_loopg [9, 10] n (DoA w pa pw cells n)
  case atStart => exact h0.out
  case round =>
    clear h0
    obtain ⟨i, lv, rv, es, xs, X, objs, rfl, rfl, hi, rfl, hG, hes⟩ := hrel
    obtain ⟨Al, cl, rfl⟩ := own_slice hG.own
    have HG := Lib.hid hG
    clear hG
    by_cases hlt : i < n
    · obtain ⟨hnl, hr, h40⟩ := HOP.out
      obtain ⟨b, o, rfl, hb, _, hcl⟩ := hr.2 (by omega)
      obtain ⟨x, hx⟩ : ∃ x, l[i]? = some x := ⟨_, List.getElem?_eq_getElem (by omega)⟩
      have hx40 := h40 x (List.mem_of_getElem? hx)
      obtain ⟨sv0, rv0, x0, x1, x2, y1, y2⟩ := hcl i x hx
      have kk := HG.out.st.keep
      have z0 := kk.cell x0 (fun x => x)
      have z1 := kk.cell x1 (fun x => x)
      have z2 := kk.cell x2 (fun x => x)
      have hbz : b < wr.heap.size := Nat.lt_of_lt_of_le hb kk.size
      have hsv : ∃ As cs, sv0 = .slice As x.slots.length cs := by
        obtain ⟨_, As, cs, rfl, _⟩ := y1
        exact ⟨As, cs, rfl⟩
      have hrv : ∃ Ar cr, rv0 = .slice Ar x.roots.length cr := by
        obtain ⟨_, As, cs, rfl, _⟩ := y2
        exact ⟨As, cs, rfl⟩
      obtain ⟨As, cs, rfl⟩ := hsv
      obtain ⟨Ar, cr, rfl⟩ := hrv
      have HX := Lib.hid (And.intro x1 (And.intro x2 (And.intro y1 (And.intro y2 (And.intro hx40 hb)))))
      clear hnl hr h40 hcl hx hx40 x0 x1 x2 y1 y2 kk hb
      cases hcoll : x.coll with
      | true =>
        rw [hcoll] at z0
        have hnr : x.roots.length ≤ 40 := HX.out.2.2.2.2.1.2
        generalize hxr : x.roots = xr at *
        have HXR := Lib.hid hxr
        clear hcoll hxr
        go_wp2_with fail
        obtain ⟨wo, rfl⟩ : ∃ wo : World, wo = wr := ⟨_, rfl⟩
        have h1 : Hid (RtA wo (xr.map (nmv (wsX xs) (refsX xs))) xr.length xr.length (.slice none 0 0) (.int .i64 0) wo) := ⟨0, _, rfl, rfl, Nat.zero_le _, rfl, World.ownsRow_nil wo 0 3 1, Keep.refl _ _, fun g hg => by simp [Value.ownBlock] at hg⟩
        go_loopg [11, 12] xr.length (RtA wo (xr.map (nmv (wsX xs) (refsX xs))) xr.length)
        case atStart => exact h1.out
        case round =>
          clear h1
          obtain ⟨j, sv, rfl, rfl, hj, rfl, hown, hk, hnew⟩ := hrel
          obtain ⟨Asv, csv, rfl⟩ := own_slice hown
          have z2' := hk.cell z2 (fun x => x)
          have hbz' : b < wr.heap.size := Nat.lt_of_lt_of_le hbz hk.size
          by_cases hjl : j < xr.length
          · obtain ⟨_, A', c', hv, _, hrr⟩ := HX.out.2.2.2.1
            simp only [Value.slice.injEq, true_and] at hv
            obtain ⟨rfl, rfl⟩ := hv
            obtain ⟨b2, o2, rfl, hb2, _, hc2⟩ := hrr (by omega)
            obtain ⟨t, ht⟩ : ∃ t, xr[j]? = some t := ⟨_, List.getElem?_eq_getElem hjl⟩
            have ct : wr.cell? ⟨b2, o2 + j, none⟩ = some (.int .i64 t) := (HG.out.st.keep.trans hk (fun _ _ x => x)).cell (p := ⟨b2, o2 + j, none⟩) (by rw [hc2 _ (by omega)]; simp [ints, ht]) (fun x => x)
            have hb2z : b2 < wr.heap.size := Nat.lt_of_lt_of_le hb2 (HG.out.st.keep.trans hk (fun _ _ x => x)).size
            have hnm := (HG.out.step hk).named rfl t
            have hbig : j + 1 ≤ 1099511627776 := by omega
            have HH := Lib.hid (And.intro hown (And.intro hk (And.intro hnew ht)))
            clear hown hk hnew ht hrr hc2 hb2
            go_wp2_with (first | (go_at_call 14; refine hnm.mono ?_; rintro e w' ⟨rfl, rfl⟩) | (at_builtin; refine wpList_app rfl (.tmp 63) (.tmp 75) 27 rfl E3 (.slice Asv j csv) j (ints ((xr.map (nmv (wsX xs) (refsX xs))).take j)) rfl (HH.out.1.alloc _) wr.heap.size 1 1 #[.int .i64 (nmv (wsX xs) (refsX xs) t)] rfl (At.new _ _ _) rfl (by simp [Value.oneCell']) (by decide) hbig (by decide) ?_))
            intro g cap w5 ho5 hk5 hg5 hgl5
            have H5 := Lib.hid (And.intro ho5 (And.intro hk5 hg5))
            clear ho5 hk5 hg5 hnm
            go_wp2_with fail
            go_roundg (xr.length - (j + 1))
            case measure => omega
            case rel =>
              obtain ⟨ho5, hk5, hg5⟩ := H5.out
              obtain ⟨hown, hk, hnew, ht⟩ := HH.out
              refine ⟨j + 1, _, rfl, by go_num, by omega, rfl, ?_, (hk.alloc _).trans hk5 (fun q hq hx => by have := hnew q hx; omega), fun q hq => ?_⟩
              · rw [List.take_add_one, List.getElem?_map, ht, ints_append]
                exact ho5
              · simp only [Value.ownBlock, Option.some.injEq] at hq
                subst hq
                rcases hg5 with h | h
                · exact hnew _ h
                · have := hk.size; first | omega | (simp at h; omega)
          · have hje : j = xr.length := by omega
            subst hje
            rw [List.take_of_length_le (by simp)] at hown
            have kd : Keep (fun _ => False) wo wr.drew := hk.drew
            have hD := HG.out.step kd
            have hco := hD.collect (roots := xr) rfl ((Keep.refl (fun _ => False) wr).drew.own hown (fun _ _ x => x)) hnr
            have hbx : ¬ X b := fun hx => by have := HG.out.st.new b hx; have := HX.out.2.2.2.2.2; omega
            have z3 : wr.drew.cell? ⟨b, o + i * 3 + 2, none⟩ = some (.slice Ar xr.length cr) := z2'
            have hbz3 : b < wr.drew.heap.size := hbz'
            have HD := Lib.hid hD
            clear hown hk hnew hjl hj kd hD
            go_wp2_with fail
            go_region_with (first
              | (go_at_call 12; refine hco.mono ?_; rintro e w1 ⟨M, hM, rfl, hS, hk1⟩; have z4 := hk1.cell z3 hbx; have hbz4 := Nat.lt_of_lt_of_le hbz3 hk1.size; have hwc := HD.out.wcollect hM hS hk1 rfl hnr (HX.out.2.2.2.1.keep hS.keep (fun _ x => x.elim)); have HS := Lib.hid hS; clear hM hS hk1)
              | (go_at_call 15; refine hwc.mono ?_; rintro e w2 ⟨rfl, es', xs', he', hD', hr', hk2⟩; have H2 := Lib.hid (And.intro he' (And.intro hD' (And.intro hr' hk2))); clear he' hD' hr' hk2 hwc hco))
            all_goals (
              have htl := H2.out.2.1.tells (by rw [H2.out.2.2.1])
              go_wp2_with (go_at_call 18; refine htl.mono ?_; rintro e w3 ⟨rfl, hk3⟩; have H3 := Lib.hid hk3; clear hk3 htl)
              go_roundg (n - (i + 1))
              case measure => omega
              case rel =>
                obtain ⟨he', hD', hr', _⟩ := H2.out
                exact ⟨i + 1, _, _, es', xs', X, _, rfl, by go_num, by omega, rfl, (hD'.step H3.out).more (by omega) (by omega), by omega⟩)
      | false =>
        rw [hcoll] at z0
        have hnl : x.slots.length ≤ 40 := HX.out.2.2.2.2.1.1
        generalize hxl : x.slots = xl at *
        have HXL := Lib.hid hxl
        clear hcoll hxl
        have hsl := HG.out.slots rfl (l := xl) rfl (by omega) (HX.out.2.2.1.keep HG.out.st.keep (fun _ x => x.elim))
        have hes1 : es.length < 1000 := by omega
        have alc : ∀ (w1 : World) (A1 : Option Addr) (c1 : Nat), w1.ownsRow 0 32 2 (.slice A1 xl.length c1) xl.length (sflat (xl.map (mpX xs))) → Keep (fun _ => False) wr w1 → (∀ g, (Value.slice A1 xl.length c1).ownBlock = some g → wr.heap.size ≤ g) → _ := fun w1 A1 c1 h1 h2 h3 =>
          (HG.out.step h2).alloc (L := xl.map (mpX xs)) (sv := .slice A1 xl.length c1) (m := xl.length) (by simp) h1 (fun g hg hx => by have := HG.out.st.ar.lt g hx; have := h3 g hg; omega) (by simpa using hnl) (by omega)
        have HAL := Lib.hid alc
        clear alc
        go_wp2_with (first
          | (go_at_call 16; refine hsl.mono ?_; rintro e w1 ⟨A1, c1, rfl, h1, h2, h3⟩; have hal := HAL.out w1 A1 c1 h1 h2 h3; have H1 := Lib.hid h2; clear h1 h2 h3 hsl))
        have hbx : ¬ X b := fun hx => by have := HG.out.st.new b hx; have := HX.out.2.2.2.2.2; omega
        refine hal.mono ?_
        rintro e w2 (⟨hb, rfl, hk2⟩ | ⟨hb, hf, rfl, hk2⟩ | ⟨hb, hf, r, X', rfl, hnk, hS2, hk2, hX2⟩)
        · have k02 := H1.out.trans hk2 (fun _ _ x => x)
          have hD2 := HG.out.step k02
          have hwa := hD2.walloc1 hes1 rfl (by omega) (HX.out.2.2.1.keep hD2.st.keep (fun _ x => x.elim)) hb
          have z1' := k02.cell z1 (fun x => x)
          have hbz' : b < w2.heap.size := Nat.lt_of_lt_of_le hbz k02.size
          have HD2 := Lib.hid hD2
          clear hb hk2 k02 hD2 hal z1
          go_wp2_with (first
            | (go_at_call 17; refine hwa.mono ?_; rintro e w3 ⟨rfl, hk3⟩; have htl := (HD2.out.step hk3).tells rfl; have H3 := Lib.hid hk3; clear hk3 hwa)
            | (go_at_call 18; refine htl.mono ?_; rintro e w4 ⟨rfl, hk4⟩; have H4 := Lib.hid hk4; clear hk4 htl))
          go_roundg (n - (i + 1))
          case measure => omega
          case rel => exact ⟨i + 1, _, _, es, xs, X, _, rfl, by go_num, by omega, rfl, ((HD2.out.step H3.out).step H4.out).more (by omega) (by omega), by omega⟩
        · have k02 := H1.out.trans hk2 (fun _ _ x => x)
          have hD2 := HG.out.step k02
          have hwa := hD2.walloc22 hes1 rfl (by omega) (HX.out.2.2.1.keep hD2.st.keep (fun _ x => x.elim)) hb hf
          have z1' := k02.cell z1 (fun x => x)
          have hbz' : b < w2.heap.size := Nat.lt_of_lt_of_le hbz k02.size
          have HD2 := Lib.hid hD2
          clear hb hf hk2 k02 hD2 hal z1
          go_wp2_with (first
            | (go_at_call 17; refine hwa.mono ?_; rintro e w3 ⟨rfl, hk3⟩; have htl := (HD2.out.step hk3).tells rfl; have H3 := Lib.hid hk3; clear hk3 hwa)
            | (go_at_call 18; refine htl.mono ?_; rintro e w4 ⟨rfl, hk4⟩; have H4 := Lib.hid hk4; clear hk4 htl))
          go_roundg (n - (i + 1))
          case measure => omega
          case rel => exact ⟨i + 1, _, _, es, xs, X, _, rfl, by go_num, by omega, rfl, ((HD2.out.step H3.out).step H4.out).more (by omega) (by omega), by omega⟩
        · have hD1 := HG.out.step H1.out
          have hwa := hD1.walloc0 hes1 rfl (by omega) (HX.out.2.2.1.keep hS2.keep (fun _ x => x.elim)) hb (by omega) hnk hS2 hk2 hX2
          have z1' := hk2.cell (H1.out.cell z1 (fun x => x)) hbx
          have hbz' : b < w2.heap.size := Nat.lt_of_lt_of_le (Nat.lt_of_lt_of_le hbz H1.out.size) hk2.size
          have hlr := HG.out.lens
          have hbig : (refsX xs).length + 1 ≤ 1099511627776 := by omega
          clear hb hf hnk hS2 hk2 hX2 hD1 hal z1 hlr
          go_wp2_with (first
            | (go_at_call 17; refine hwa.mono ?_; rintro e w3 ⟨rfl, lv3, sv3, hD3, _⟩; have HD3 := Lib.hid hD3; clear hD3 hwa)
            | (at_builtin; refine wpList_app rfl (.tmp 117) (.tmp 119) 27 rfl E3 (.slice Al (refsX xs).length cl) (refsX xs).length (ints (refsX xs)) rfl (HD3.out.own.alloc _) w3.heap.size 1 1 #[.int .i64 r] rfl (At.new _ _ _) rfl (by simp [Value.oneCell']) (by decide) hbig (by decide) ?_))
          intro g cap w5 ho5 hk5 hg5 hgl5
          have hrx : refsX xs ++ [(r : Int)] = refsX (xs ++ [(⟨xl, false⟩, r)]) := by simp [refsX]
          have hD5 := HD3.out.app ((Keep.refl _ w3).alloc _) ho5 hk5 (by simpa using hg5)
          rw [hrx] at hD5
          have htl := hD5.tells (by simp [refsX])
          have HD5 := Lib.hid hD5
          clear ho5 hk5 hg5 hgl5 hD5 hrx
          go_wp2_with (go_at_call 18; refine htl.mono ?_; rintro e w4 ⟨rfl, hk4⟩; have H4 := Lib.hid hk4; clear hk4 htl)
          go_roundg (n - (i + 1))
          case measure => omega
          case rel => exact ⟨i + 1, _, _, _, _, X', _, rfl, by go_num, by omega, rfl, (HD5.out.step H4.out).more (by omega) (by omega), by simp; omega⟩
    · have hgn := HG.out.st.ar.get_no (r := -1) (by rintro ⟨o, _, ho⟩; omega)
      have hK := HG.out.st.keep
      have HK := Lib.hid hK
      clear hK hes
      go_wp2_with (go_at_call 19; refine hgn.mono ?_; rintro e w' ⟨rfl, rfl⟩)
      go_ret
      exact ⟨rfl, HK.out⟩

theorem does_law (cells : Int) (A : Option Addr) (n c : Nat) (l : List Ope) (w : World) (hc : cells ≤ 9223372036854775807) (hr : OpsR w (fun k => w.heap.size ≤ k) A n l) :
    Calls Try.prog 4 #[.int .i64 cells, .slice A n c] w fun e w' => e = .returned (.bool true) ∧ Keep (fun _ => False) w w' := by
  cases hb : fewB l with
  | false => exact does_out cells A n c l w hc hr hb
  | true => exact does_in cells A n c l w hc hr hb
end Go.Proofs.Ytaklhkghjklkhaa
