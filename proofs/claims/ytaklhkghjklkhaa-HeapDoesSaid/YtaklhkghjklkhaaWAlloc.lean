/-
  Walks: New; (*Arena).Alloc. Conditions: the arena lies in memory in its order, no mark set; the slots lie outside the arena; counts below 2^19.
-/
import Derived.Test.YtaklhkghjklkhaaWCollect
namespace Go.Proofs.Ytaklhkghjklkhaa
open Go.RowKit

def ar0 (m : Int) : Ar := ⟨[], m, -1, 0, 0⟩
set_option maxHeartbeats 400000 in
theorem new_any (c : Int) (w : World) :
    Calls Try.prog 10 #[.int .i64 c] w fun e w' => e = .returned (.pointer (some ⟨w.heap.size, 0, none⟩)) ∧ w.alloc (.cells (arcells (.slice none 0 0) (ar0 (max c 0))) 55) = w' := by
  by_cases h : 0 > c
  · have hm : max c 0 = 0 := by omega
    rw [hm]
    go_enter Try.func10, Try.ntmps10
    go_wp2
    go_ret
    exact ⟨rfl, rfl⟩
  · have hm : max c 0 = c := by omega
    rw [hm]
    go_enter Try.func10, Try.ntmps10
    go_wp2
    go_ret
    exact ⟨rfl, rfl⟩

theorem take_any {p : Nat} {v : Value} {S : Ar} (c : Ce) {w : World} (h : ArV w p v S) (hf : FreeOk S) (hu0 : 0 ≤ S.used) (hu1 : S.used < 1099511627776) (hn : S.cs.length < 1099511627776) :
    Calls Try.prog 22 #[.pointer (some ⟨p, 0, none⟩), cellv c] w fun e w' => e = .returned (.int .i64 (takeAt S)) ∧ ∃ v', ArV w' p v' (takeAr S c) ∧ Keep (fp p v) w w' ∧ ∀ i, fp p v' i → fp p v i ∨ w.heap.size ≤ i := by
  rcases hf with hf | ⟨f, d, hf, hd⟩
  · have e1 : takeAt S = S.cs.length := by simp [takeAt, hf]
    have e2 : takeAr S c = takeNew S c := by simp [takeAr, hf]
    rw [e1, e2]
    exact take_new c h hf hu0 hu1 hn
  · have hne : ¬ ((f : Int) = -1) := by omega
    have e1 : takeAt S = f := by unfold takeAt; rw [hf, if_neg hne]; simp
    have e2 : takeAr S c = takeOld S f d.next c := by unfold takeAr; rw [hf, if_neg hne]; simp [hd]
    rw [e1, e2]
    obtain ⟨g, cap, rfl, _⟩ := h.form (List.getElem?_eq_some_iff.1 hd).1
    refine (take_old c h hf hd hu0 hu1).mono ?_
    rintro e w' ⟨rfl, ha, hk⟩
    exact ⟨rfl, _, ha, hk, fun i hi => .inl hi⟩

def goodSl (S : Ar) (s : Sl) : Bool := !s.ref || isB S s.n
structure Made (w : World) (p : Nat) (v : Value) (S : Ar) (O : List Ob) (l : List Sl) (r : Nat) (body : List Nat) (S' : Ar) (fl' : List Nat) (own' : Nat → Nat) (v' : Value) (w' : World) : Prop where
  ar : ArV w' p v' S'
  inv : Inv S' F0 ((r, body) :: O) fl' [] own'
  slots : slotsOf S'.cs body = l
  others : ∀ o ∈ O, slotsOf S'.cs o.2 = slotsOf S.cs o.2
  ne : ∀ o ∈ O, o.1 ≠ r
  most : S'.most = S.most
  len : S'.cs.length ≤ S.cs.length + l.length + 1
  keep : Keep (fp p v) w w'
  fps : ∀ i, fp p v' i → fp p v i ∨ w.heap.size ≤ i
def AllocPost (w : World) (p : Nat) (v : Value) (S : Ar) (O : List Ob) (l : List Sl) (e : Ending) (w' : World) : Prop :=
  (l.all (goodSl S) = false ∧ e = .returned (.tuple #[.int .i64 0, .int .i64 1]) ∧ ArV w' p v S ∧ Keep (fun _ => False) w w') ∨
  (l.all (goodSl S) = true ∧ S.most - S.used ≤ l.length ∧ e = .returned (.tuple #[.int .i64 0, .int .i64 22]) ∧ ArV w' p v S ∧ Keep (fun _ => False) w w') ∨
  (l.all (goodSl S) = true ∧ (l.length : Int) < S.most - S.used ∧ ∃ (r : Nat) (body : List Nat) (S' : Ar) (fl' : List Nat) (own' : Nat → Nat) (v' : Value), e = .returned (.tuple #[.int .i64 r, .int .i64 0]) ∧ Made w p v S O l r body S' fl' own' v' w')

def Al1 (w : World) (S : Ar) (l : List Sl) (k : Nat) (a : Value) (wr : World) : Prop :=
  ∃ i : Nat, a = .int .i64 i ∧ i ≤ l.length ∧ k = l.length - i ∧ (∀ s ∈ l.take i, goodSl S s = true) ∧ Keep (fun _ => False) w wr

structure Al2R (w : World) (p : Nat) (v : Value) (S : Ar) (O : List Ob) (l : List Sl) (i : Nat) (nx : Int) (S2 : Ar) (fl2 : List Nat) (own2 : Nat → Nat) (part : List Nat) (v2 : Value) (wr : World) : Prop where
  ar : ArV wr p v2 S2
  inv : Inv S2 F0 O fl2 part own2
  ch : chain S2.cs nx part
  nd : part.Nodup
  slots : slotsOf S2.cs part = l.drop (l.length - i)
  others : ∀ o ∈ O, slotsOf S2.cs o.2 = slotsOf S.cs o.2
  most : S2.most = S.most
  objects : S2.objects = S.objects
  used : S2.used = S.used + i
  len : S2.cs.length ≤ S.cs.length + i
  keep : Keep (fp p v) w wr
  fps : ∀ i, fp p v2 i → fp p v i ∨ w.heap.size ≤ i
def Al2 (w : World) (p : Nat) (v : Value) (S : Ar) (O : List Ob) (l : List Sl) (k : Nat) (a b : Value) (wr : World) : Prop :=
  ∃ (i : Nat) (nx : Int) (S2 : Ar) (fl2 : List Nat) (own2 : Nat → Nat) (part : List Nat) (v2 : Value), a = .int .i64 nx ∧ b = .int .i64 i ∧ i ≤ l.length ∧ k = l.length - i ∧ Al2R w p v S O l i nx S2 fl2 own2 part v2 wr
theorem takeAr_ob (S : Ar) (x : Int) (c : Ce) : takeAr { S with objects := x } c = { takeAr S c with objects := x } := by unfold takeAr; split <;> rfl
theorem Al2R.step {w wr w' : World} {p i : Nat} {v v2 v' : Value} {S S2 : Ar} {O : List Ob} {l : List Sl} {nx : Int} {fl2 : List Nat} {own2 : Nat → Nat} {part : List Nat} {s : Sl} (h : Al2R w p v S O l i nx S2 fl2 own2 part v2 wr) (hi : i < l.length) (hs : l[l.length - 1 - i]? = some s)
    (ha : ArV w' p v' (takeAr S2 ⟨s.ref, s.n, nx, false, false⟩)) (hk : Keep (fp p v2) wr w') (hf : ∀ j, fp p v' j → fp p v2 j ∨ wr.heap.size ≤ j) :
    ∃ fl3 own3, Al2R w p v S O l (i + 1) (takeAt S2) (takeAr S2 ⟨s.ref, s.n, nx, false, false⟩) fl3 own3 (takeAt S2 :: part) v' w' := by
  obtain ⟨fl3, own3, g1, g2, g3, g4⟩ := h.inv.take1 s h.ch
  have hz := h.keep.size
  refine ⟨fl3, own3, ha, g1, g2, List.nodup_cons.2 ⟨(take_fresh h.inv).1, h.nd⟩, ?_, fun o ho => (g4 o ho).trans (h.others o ho), ?_, ?_, ?_, ?_, h.keep.trans hk (fun j hj hx => ?_), fun j hj => ?_⟩
  · rw [g3, h.slots]
    have e : l.length - (i + 1) = l.length - 1 - i := by omega
    rw [e]
    have hlt : l.length - 1 - i < l.length := by omega
    rw [List.drop_eq_getElem_cons hlt]
    have hs' : l[l.length - 1 - i] = s := by rw [List.getElem?_eq_getElem hlt] at hs; exact Option.some.inj hs
    rw [hs']
    congr 2
    omega
  · rw [takeAr_most]; exact h.most
  · rw [takeAr_objects]; exact h.objects
  · rw [takeAr_used, h.used]; omega
  · have := takeAr_len S2 ⟨s.ref, s.n, nx, false, false⟩
    have := h.len
    omega
  · rcases h.fps j hx with h | h
    · exact h
    · omega
  · rcases hf j hj with h1 | h1
    · exact h.fps j h1
    · exact .inr (by omega)
theorem Al2R.done {w wr w' : World} {p : Nat} {v v2 v' : Value} {S S2 : Ar} {O : List Ob} {l : List Sl} {nx : Int} {fl2 : List Nat} {own2 : Nat → Nat} {part : List Nat} (h : Al2R w p v S O l l.length nx S2 fl2 own2 part v2 wr)
    (ha : ArV w' p v' (takeAr { S2 with objects := S2.objects + 1 } ⟨false, 0, nx, true, false⟩)) (hk : Keep (fp p v2) wr w') (hf : ∀ j, fp p v' j → fp p v2 j ∨ wr.heap.size ≤ j) :
    ∃ fl3 own3, Made w p v S O l (takeAt S2) part (takeAr { S2 with objects := S2.objects + 1 } ⟨false, 0, nx, true, false⟩) fl3 own3 v' w' := by
  obtain ⟨fl3, own3, g1, g2, g3, g4⟩ := h.inv.take2 h.ch h.nd
  have hz := h.keep.size
  refine ⟨fl3, own3, ha, by rw [takeAr_ob]; exact g1, ?_, ?_, g4, ?_, ?_, h.keep.trans hk (fun j hj hx => ?_), fun j hj => ?_⟩
  · rw [takeAr_ob]
    simp only
    rw [g2, h.slots, Nat.sub_self, List.drop_zero]
  · intro o ho
    rw [takeAr_ob]
    exact (g3 o ho).trans (h.others o ho)
  · rw [takeAr_ob]; simp only [takeAr_most]; exact h.most
  · rw [takeAr_ob]
    have := takeAr_len S2 ⟨false, 0, nx, true, false⟩
    have := h.len
    simp only
    omega
  · rcases h.fps j hx with h | h
    · exact h
    · omega
  · rcases hf j hj with h1 | h1
    · exact h.fps j h1
    · exact .inr (by omega)

set_option maxHeartbeats 2000000 in
theorem alloc_any {p : Nat} {v lv : Value} {S : Ar} {O : List Ob} {fl : List Nat} {own : Nat → Nat} {l : List Sl} {w : World} (h : ArV w p v S) (hI : Inv S F0 O fl [] own) (hr : Rd w (fp p v) 2 lv l.length (sflat l))
    (hN : S.cs.length ≤ 500000) (hl : l.length ≤ 100000) (hm0 : 0 ≤ S.most) (hm1 : S.most ≤ 9223372036854775807) :
    Calls Try.prog 11 #[.pointer (some ⟨p, 0, none⟩), lv] w (AllocPost w p v S O l) := by
  have hu := hI.used
  have hob : obsum O ≤ 500000 * 500000 := Nat.le_trans hI.obsum_le (Nat.mul_le_mul hN hN)
  have hu0 : 0 ≤ S.used := by simp only [List.length_nil] at hu; omega
  have hu2 : S.used ≤ 250000000000 := by simp only [List.length_nil] at hu; omega
  have H := Lib.hid h
  have HI := Lib.hid hI
  have HR := Lib.hid hr
  obtain ⟨_, Al, capl, rfl, hcap, hrr⟩ := hr
  have HRR := Lib.hid hrr
  have h0 : Hid (Al1 w S l l.length (.int .i64 0) w) := ⟨0, rfl, Nat.zero_le _, rfl, fun s hs => by simp at hs, Keep.refl _ _⟩
  clear h hI hu hob hrr
  generalize hn : l.length = n at *
  have HN := Lib.hid hn
  clear hn
  go_enter Try.func11, Try.ntmps11
  go_wp2
  go_loopg [12] n (Al1 w S l)
  case atStart => exact h0.out
  case round =>
    clear h0
    obtain ⟨i, rfl, hi, rfl, hg, hk⟩ := hrel
    have hln := HN.out
    by_cases hlt : i < n
    · obtain ⟨b, o, rfl, hb, hX, hcell⟩ := HRR.out (by omega)
      obtain ⟨s, hs⟩ : ∃ s, l[i]? = some s := ⟨_, List.getElem?_eq_getElem (by omega)⟩
      obtain ⟨g0, g1⟩ := sflat_get l i s hs
      have c0 : wr.cell? ⟨b, o + i * 2, none⟩ = some (.bool s.ref) := hk.cell (p := ⟨b, o + i * 2, none⟩) (by rw [hcell _ (by omega)]; exact g0) (fun x => x)
      have c1 : wr.cell? ⟨b, o + i * 2 + 1, none⟩ = some (.int .i64 s.n) := hk.cell (p := ⟨b, o + i * 2 + 1, none⟩) (by rw [Nat.add_assoc, hcell _ (by omega)]; exact g1) (fun x => x)
      have hbz : b < wr.heap.size := Nat.lt_of_lt_of_le hb hk.size
      have ha : ArV (wr.alloc (.cells #[.bool s.ref, .int .i64 s.n] 32)) p v S := H.out.keep (hk.alloc _) (fun _ _ x => x)
      have his := is_any ha s.n
      have HG := Lib.hid (And.intro hg (And.intro hs (And.intro ha (And.intro (hk.alloc (.cells #[.bool s.ref, .int .i64 s.n] 32)) hln))))
      clear hg hs hk hcell g0 g1 ha hln hcap hX hb
      cases hsr : s.ref with
      | false =>
        rw [hsr] at c0
        have HS := Lib.hid hsr
        rw [hsr] at his
        clear hsr
        go_wp2_with (go_at_call 21; refine his.mono ?_; rintro e w' ⟨rfl, rfl⟩)
        go_roundg (l.length - (i + 1))
        case measure => have := HG.out.2.2.2.2; omega
        case rel =>
          obtain ⟨hg, hs, ha, hk, hln⟩ := HG.out
          refine ⟨i + 1, by go_num, by omega, rfl, ?_, by rw [HS.out] at hk; exact hk⟩
          intro x hx
          rw [List.take_add_one, hs] at hx
          rcases List.mem_append.1 hx with hx | hx
          · exact hg x hx
          · have : x = s := by simpa using hx
            subst this
            simp [goodSl, HS.out]
      | true =>
        rw [hsr] at c0
        have HS := Lib.hid hsr
        rw [hsr] at his
        clear hsr
        cases hb : isB S s.n with
        | true =>
          rw [hb] at his
          have HB := Lib.hid hb
          clear hb
          go_wp2_with (go_at_call 21; refine his.mono ?_; rintro e w' ⟨rfl, rfl⟩)
          go_roundg (l.length - (i + 1))
          case measure => have := HG.out.2.2.2.2; omega
          case rel =>
            obtain ⟨hg, hs, ha, hk, hln⟩ := HG.out
            refine ⟨i + 1, by go_num, by omega, rfl, ?_, by rw [HS.out] at hk; exact hk⟩
            intro x hx
            rw [List.take_add_one, hs] at hx
            rcases List.mem_append.1 hx with hx | hx
            · exact hg x hx
            · have : x = s := by simpa using hx
              subst this
              simp [goodSl, HB.out]
        | false =>
          rw [hb] at his
          have HB := Lib.hid hb
          clear hb
          go_wp2_with (go_at_call 21; refine his.mono ?_; rintro e w' ⟨rfl, rfl⟩)
          go_ret2
          obtain ⟨hg, hs, ha, hk, hln⟩ := HG.out
          rw [HS.out] at ha hk
          refine .inl ⟨?_, rfl, ha, hk⟩
          rw [List.all_eq_false]
          exact ⟨s, List.mem_of_getElem? hs, by simp [goodSl, HB.out, HS.out]⟩
    · have hie : i = l.length := by omega
      have hall : l.all (goodSl S) = true := by
        rw [List.all_eq_true]
        intro x hx
        exact hg x (by rw [hie, List.take_length]; exact hx)
      have ha : ArV wr p v S := H.out.keep hk (fun _ _ x => x)
      obtain ⟨y0, y1, y2, y3, y4⟩ := ha.lens
      have hp := ha.head.lt
      have HG := Lib.hid (And.intro hall (And.intro ha (And.intro hk hie)))
      clear hg hk hall ha hie y0 y2 y4 hln hcap
      by_cases hfull : S.most - S.used ≤ n
      · go_wp2
        go_region
        go_wp2
        go_ret2
        obtain ⟨hall, ha, hk, hie⟩ := HG.out
        exact .inr (.inl ⟨hall, by rw [HN.out]; exact hfull, rfl, ⟨ha.head.drew, ha.own.drew⟩, hk.drew⟩)
      · go_wp2
        go_region
        go_wp2
        obtain ⟨hall, ha, hk, hie⟩ := HG.out
        have h2 : Hid (Al2 w p v S O l n (.int .i64 (-1)) (.int .i64 0) wr.drew) :=
          ⟨0, -1, S, fl, own, [], v, rfl, rfl, Nat.zero_le _, by rw [HN.out, Nat.sub_zero], ⟨ha.head.drew, ha.own.drew⟩, HI.out, rfl, List.nodup_nil, by simp [slotsOf], fun _ _ => rfl, rfl, rfl, by simp, by omega, (hk.drew).mono (fun _ _ x => x.elim), fun j hj => .inl hj⟩
        clear hall ha hk hie y1 y3 hp
        generalize wr.drew = wd at h2 ⊢
        go_loopg [8, 40] n (Al2 w p v S O l)
        case atStart => exact h2.out
        case round =>
          clear h2
          obtain ⟨j, nx, S2, fl2, own2, part, v2, rfl, rfl, hj, rfl, hR⟩ := hrel
          rw [HN.out] at hj
          have hb1 := hR.used
          have hb2 := hR.len
          have hfree := freeOk hR.inv
          have hln := HN.out
          by_cases hjl : j < n
          · obtain ⟨b, o, rfl, hb, hX, hcell⟩ := HRR.out (by omega)
            obtain ⟨s, hs⟩ : ∃ s, l[l.length - 1 - j]? = some s := ⟨_, List.getElem?_eq_getElem (by omega)⟩
            obtain ⟨g0, g1⟩ := sflat_get l _ s hs
            have c0 : wr.cell? ⟨b, o + (n - 1 - j) * 2, none⟩ = some (.bool s.ref) := hR.keep.cell (p := ⟨b, o + (n - 1 - j) * 2, none⟩) (by rw [hcell _ (by omega), ← hln]; exact g0) hX
            have c1 : wr.cell? ⟨b, o + (n - 1 - j) * 2 + 1, none⟩ = some (.int .i64 s.n) := hR.keep.cell (p := ⟨b, o + (n - 1 - j) * 2 + 1, none⟩) (by rw [Nat.add_assoc, hcell _ (by omega), ← hln]; exact g1) hX
            have ht := take_any ⟨s.ref, s.n, nx, false, false⟩ hR.ar hfree (by omega) (by omega) (by omega)
            have HT := Lib.hid (And.intro hs hR)
            unfold cellv at ht
            simp only at ht
            clear hb1 hb2 hfree hs hR hcell g0 g1 hln hX hb hfull
            go_wp2_with (go_at_call 22; refine ht.mono ?_; rintro e w' ⟨rfl, hm⟩; have HM := Lib.hid hm; clear hm)
            go_roundg (l.length - (j + 1))
            case measure => have := HN.out; omega
            case rel =>
              obtain ⟨v', ha, hk, hf⟩ := HM.out
              obtain ⟨hs, hR⟩ := HT.out
              obtain ⟨fl3, own3, hR3⟩ := hR.step (by have := HN.out; omega) hs ha hk hf
              exact ⟨j + 1, _, _, fl3, own3, _, v', rfl, by go_num, by have := HN.out; omega, rfl, hR3⟩
          · have hje : j = l.length := by omega
            have hob1 := hR.inv.objects
            have hol := hR.inv.obs_le
            obtain ⟨y0, y1, y2, y3, y4⟩ := hR.ar.lens
            have hfz := hR.ar.head.frozen
            have hp := hR.ar.head.lt
            have ha2 : ArV (wr.setCell ⟨p, 4, none⟩ (.int .i64 (S2.objects + 1))) p v2 { S2 with objects := S2.objects + 1 } :=
              ⟨hR.ar.head.set 4 _, ownsRow_setCell_ne hR.ar.own (by simpa using hR.ar.ne) _⟩
            have ht := take_any ⟨false, 0, nx, true, false⟩ ha2 hfree (by show 0 ≤ S2.used; omega) (by show S2.used < _; omega) (by show S2.cs.length < _; omega)
            have eat : takeAt { S2 with objects := S2.objects + 1 } = takeAt S2 := rfl
            rw [eat] at ht
            have hk1 := (Keep.refl (fp p v2) wr).setCell (p := ⟨p, 4, none⟩) (.inl (.inl rfl)) (.int .i64 (S2.objects + 1))
            have HT := Lib.hid (And.intro hje (And.intro hR (And.intro hk1 hfull)))
            have hb3 : 0 ≤ S2.objects := by omega
            have hb4 : S2.objects ≤ 500000000 := by omega
            unfold cellv at ht
            simp only at ht
            clear hb1 hb2 hfree hR hln hfull ha2 hk1 hje eat y0 y1 y2 y3 hob1 hol
            go_wp2_with (go_at_call 22; refine ht.mono ?_; rintro e w' ⟨rfl, hm⟩; have HM := Lib.hid hm; clear hm)
            go_ret2
            obtain ⟨v', ha, hk, hf⟩ := HM.out
            obtain ⟨hje, hR, hk1, hfull⟩ := HT.out
            subst hje
            obtain ⟨fl3, own3, hM⟩ := hR.done ha (hk1.trans hk (fun _ _ x => x)) (fun i hi => (hf i hi).imp id (fun h => by simpa using h))
            exact .inr (.inr ⟨HG.out.1, by rw [HN.out]; omega, _, _, _, fl3, own3, v', rfl, hM⟩)
end Go.Proofs.Ytaklhkghjklkhaa
