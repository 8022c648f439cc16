/-
  Walk: gradusref03's Same. Conditions: none.
-/
import Derived.Test.YtbanpohholnkaaaDoorWRTag
import Derived.Test.YtbanpohholnkaaaDoorWords
import Derived.Deep.RegionHeld3
namespace Go.Proofs.YtbanpohholnkaaaDoor
open Go.RowKit

def RsA (w : World) (l l' : List ByteArray) (n : Nat) (k : Nat) (b : Value) (wr : World) : Prop :=
  ∃ i : Nat, b = .int .i64 i ∧ i ≤ n ∧ k = n - i ∧ l.take i = l'.take i ∧ Keep (fun _ => False) w wr
def RsB (w : World) (l l' : List Ty) (n : Nat) (k : Nat) (b : Value) (wr : World) : Prop :=
  ∃ i : Nat, b = .int .i64 i ∧ i ≤ n ∧ k = n - i ∧ l.take i = l'.take i ∧ Keep (fun _ => False) w wr
set_option maxRecDepth 100000 in
set_option maxHeartbeats 4000000 in
theorem rSame_any {X Y : Nat → Prop} (a : Ty) : ∀ (b : Ty) (w : World) (r r' : Tv), TyV w X r a → TyV w Y r' b → Calls Tryd.prog 25 #[r.val, r'.val] w fun e w' => e = .returned (.bool (sameT a b)) ∧ Keep (fun _ => False) w w' := by
  induction a using Ty.ind with
  | h a ih =>
    intro b w r r' h h'
    have ha := h.out
    have hb := h'.out
    obtain ⟨k, nm, An, nn, cn, Ak, nk, ck⟩ := r
    obtain ⟨k', nm', An', nn', cn', Ak', nk', ck'⟩ := r'
    obtain ⟨⟨e1, e2, e3⟩, e4, e5, e6, rs, e7, e8, e9⟩ := ha
    obtain ⟨⟨f1, f2, f3⟩, f4, f5, f6, rs', f7, f8, f9⟩ := hb
    simp only at e1 e2 e3 e4 e5 e6 e7 e8 f1 f2 f3 f4 f5 f6 f7 f8
    have kw : Keep (fun _ => False) w ((w.alloc (.cells #[.int .i64 k, .string nm, .slice An nn cn, .slice Ak nk ck] 25)).alloc (.cells #[.int .i64 k', .string nm', .slice An' nn' cn', .slice Ak' nk' ck'] 25)) := ((Keep.refl _ w).alloc _).alloc _
    have hx : At ((w.alloc (.cells #[.int .i64 k, .string nm, .slice An nn cn, .slice Ak nk ck] 25)).alloc (.cells #[.int .i64 k', .string nm', .slice An' nn' cn', .slice Ak' nk' ck'] 25)) w.heap.size 25 #[.int .i64 k, .string nm, .slice An nn cn, .slice Ak nk ck] := (At.new _ _ _).alloc _
    have hy : At ((w.alloc (.cells #[.int .i64 k, .string nm, .slice An nn cn, .slice Ak nk ck] 25)).alloc (.cells #[.int .i64 k', .string nm', .slice An' nn' cn', .slice Ak' nk' ck'] 25)) (w.heap.size + 1) 25 #[.int .i64 k', .string nm', .slice An' nn' cn', .slice Ak' nk' ck'] := At.new_at (by simp)
    have hno : ¬ (k = k' ∧ nm = nm' ∧ a.names = b.names ∧ a.kids = b.kids) → sameT a b = false := fun h => same_no (by rw [← e1, ← f1, ← e4, ← f4]; exact h)
    have hyes : (k = k' ∧ nm = nm' ∧ a.names = b.names ∧ a.kids = b.kids) → sameT a b = true := fun h => same_parts.2 (by rw [← e1, ← f1, ← e4, ← f4]; exact h)
    have hnl : a.names.length = nn := e5.symm
    have hnl' : b.names.length = nn' := f5.symm
    have hkl : a.kids.length = nk := e7.symm
    have hkl' : b.kids.length = nk' := f7.symm
    have H := Lib.hid (And.intro hno (And.intro hyes (And.intro kw (And.intro hx (And.intro hy (And.intro (e6.keep kw (fun _ x => x.elim)) (And.intro (f6.keep kw (fun _ x => x.elim)) (And.intro (e8.keep kw (fun _ x => x.elim)) (And.intro (f8.keep kw (fun _ x => x.elim)) (And.intro (e9.step kw) (f9.step kw)))))))))))
    have HI := Lib.hid ih
    have HL := Lib.hid (And.intro hnl (And.intro hnl' (And.intro hkl hkl')))
    have x := hx.tcells
    have y := hy.tcells
    obtain ⟨xl, x0, x1, x2, x3⟩ := x
    obtain ⟨yl, y0, y1, y2, y3⟩ := y
    clear ih h h' hno hyes hx hy kw e1 e4 e5 e6 e7 e8 e9 f1 f2 f4 f5 f6 f7 f8 f9 hnl hnl' hkl hkl' f3
    unfold Tv.val
    simp only
    have fin : ∀ (v : Bool) (w' : World), sameT a b = v → Keep (fun _ => False) ((w.alloc (.cells #[.int .i64 k, .string nm, .slice An nn cn, .slice Ak nk ck] 25)).alloc (.cells #[.int .i64 k', .string nm', .slice An' nn' cn', .slice Ak' nk' ck'] 25)) w' → Ending.returned (.bool v) = .returned (.bool (sameT a b)) ∧ Keep (fun _ => False) w w' := fun v w' hv hk => ⟨by rw [hv], H.out.2.2.1.trans hk (fun _ _ x => x)⟩
    have FIN := Lib.hid fin
    clear fin
    by_cases hk : k = k'
    · subst hk
      have dk : (k == k) = true := by simp
      have dk' : (k != k) = false := by simp
      by_cases hnm : nm = nm'
      · subst hnm
        have dn := str_beq nm
        have dn' : (nm.toList != nm.toList) = false := by simp
        by_cases hnn : nn = nn'
        · subst hnn
          have dl : ((nn : Int) == (nn : Int)) = true := by simp
          have dl' : ((nn : Int) != (nn : Int)) = false := by simp
          by_cases hkk : nk = nk'
          · subst hkk
            have dm : ((nk : Int) == (nk : Int)) = true := by simp
            have dm' : ((nk : Int) != (nk : Int)) = false := by simp
            go_enter Tryd.func25, Tryd.ntmps25
            go_wp2_with fail
            clear xl x0 x1 x2 x3 yl y0 y1 y2 y3
            generalize ((w.alloc (.cells #[.int .i64 k, .string nm, .slice An nn cn, .slice Ak nk ck] 25)).alloc (.cells #[.int .i64 k, .string nm, .slice An' nn cn', .slice Ak' nk ck'] 25)) = w2 at *
            generalize w.heap.size = bx at *
            generalize bx + 1 = by_ at *
            have h0 : Hid (RsA w2 a.names b.names nn nn (.int .i64 0) w2) := ⟨0, rfl, Nat.zero_le _, rfl, rfl, Keep.refl _ _⟩
            go_loopg [5] nn (RsA w2 a.names b.names nn)
            case atStart => exact h0.out
            case round =>
              clear h0
              obtain ⟨i, rfl, hi, rfl, ht, hk⟩ := hrel
              have hS := And.intro (hk.at_ H.out.2.2.2.1 (fun x => x)).tcells (hk.at_ H.out.2.2.2.2.1 (fun x => x)).tcells
              obtain ⟨⟨xl, x0, x1, x2, x3⟩, ⟨yl, y0, y1, y2, y3⟩⟩ := hS
              have HK := Lib.hid (And.intro ht hk)
              clear ht
              by_cases hlt : i < nn
              · obtain ⟨s, hs⟩ : ∃ s, a.names[i]? = some s := ⟨_, List.getElem?_eq_getElem (by have := HL.out; omega)⟩
                obtain ⟨s', hs'⟩ : ∃ s', b.names[i]? = some s' := ⟨_, List.getElem?_eq_getElem (by have := HL.out; omega)⟩
                obtain ⟨p, o, rfl, hbz, _, c0⟩ := (H.out.2.2.2.2.2.1.keep hk (fun _ x => x.elim)).scell hlt hs
                obtain ⟨p', o', rfl, hbz', _, c0'⟩ := (H.out.2.2.2.2.2.2.1.keep hk (fun _ x => x.elim)).scell hlt hs'
                have HS := Lib.hid (And.intro hs hs')
                clear hk hs hs'
                by_cases he : s = s'
                · subst he
                  have hd := str_beq s
                  have hd' : (s.toList != s.toList) = false := by simp
                  go_wp2_with fail
                  go_quiet (fail)
                  go_wp2_with fail
                  go_roundg (nn - (i + 1))
                  case measure => omega
                  case rel => exact ⟨i + 1, by go_num, by omega, rfl, take_eq_succ HK.out.1 HS.out.1 HS.out.2 rfl, HK.out.2.drewN _⟩
                · have hd := str_bne he
                  have hd' : (s.toList != s'.toList) = true := by simp [bne, hd]
                  have hnx := H.out.1 (fun h => take_ne_at HS.out.1 HS.out.2 he h.2.2.1)
                  have HN := Lib.hid hnx
                  clear hnx
                  go_wp2_with fail
                  go_quiet (fail)
                  go_wp2_with fail
                  go_ret
                  exact FIN.out _ _ HN.out (HK.out.2.drewN _)
              · have hns : a.names = b.names := by
                  have h1 := HK.out.1
                  have := HL.out
                  rw [List.take_of_length_le (by omega), List.take_of_length_le (by omega)] at h1
                  exact h1
                have HNS := Lib.hid hns
                clear hns hk
                go_wp2_with fail
                clear xl x0 x1 x2 x3 yl y0 y1 y2 y3
                have h0 : Hid (RsB w2 a.kids b.kids nk nk (.int .i64 0) wr) := ⟨0, rfl, Nat.zero_le _, rfl, rfl, HK.out.2⟩
                go_loopg [6] nk (RsB w2 a.kids b.kids nk)
                case atStart => exact h0.out
                case round =>
                  clear h0 HK
                  obtain ⟨j, rfl, hj, rfl, ht, hk⟩ := hrel
                  have hS := And.intro (hk.at_ H.out.2.2.2.1 (fun x => x)).tcells (hk.at_ H.out.2.2.2.2.1 (fun x => x)).tcells
                  obtain ⟨⟨xl, x0, x1, x2, x3⟩, ⟨yl, y0, y1, y2, y3⟩⟩ := hS
                  have HK := Lib.hid (And.intro ht hk)
                  clear ht
                  by_cases hlt : j < nk
                  · obtain ⟨s, hs⟩ : ∃ s, a.kids[j]? = some s := ⟨_, List.getElem?_eq_getElem (by have := HL.out; omega)⟩
                    obtain ⟨s', hs'⟩ : ∃ s', b.kids[j]? = some s' := ⟨_, List.getElem?_eq_getElem (by have := HL.out; omega)⟩
                    obtain ⟨q, hq, hqv⟩ := (H.out.2.2.2.2.2.2.2.2.2.1.step hk).at_ hs
                    obtain ⟨q', hq', hqv'⟩ := (H.out.2.2.2.2.2.2.2.2.2.2.step hk).at_ hs'
                    obtain ⟨p, o, rfl, hbz, _, c0, c1, c2, c3⟩ := (H.out.2.2.2.2.2.2.2.1.keep hk (fun _ x => x.elim)).tcells hlt hq
                    obtain ⟨p', o', rfl, hbz', _, c0', c1', c2', c3'⟩ := (H.out.2.2.2.2.2.2.2.2.1.keep hk (fun _ x => x.elim)).tcells hlt hq'
                    have HC := HI.out s (Ty.kid_lt (List.mem_of_getElem? hs)) s' wr.drew q q' (hqv.step (Keep.refl _ wr).drew) (hqv'.step (Keep.refl _ wr).drew)
                    unfold Tv.val at HC
                    have HS := Lib.hid (And.intro hs hs')
                    clear hs hs' hq hq' hqv hqv'
                    have hsx : bx < wr.heap.size ∧ by_ < wr.heap.size ∧ wr.cell? ⟨bx, 3, none⟩ = some (.slice (some ⟨p, o, none⟩) nk ck) ∧ wr.cell? ⟨by_, 3, none⟩ = some (.slice (some ⟨p', o', none⟩) nk ck') ∧ p < wr.heap.size ∧ p' < wr.heap.size ∧ wr.cell? ⟨p, o + j * 4, none⟩ = some (.int .i64 q.k) ∧ wr.cell? ⟨p, o + j * 4 + 1, none⟩ = some (.string q.nm) ∧ wr.cell? ⟨p, o + j * 4 + 2, none⟩ = some (.slice q.An q.nn q.cn) ∧ wr.cell? ⟨p, o + j * 4 + 3, none⟩ = some (.slice q.Ak q.nk q.ck) ∧ wr.cell? ⟨p', o' + j * 4, none⟩ = some (.int .i64 q'.k) ∧ wr.cell? ⟨p', o' + j * 4 + 1, none⟩ = some (.string q'.nm) ∧ wr.cell? ⟨p', o' + j * 4 + 2, none⟩ = some (.slice q'.An q'.nn q'.cn) ∧ wr.cell? ⟨p', o' + j * 4 + 3, none⟩ = some (.slice q'.Ak q'.nk q'.ck) := ⟨xl, yl, x3, y3, hbz, hbz', c0, c1, c2, c3, c0', c1', c2', c3'⟩
                    have hsk : ∀ w', Keep (fun _ => False) wr.drew w' → bx < w'.heap.size ∧ by_ < w'.heap.size ∧ w'.cell? ⟨bx, 3, none⟩ = some (.slice (some ⟨p, o, none⟩) nk ck) ∧ w'.cell? ⟨by_, 3, none⟩ = some (.slice (some ⟨p', o', none⟩) nk ck') ∧ p < w'.heap.size ∧ p' < w'.heap.size ∧ w'.cell? ⟨p, o + j * 4, none⟩ = some (.int .i64 q.k) ∧ w'.cell? ⟨p, o + j * 4 + 1, none⟩ = some (.string q.nm) ∧ w'.cell? ⟨p, o + j * 4 + 2, none⟩ = some (.slice q.An q.nn q.cn) ∧ w'.cell? ⟨p, o + j * 4 + 3, none⟩ = some (.slice q.Ak q.nk q.ck) ∧ w'.cell? ⟨p', o' + j * 4, none⟩ = some (.int .i64 q'.k) ∧ w'.cell? ⟨p', o' + j * 4 + 1, none⟩ = some (.string q'.nm) ∧ w'.cell? ⟨p', o' + j * 4 + 2, none⟩ = some (.slice q'.An q'.nn q'.cn) ∧ w'.cell? ⟨p', o' + j * 4 + 3, none⟩ = some (.slice q'.Ak q'.nk q'.ck) := fun w' hk => by
                      have hz : wr.heap.size ≤ w'.heap.size := hk.size
                      exact ⟨by omega, by omega, hk.cell x3 (fun x => x), hk.cell y3 (fun x => x), by omega, by omega, hk.cell c0 (fun x => x), hk.cell c1 (fun x => x), hk.cell c2 (fun x => x), hk.cell c3 (fun x => x), hk.cell c0' (fun x => x), hk.cell c1' (fun x => x), hk.cell c2' (fun x => x), hk.cell c3' (fun x => x)⟩
                    have HSK := Lib.hid hsk
                    have j0 : (0 : Int) ≤ (j : Int) := by omega
                    have j1 : (j : Int) < (nk : Int) := by omega
                    have dlt : decide ((j : Int) < (nk : Int)) = true := by simp; omega
                    have dlt' : decide (j < nk) = true := by simp; omega
                    clear hsk hk
                    go_wp2_with fail
                    clear xl yl x3 y3 hbz hbz' c0 c1 c2 c3 c0' c1' c2' c3' x0 x1 x2 y0 y1 y2
                    by_cases he : s = s'
                    · subst he
                      rw [sameT_refl] at HC
                      go_region_held3 (fun w' => bx < w'.heap.size ∧ by_ < w'.heap.size ∧ w'.cell? ⟨bx, 3, none⟩ = some (.slice (some ⟨p, o, none⟩) nk ck) ∧ w'.cell? ⟨by_, 3, none⟩ = some (.slice (some ⟨p', o', none⟩) nk ck') ∧ p < w'.heap.size ∧ p' < w'.heap.size ∧ w'.cell? ⟨p, o + j * 4, none⟩ = some (.int .i64 q.k) ∧ w'.cell? ⟨p, o + j * 4 + 1, none⟩ = some (.string q.nm) ∧ w'.cell? ⟨p, o + j * 4 + 2, none⟩ = some (.slice q.An q.nn q.cn) ∧ w'.cell? ⟨p, o + j * 4 + 3, none⟩ = some (.slice q.Ak q.nk q.ck) ∧ w'.cell? ⟨p', o' + j * 4, none⟩ = some (.int .i64 q'.k) ∧ w'.cell? ⟨p', o' + j * 4 + 1, none⟩ = some (.string q'.nm) ∧ w'.cell? ⟨p', o' + j * 4 + 2, none⟩ = some (.slice q'.An q'.nn q'.cn) ∧ w'.cell? ⟨p', o' + j * 4 + 3, none⟩ = some (.slice q'.Ak q'.nk q'.ck))
                        (first | exact hsx | exact HSK.out _ HK2.out)
                        ((go_at_call 25; refine HC.mono ?_; rintro e w' ⟨rfl, hk⟩; have HK2 := Lib.hid hk; clear hk HC))
                      go_wp2_with fail
                      go_roundg (nk - (j + 1))
                      case measure => omega
                      case rel => exact ⟨j + 1, by go_num, by omega, rfl, take_eq_succ HK.out.1 HS.out.1 HS.out.2 rfl, HK.out.2.drew.trans HK2.out (fun _ _ x => x)⟩
                    · rw [sameT_ne he] at HC
                      have hnx := H.out.1 (fun h => take_ne_at HS.out.1 HS.out.2 he h.2.2.2)
                      have HN := Lib.hid hnx
                      clear hnx
                      go_region_held3 (fun w' => bx < w'.heap.size ∧ by_ < w'.heap.size ∧ w'.cell? ⟨bx, 3, none⟩ = some (.slice (some ⟨p, o, none⟩) nk ck) ∧ w'.cell? ⟨by_, 3, none⟩ = some (.slice (some ⟨p', o', none⟩) nk ck') ∧ p < w'.heap.size ∧ p' < w'.heap.size ∧ w'.cell? ⟨p, o + j * 4, none⟩ = some (.int .i64 q.k) ∧ w'.cell? ⟨p, o + j * 4 + 1, none⟩ = some (.string q.nm) ∧ w'.cell? ⟨p, o + j * 4 + 2, none⟩ = some (.slice q.An q.nn q.cn) ∧ w'.cell? ⟨p, o + j * 4 + 3, none⟩ = some (.slice q.Ak q.nk q.ck) ∧ w'.cell? ⟨p', o' + j * 4, none⟩ = some (.int .i64 q'.k) ∧ w'.cell? ⟨p', o' + j * 4 + 1, none⟩ = some (.string q'.nm) ∧ w'.cell? ⟨p', o' + j * 4 + 2, none⟩ = some (.slice q'.An q'.nn q'.cn) ∧ w'.cell? ⟨p', o' + j * 4 + 3, none⟩ = some (.slice q'.Ak q'.nk q'.ck))
                        (first | exact hsx | exact HSK.out _ HK2.out)
                        ((go_at_call 25; refine HC.mono ?_; rintro e w' ⟨rfl, hk⟩; have HK2 := Lib.hid hk; clear hk HC))
                      go_wp2_with fail
                      go_ret
                      exact FIN.out _ _ HN.out (HK.out.2.drew.trans HK2.out (fun _ _ x => x))
                  · have hks : a.kids = b.kids := by
                      have h1 := HK.out.1
                      have := HL.out
                      rw [List.take_of_length_le (by omega), List.take_of_length_le (by omega)] at h1
                      exact h1
                    have hyy := H.out.2.1 ⟨by simp, by simp, HNS.out, hks⟩
                    have HY := Lib.hid hyy
                    clear hks hyy hk
                    go_wp2_with fail
                    go_ret
                    exact FIN.out _ _ HY.out HK.out.2
          · have dm : ((nk : Int) == (nk' : Int)) = false := by rw [beq_eq_false_iff_ne]; omega
            have dm' : ((nk : Int) != (nk' : Int)) = true := by simp [bne, dm]
            have HN := Lib.hid (H.out.1 (fun h => by have := HL.out; have := congrArg List.length h.2.2.2; omega))
            go_enter Tryd.func25, Tryd.ntmps25
            go_wp2_with fail
            go_ret
            exact FIN.out _ _ HN.out (Keep.refl _ _)
        · have dl : ((nn : Int) == (nn' : Int)) = false := by rw [beq_eq_false_iff_ne]; omega
          have dl' : ((nn : Int) != (nn' : Int)) = true := by simp [bne, dl]
          have HN := Lib.hid (H.out.1 (fun h => by have := HL.out; have := congrArg List.length h.2.2.1; omega))
          go_enter Tryd.func25, Tryd.ntmps25
          go_wp2_with fail
          go_ret
          exact FIN.out _ _ HN.out (Keep.refl _ _)
      · have dn := str_bne hnm
        have dn' : (nm.toList != nm'.toList) = true := by simp [bne, dn]
        have HN := Lib.hid (H.out.1 (fun h => hnm h.2.1))
        go_enter Tryd.func25, Tryd.ntmps25
        go_wp2_with fail
        go_ret
        exact FIN.out _ _ HN.out (Keep.refl _ _)
    · have dk : (k == k') = false := by simp [hk]
      have dk' : (k != k') = true := by simp [bne, dk]
      have HN := Lib.hid (H.out.1 (fun h => hk h.1))
      go_enter Tryd.func25, Tryd.ntmps25
      go_wp2_with fail
      go_ret
      exact FIN.out _ _ HN.out (Keep.refl _ _)
end Go.Proofs.YtbanpohholnkaaaDoor
