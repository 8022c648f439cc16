/-
  Walk: (*World).Alloc. Conditions: fewer than 1000 objects, of at most 1000 slots.
-/
import Derived.Test.YtaklhkghjklkhaaNames
namespace Go.Proofs.Ytaklhkghjklkhaa
open Go.RowKit

theorem E65 : Elem Try.prog 40 65 2 32 := Elem.mk' Try.underlying40 (z := .agg #[.slice none 0 0, .bool false]) (by kernel_rfl) rfl (by decide)
theorem sflat_one (l : List Sl) : ∀ u ∈ sflat l, u.oneCell' = true := by
  intro u hu
  simp only [sflat, List.mem_flatMap] at hu
  obtain ⟨s, _, hs⟩ := hu
  simp [Sl.vals] at hs
  rcases hs with rfl | rfl <;> simp [Value.oneCell']
def goodW (ws : List Wo) (s : Sl) : Bool := !s.ref || isW ws s.n
def WlA (w : World) (ws : List Wo) (l : List Sl) (n : Nat) (k : Nat) (b : Value) (wr : World) : Prop :=
  ∃ i : Nat, b = .int .i64 i ∧ i ≤ n ∧ k = n - i ∧ (l.take i).all (goodW ws) = true ∧ w = wr
section
variable {w : World} {Z : Nat → Prop} {p : Nat} {c : Int} {lv : Value} {es : List (Value × Wo)}
theorem Keep.drewN {X : Nat → Prop} {a w : World} (h : Keep X a w) (n : Nat) : Keep X a (w.drewN n) :=
  h.trans (Y := X) ⟨rfl, rfl, rfl, Nat.le_refl _, fun _ _ _ => rfl⟩ (fun _ _ x => x)
def WaPost (w : World) (Z : Nat → Prop) (p : Nat) (c : Int) (lv : Value) (es : List (Value × Wo)) (l : List Sl) (e : Ending) (w' : World) : Prop :=
  (l.all (goodW (worlds es)) = false ∧ e = .returned (.int .i64 1) ∧ w = w') ∨
  (l.all (goodW (worlds es)) = true ∧ c < wosum (worlds es) + l.length + 1 ∧ e = .returned (.int .i64 22) ∧ Keep (fun _ => False) w w') ∨
  (l.all (goodW (worlds es)) = true ∧ wosum (worlds es) + l.length + 1 ≤ c ∧ e = .returned (.int .i64 0) ∧ ∃ (lv' sv : Value), WV w' Z p c lv' (es ++ [(sv, ⟨l, false⟩)]) ∧ Keep (fp p lv) w w' ∧ ∀ i, fp p lv' i → fp p lv i ∨ w.heap.size ≤ i)
theorem walloc_fin {A A1 : Option Addr} {n cap i cc1 g cap2 : Nat} {l : List Sl} {wA w1 w2 : World} {o : Obj} (h : WV w Z p c (.slice A n cap) es) (hZ : ∀ i, Z i → i < w.heap.size) (h1000 : es.length < 1000) (hn : n = es.length) (hm1 : i ≤ 1000) (hil : i = l.length)
    (hkA : Keep (fun _ => False) w wA) (ho1 : w1.ownsRow 0 32 2 (.slice A1 i cc1) i (sflat l)) (hk1 : Keep (fun k => (Value.slice none 0 0).ownBlock = some k) wA w1)
    (hg1 : ∀ g, (Value.slice A1 i cc1).ownBlock = some g → (Value.slice none 0 0).ownBlock = some g ∨ wA.heap.size ≤ g)
    (ho2 : w2.ownsRow 0 65 2 (.slice (some ⟨g, 0, none⟩) (n + 1) cap2) (n + 1) (vflat es ++ #[Value.slice A1 i cc1, .bool false].toList))
    (hk2 : Keep (fun k => (Value.slice A n cap).ownBlock = some k) (w1.alloc o) w2) (hg2 : (Value.slice A n cap).ownBlock = some g ∨ (w1.alloc o).heap.size ≤ g)
    (ha2 : At w2 p 42 #[.int .i64 c, .slice A n cap]) :
    ∃ (lv' sv : Value), WV (w2.setCell ⟨p, 1, none⟩ (.slice (some ⟨g, 0, none⟩) (n + 1) cap2)) Z p c lv' (es ++ [(sv, ⟨l, false⟩)]) ∧ Keep (fp p (.slice A n cap)) w (w2.setCell ⟨p, 1, none⟩ (.slice (some ⟨g, 0, none⟩) (n + 1) cap2)) ∧ ∀ i, fp p lv' i → fp p (.slice A n cap) i ∨ w.heap.size ≤ i := by
  subst hil
  have hgp : g ≠ p := own_ne_at ho2 ha2 (by decide)
  have hk12 : Keep (fp p (.slice A n cap)) w1 (w2.setCell ⟨p, 1, none⟩ (.slice (some ⟨g, 0, none⟩) (n + 1) cap2)) :=
    Keep.setCell (p := ⟨p, 1, none⟩) (((Keep.refl (fp p (.slice A n cap)) w1).alloc o).trans hk2 (fun _ _ x => .inr x)) (.inl (.inl rfl)) _
  have hs1 := hkA.size
  have hs2 := hk1.size
  have hsa : w1.heap.size < (w1.alloc o).heap.size := by simp
  have hkw : Keep (fp p (.slice A n cap)) w (w2.setCell ⟨p, 1, none⟩ (.slice (some ⟨g, 0, none⟩) (n + 1) cap2)) :=
    ((hkA.trans hk1 (fun _ _ x => nomatch x)).mono (fun _ _ x => x.elim)).trans hk12 (fun _ _ x => x)
  have hfp : ∀ i, fp p (.slice (some ⟨g, 0, none⟩) (n + 1) cap2) i → fp p (.slice A n cap) i ∨ w1.heap.size < i := by
    intro j hj
    rcases hj with hj | hj
    · exact .inl (.inl hj)
    · have : g = j := by simpa [Value.ownBlock] using hj
      subst this
      rcases hg2 with hg2 | hg2
      · exact .inl (.inr hg2)
      · exact .inr (by omega)
  refine ⟨.slice (some ⟨g, 0, none⟩) (n + 1) cap2, .slice A1 l.length cc1, ⟨?_, ?_, ?_, ?_, ?_⟩, hkw, fun j hj => ?_⟩
  · exact ha2.set 1 _
  · have e : vflat (es ++ [(Value.slice A1 l.length cc1, ⟨l, false⟩)]) = vflat es ++ #[Value.slice A1 l.length cc1, .bool false].toList := by rw [vflat_append]; rfl
    rw [e, List.length_append, List.length_singleton, ← hn]
    exact ownsRow_setCell_ne ho2 (a := ⟨p, 1, none⟩) (by simpa [Value.ownBlock] using hgp) _
  · intro j e he
    rcases Nat.lt_or_ge j es.length with hj | hj
    · rw [List.getElem?_append_left hj] at he
      have a := (h.rd j e he).mono (Y := fun k => fp p (.slice (some ⟨g, 0, none⟩) (n + 1) cap2) k ∨ fp p (.slice A n cap) k ∨ Z k) (fun x hx hy => by
        rcases hy with hy | hy | hy
        · rcases hfp x hy with h' | h'
          · exact .inl h'
          · omega
        · exact .inl hy
        · exact .inr hy)
      exact (a.keep hkw (fun x hx => .inr (.inl hx))).mono (Y := fun k => fp p (.slice (some ⟨g, 0, none⟩) (n + 1) cap2) k ∨ Z k) (fun x _ hy => Or.imp id Or.inr hy)
    · rw [List.getElem?_append_right hj] at he
      have hj0 : j - es.length = 0 := by
        have := (List.getElem?_eq_some_iff.1 he).1
        simp at this
        omega
      rw [hj0] at he
      simp only [List.getElem?_cons_zero, Option.some.injEq] at he
      subst he
      have a : Rd w1 (fun k => fp p (.slice (some ⟨g, 0, none⟩) (n + 1) cap2) k ∨ fp p (.slice A n cap) k ∨ Z k) 2 (.slice A1 l.length cc1) l.length (sflat l) := Rd.of_own ho1 (fun x hx hy => by
        have hx1 := own_lt ho1 hx
        have hx2 : w.heap.size ≤ x := by
          rcases hg1 x hx with h' | h'
          · cases h'
          · omega
        have old : ∀ y, fp p (.slice A n cap) y → y < w.heap.size := h.lt
        rcases hy with hy | hy | hy
        · rcases hfp x hy with h' | h'
          · have := old x h'; omega
          · omega
        · have := old x hy; omega
        · have := hZ x hy; omega)
      exact (a.keep hk12 (fun x hx => .inr (.inl hx))).mono (Y := fun k => fp p (.slice (some ⟨g, 0, none⟩) (n + 1) cap2) k ∨ Z k) (fun x _ hy => Or.imp id Or.inr hy)
  · simp; omega
  · intro e he
    rcases List.mem_append.1 he with he | he
    · exact h.small e he
    · have : e = (Value.slice A1 l.length cc1, ⟨l, false⟩) := by simpa using he
      subst this
      show l.length ≤ 1000
      omega
  · rcases hfp j hj with h' | h'
    · exact .inl h'
    · exact .inr (by omega)
set_option maxRecDepth 20000 in
set_option maxHeartbeats 2000000 in
theorem walloc_any {Y : Nat → Prop} {Al : Option Addr} {m cl : Nat} {l : List Sl} (h : WV w Z p c lv es) (hZ : ∀ i, Z i → i < w.heap.size) (h1000 : es.length < 1000) (hm : m = l.length) (hm1 : m ≤ 1000) (hl : Rd w Y 2 (.slice Al m cl) m (sflat l)) :
    Calls Try.prog 17 #[.pointer (some ⟨p, 0, none⟩), .slice Al m cl] w (WaPost w Z p c lv es l) := by
  have HW := Lib.hid (And.intro h (And.intro hZ h1000))
  have HL := Lib.hid (And.intro hm hl)
  have h0 : Hid (WlA w (worlds es) l m m (.int .i64 0) w) := ⟨0, rfl, Nat.zero_le _, rfl, by simp, rfl⟩
  clear h hm hl hZ h1000
  go_enter Try.func17, Try.ntmps17
  go_wp2
  go_loopg [5] m (fun k b wr => WlA w (worlds es) l m k b wr)
  case atStart => exact h0.out
  case round =>
    clear h0
    obtain ⟨i, rfl, hi, rfl, hg, rfl⟩ := hrel
    have HG := Lib.hid hg
    clear hg
    by_cases hlt : i < m
    · obtain ⟨hm, hl⟩ := HL.out
      obtain ⟨_, A', c', hv, _, hrr⟩ := hl
      simp only [Value.slice.injEq, true_and] at hv
      obtain ⟨rfl, rfl⟩ := hv
      obtain ⟨b, of, rfl, hb, _, hc⟩ := hrr (by omega)
      obtain ⟨s, hs⟩ : ∃ s, l[i]? = some s := ⟨_, List.getElem?_eq_getElem (by omega)⟩
      obtain ⟨g0, g1⟩ := sflat_get _ _ _ hs
      have c0 : w.cell? ⟨b, of + i * 2, none⟩ = some (.bool s.ref) := by rw [hc _ (by omega)]; exact g0
      have c1 : w.cell? ⟨b, of + i * 2 + 1, none⟩ = some (.int .i64 s.n) := by rw [Nat.add_assoc, hc _ (by omega)]; exact g1
      have his := wis_any HW.out.1 s.n
      have HS := Lib.hid hs
      clear hm hrr hc hs g0 g1
      cases hgs : goodW (worlds es) s with
      | true =>
        have HGS := Lib.hid hgs
        have go : (s.ref && !isW (worlds es) s.n) = false := by
          unfold goodW at hgs
          revert hgs
          cases s.ref <;> cases isW (worlds es) s.n <;> simp
        cases hsr : s.ref with
        | false =>
          rw [hsr] at c0
          generalize isW (worlds es) s.n = q at *
          clear hgs go hsr
          go_wp2_with (go_at_call 25; refine his.mono ?_; rintro e w' ⟨rfl, rfl⟩)
          go_roundg (m - (i + 1))
          case measure => omega
          case rel => exact ⟨i + 1, by go_num, by omega, rfl, by rw [List.take_add_one, HS.out]; simp only [List.all_append, HG.out]; simpa using HGS.out, rfl⟩
        | true =>
          rw [hsr] at c0
          have hq : isW (worlds es) s.n = true := by simpa [hsr] using go
          rw [hq] at his
          clear hgs go hsr hq
          go_wp2_with (go_at_call 25; refine his.mono ?_; rintro e w' ⟨rfl, rfl⟩)
          go_roundg (m - (i + 1))
          case measure => omega
          case rel => exact ⟨i + 1, by go_num, by omega, rfl, by rw [List.take_add_one, HS.out]; simp only [List.all_append, HG.out]; simpa using HGS.out, rfl⟩
      | false =>
        have bad : l.all (goodW (worlds es)) = false := by
          rw [List.all_eq_false]
          exact ⟨s, List.mem_of_getElem? HS.out, by rw [hgs]; simp⟩
        have HB := Lib.hid bad
        obtain ⟨hsr, hq⟩ : s.ref = true ∧ isW (worlds es) s.n = false := by
          unfold goodW at hgs
          revert hgs
          cases s.ref <;> cases isW (worlds es) s.n <;> simp
        rw [hsr] at c0
        rw [hq] at his
        clear hgs bad hsr hq
        go_wp2_with (go_at_call 25; refine his.mono ?_; rintro e w' ⟨rfl, rfl⟩)
        go_ret
        exact .inl ⟨HB.out, rfl, rfl⟩
    · have hie : i = m := by omega
      subst hie
      have hgood : l.all (goodW (worlds es)) = true := by
        have := HG.out
        rw [List.take_of_length_le (by have := HL.out.1; omega)] at this
        exact this
      have HGO := Lib.hid hgood
      obtain ⟨h, hZ, h1000⟩ := HW.out
      have hus : ∀ d, Calls Try.prog 26 #[.pointer (some ⟨p, 0, none⟩)] (w.drewN d) fun e w' => e = .returned (.int .i64 (wosum (worlds es))) ∧ ∃ m, w' = w.drewN m :=
        fun d => (wused_any (h.step ((Keep.refl _ w).drewN d))).mono (fun e w' ⟨a, b⟩ => ⟨a, d, b.symm⟩)
      have hub : wosum (worlds es) ≤ 1001000 := by
        have h1 := wosum_le (ws := worlds es) (fun o ho => by
          obtain ⟨e, he, rfl⟩ := List.mem_map.1 ho
          exact h.small e he)
        simp only [worlds, List.length_map] at h1 ⊢
        omega
      have c0 : w.cell? ⟨p, 0, none⟩ = some (.int .i64 c) := h.head.cell 0
      have hp := h.head.lt
      generalize hu : wosum (worlds es) = u at *
      have HU := Lib.hid hu
      have hml := HL.out.1
      clear hgood hlt HG
      by_cases hfull : c < u + i + 1
      · have d1 : decide (c < (u : Int) + (i : Int) + 1) = true := by simp; omega
        clear h hZ h1000 hu hml
        go_wp2_with fail
        go_quiet ((go_at_call 26; exact hus _))
        go_wp2_with fail
        go_ret
        exact .inr (.inl ⟨HGO.out, by rw [HU.out, ← HL.out.1]; omega, rfl, (Keep.refl _ w).drewN _⟩)
      · have d1 : decide (c < (u : Int) + (i : Int) + 1) = false := by simp; omega
        obtain ⟨A, cap, rfl⟩ := h.val
        have hown := h.own
        have hhead := h.head
        generalize hn : es.length = n at *
        have c1 : w.cell? ⟨p, 1, none⟩ = some (.slice A n cap) := hhead.cell 1
        have HH := Lib.hid (And.intro hown (And.intro hhead hn))
        have hl := HL.out.2
        have HR := Lib.hid hl
        have hnn : n < 1000 := h1000
        clear h hZ h1000 hu hml hown hhead hn hl
        go_wp2_with fail
        go_quiet ((go_at_call 26; exact hus _))
        go_wp2_with fail
        clear hus
        have HK0 := Lib.hid (((Keep.refl (fun _ => False) w).drewN nq).drew)
        have fr : ∀ o, w.frozen? ⟨p, o, none⟩ = false := HH.out.2.1.frozen
        go_region_law (first
          | (refine step_app_rd rfl (.const (.slice none 0 0)) (.tmp 45) 28 rfl E32 (.slice none 0 0) 0 [] rfl (World.ownsRow_nil _ 0 32 2) (.slice Al i cl) i (sflat l) rfl (HR.out.keep HK0.out (fun _ x => x.elim)) (sflat_one l) (by omega) (by decide) ?_
             intro v1 w1 ho1 hk1 hg1
             rw [Nat.zero_add, List.nil_append] at ho1
             obtain ⟨A1, cc1, rfl⟩ := own_slice ho1
             have ha1 := hk1.at_ (HK0.out.at_ HH.out.2.1 (fun x => x)) (fun x => nomatch x)
             have hw1 := hk1.own (HK0.out.own HH.out.1 (fun _ _ x => x)) (fun _ _ x => nomatch x)
             have HO1 := Lib.hid (And.intro ho1 (And.intro hk1 (And.intro hg1 (And.intro ha1 hw1))))
             have z1 : w1.cell? ⟨p, 1, none⟩ = some (.slice A n cap) := ha1.cell 1
             have fr1 := ha1.frozen
             have hp1 := ha1.lt
             clear ho1 hk1 hg1 ha1 hw1)
          | (refine step_app rfl (.tmp 44) (.tmp 48) 40 rfl E65 (.slice A n cap) n (vflat es) rfl (HO1.out.2.2.2.2.alloc _) w1.heap.size 1 1 #[.slice A1 i cc1, .bool false] rfl (At.new _ _ _) rfl (by simp [Value.oneCell']) (by decide) (by omega) (by decide) ?_
             intro g cap2 w2 ho2 hk2 hg2 hgl2
             have ha2 := hk2.at_ (HO1.out.2.2.2.1.alloc _) (own_at HO1.out.2.2.2.2 HO1.out.2.2.2.1 (by decide))
             have HO2 := Lib.hid (And.intro ho2 (And.intro hk2 (And.intro hg2 ha2)))
             have z2 : w2.cell? ⟨p, 1, none⟩ = some (.slice A n cap) := ha2.cell 1
             have fr2 := ha2.frozen
             have hp2 := ha2.lt
             clear ho2 hk2 hg2 ha2))
        all_goals
          go_wp2_with fail
          go_ret
          obtain ⟨ho1, hk1, hg1, ha1, hw1⟩ := HO1.out
          obtain ⟨ho2, hk2, hg2, ha2⟩ := HO2.out
          obtain ⟨h, hZ, h1000⟩ := HW.out
          exact .inr (.inr ⟨HGO.out, by rw [HU.out, ← HL.out.1]; omega, rfl, walloc_fin h hZ (by have := HH.out.2.2; omega) HH.out.2.2.symm hm1 HL.out.1 HK0.out ho1 hk1 hg1 ho2 hk2 hg2 ha2⟩)
end
end Go.Proofs.Ytaklhkghjklkhaa
