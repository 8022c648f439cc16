/-
  Walk: tells answers true, if the arena has what the reference's world has. Conditions: the two are related.
-/
import Derived.Test.YtaklhkghjklkhaaPair2
import Derived.BigQuiet
namespace Go.Proofs.Ytaklhkghjklkhaa
open Go.RowKit

def TlA (w : World) (n : Nat) (k : Nat) (b : Value) (wr : World) : Prop :=
  ∃ i : Nat, b = .int .i64 i ∧ i ≤ n ∧ k = n - i ∧ Keep (fun _ => False) w wr

theorem row_at {w : World} {e : TypeId} {n i : Nat} {v : Value} {l : List Sl} {s : Sl} (h : w.ownsRow 0 e 2 v n (sflat l)) (hi : i < n) (hs : l[i]? = some s) :
    ∃ g cap, v = .slice (some ⟨g, 0, none⟩) n cap ∧ g < w.heap.size ∧ w.cell? ⟨g, i * 2, none⟩ = some (.bool s.ref) ∧ w.cell? ⟨g, i * 2 + 1, none⟩ = some (.int .i64 s.n) := by
  obtain ⟨g0, g1⟩ := sflat_get _ _ _ hs
  rcases own_cases h with ⟨_, h0, _⟩ | ⟨g, cap, rfl, _, hg⟩
  · omega
  · exact ⟨g, cap, rfl, hg, by rw [h.cellAt _ (by omega)]; exact g0, by rw [h.cellAt _ (by omega)]; exact g1⟩

set_option maxRecDepth 100000 in
set_option maxHeartbeats 4000000 in
theorem tells_any {w : World} {X Z Y : Nat → Prop} {pa pw n cap N : Nat} {m c : Int} {objs : List Obj'} {xs : Xs} {es : List (Value × Wo)} {lv : Value} {A : Option Addr}
    (hS : Arena w pa X m N objs) (hW : WV w Z pw c lv es) (hR : RelX xs objs) (hE : worlds es = wsX xs) (hn : n = es.length) (hr : Rd w Y 1 (.slice A n cap) n (ints (refsX xs))) :
    Calls Try.prog 18 #[.pointer (some ⟨pa, 0, none⟩), .pointer (some ⟨pw, 0, none⟩), .slice A n cap] w fun e w' => e = .returned (.bool true) ∧ Keep (fun _ => False) w w' := by
  have hxl : xs.length = n := by
    have := congrArg List.length hE
    simpa [worlds, wsX, hn] using this.symm
  have hn1000 : n ≤ 1000 := by rw [hn]; exact hW.len
  have hu : usum objs = wosum (worlds es) := by rw [hE, hR.eq, live_usum]
  have hc : objs.length = wocnt (worlds es) := by rw [hE, hR.eq, live_count]
  have k1 := hS.used
  have k2 := wused_any hW
  have k3 := hS.objects
  have k4 := wobjects_any hW
  rw [← hu] at k2
  rw [← hc] at k4
  generalize usum objs = us at *
  generalize objs.length = os at *
  have HA := Lib.hid (And.intro hS (And.intro hR (And.intro hE hxl)))
  have HW := Lib.hid hW
  have HR := Lib.hid hr
  have HN := Lib.hid hn
  clear hS hR hE hxl hu hc hr hn
  have h0 : Hid (TlA w n n (.int .i64 0) w) := ⟨0, rfl, Nat.zero_le _, rfl, Keep.refl _ _⟩
  clear hW
  go_enter Try.func18, Try.ntmps18
  go_wp2_with (first | (go_at_call 13; refine k1.mono ?_; rintro e w' ⟨rfl, rfl⟩) | (go_at_call 26; refine k2.mono ?_; rintro e w' ⟨rfl, rfl⟩) | (go_at_call 20; refine k3.mono ?_; rintro e w' ⟨rfl, rfl⟩) | (go_at_call 27; refine k4.mono ?_; rintro e w' ⟨rfl, rfl⟩))
  clear k1 k2 k3 k4
  go_loopg [7] n (TlA w n)
  case atStart => exact h0.out
  case round =>
    clear h0
    obtain ⟨i, rfl, hi, rfl, hk⟩ := hrel
    have hW := HW.out.step hk
    obtain ⟨Av, cv, rfl⟩ := hW.val
    have hl1 : wr.cell? ⟨pw, 1, none⟩ = some (.slice Av n cv) := by rw [HN.out]; exact hW.head.cell 1
    have HK := Lib.hid hk
    clear hk
    by_cases hlt : i < n
    · have hi25 := wis_any hW i
      obtain ⟨e, he⟩ : ∃ e, es[i]? = some e := ⟨_, List.getElem?_eq_getElem (by have := HN.out; omega)⟩
      obtain ⟨hS, hR, hE, hxl⟩ := HA.out
      obtain ⟨x, hx⟩ : ∃ x, xs[i]? = some x := ⟨_, List.getElem?_eq_getElem (by omega)⟩
      have hex : e.2 = x.1 := by
        have := congrArg (·[i]?) hE
        simpa [worlds, wsX, he, hx] using this
      rw [isW_at (o := e.2) (by simp [worlds, he])] at hi25
      cases hg : e.2.gone with
      | true =>
        rw [hg] at hi25
        clear hW hS hR hE hxl hx hex he hg
        go_wp2_with (go_at_call 25; refine hi25.mono ?_; rintro e w' ⟨rfl, rfl⟩)
        go_roundg (n - (i + 1))
        case measure => omega
        case rel => exact ⟨i + 1, by go_num, by omega, rfl, HK.out⟩
      | false =>
        rw [hg] at hi25
        have hgx : x.1.gone = false := by rw [← hex]; exact hg
        obtain ⟨ga, ca, hv, hga, _, hcs⟩ := hW.form (by have := HN.out; omega)
        rw [← HN.out] at hv
        simp only [Value.slice.injEq, true_and] at hv
        obtain ⟨rfl, rfl⟩ := hv
        have ce := (hcs i e he).1
        obtain ⟨_, As, cs, hev, _⟩ := hW.rd i e he
        rw [hev] at ce
        have hrd := HR.out.keep HK.out (fun _ x => x.elim)
        obtain ⟨_, A', c', hv, _, hrr⟩ := hrd
        simp only [Value.slice.injEq, true_and] at hv
        obtain ⟨rfl, rfl⟩ := hv
        obtain ⟨b, of, rfl, hb, _, hc⟩ := hrr (by omega)
        have hcr : ∀ (q : Nat) (y : Wo × Nat), xs[q]? = some y → wr.cell? ⟨b, of + q, none⟩ = some (.int .i64 y.2) := by
          intro q y hy
          have hq := (List.getElem?_eq_some_iff.1 hy).1
          rw [hc q (by omega)]
          simp [ints, refsX, hy]
        have c0 := hcr i x hx
        have hge := (hS.keep HK.out (fun _ _ x => x)).get_yes (r := x.2) (l := x.1.slots.map (mpX xs)) (by rw [hR.eq]; exact mem_live.2 ⟨i, x, hx, hgx, rfl⟩)
        have hmp : mpS (worlds es) (refsX xs) = mpX xs := by rw [hE]; rfl
        have hm1000 : (x.1.slots.map (mpX xs)).length ≤ 1000 := by rw [← hex]; simpa using hW.small e (List.mem_of_getElem? he)
        rw [hex] at ce
        generalize hL : x.1.slots.map (mpX xs) = L at *
        have hLn : x.1.slots.length = L.length := by rw [← hL]; simp
        rw [hLn] at ce
        have HX := Lib.hid (And.intro hx hgx)
        have HC := Lib.hid (And.intro hcr (And.intro hmp (And.intro hx (And.intro he (And.intro hex (And.intro hgx hL))))))
        have hsl' : ∀ w2, Keep (fun _ => False) wr w2 → Calls Try.prog 16 #[.slice (some ⟨b, of, none⟩) n cap, .pointer (some ⟨pw, 0, none⟩), .slice As L.length cs] w2 fun e w' => ∃ lv', e = .returned lv' ∧ w'.ownsRow 0 32 2 lv' L.length (sflat L) ∧ Keep (fun _ => False) w2 w' := by
          intro w2 hk2
          have hrd2 := hW.rd i e he
          rw [hev, hex, hLn] at hrd2
          refine (slots_any (l := x.1.slots) (hW.step hk2) HN.out ((HR.out.keep HK.out (fun _ x => x.elim)).keep hk2 (fun _ x => x.elim)) hLn.symm hm1000 (hrd2.keep hk2 (fun _ x => x.elim))).mono ?_
          rintro e w' ⟨lv', rfl, h1, h2, _⟩
          rw [hmp, hL] at h1
          exact ⟨lv', rfl, h1, h2⟩
        have HSL := Lib.hid hsl'
        clear hsl' hcr hmp hx he hex hgx hL hLn hc hrr hcs hW hS hR hE hxl hg hev
        go_wp2_with (first | (go_at_call 25; refine hi25.mono ?_; rintro e w' ⟨rfl, rfl⟩) | (go_at_call 19; refine hge.mono ?_; rintro e w1 ⟨lv1, rfl, ho1, hk1, _⟩; obtain ⟨A1, cp1, rfl⟩ := own_slice ho1; have q1 := hk1.cell hl1 (fun x => x); have q2 := hk1.cell ce (fun x => x); have H1 := Lib.hid (And.intro ho1 hk1); clear ho1 hk1) | (go_at_call 16; refine (HSL.out _ H1.out.2).mono ?_; rintro e w2 ⟨lv2, rfl, ho2, hk2⟩; obtain ⟨A2, cp2, rfl⟩ := own_slice ho2; have H2 := Lib.hid (And.intro ho2 hk2); clear ho2 hk2))
        have k2 : Keep (fun _ => False) wr w2 := H1.out.2.trans H2.out.2 (fun _ _ x => x)
        have o1 := H2.out.2.own H1.out.1 (fun _ _ x => x)
        have hcc : ∀ w3, Keep (fun _ => False) w2 w3 → ∀ (q : Nat) (y : Wo × Nat), xs[q]? = some y → w3.cell? ⟨b, of + q, none⟩ = some (.int .i64 y.2) := fun w3 k3 q y hy => (k2.trans k3 (fun _ _ x => x)).cell (p := ⟨b, of + q, none⟩) (HC.out.1 q y hy) (fun x => x)
        have H2' := Lib.hid (And.intro k2 (And.intro o1 (And.intro H2.out.1 hcc)))
        clear k2 o1 hcc HC H1 H2 HSL hge q1 q2 c0 ce hl1
        obtain ⟨wo, rfl⟩ : ∃ wo : World, wo = wr := ⟨_, rfl⟩
        have h0 : Hid (TlA w2 L.length L.length (.int .i64 0) w2) := ⟨0, rfl, Nat.zero_le _, rfl, Keep.refl _ _⟩
        go_loopg [12] L.length (TlA w2 L.length)
        case atStart => exact h0.out
        case round =>
          clear h0
          obtain ⟨j, rfl, hj, rfl, hk⟩ := hrel
          have HK3 := Lib.hid hk
          by_cases hjl : j < L.length
          · obtain ⟨s, hs⟩ : ∃ s, L[j]? = some s := ⟨_, List.getElem?_eq_getElem hjl⟩
            obtain ⟨g1, _, hv, hg1, x1, x2⟩ := row_at (hk.own H2'.out.2.1 (fun _ _ x => x)) hjl hs
            simp only [Value.slice.injEq, true_and] at hv
            obtain ⟨rfl, rfl⟩ := hv
            obtain ⟨g2, _, hv, hg2, y1, y2⟩ := row_at (hk.own H2'.out.2.2.1 (fun _ _ x => x)) hjl hs
            simp only [Value.slice.injEq, true_and] at hv
            obtain ⟨rfl, rfl⟩ := hv
            clear hk hs
            go_wp2_with fail
            go_region
            go_wp2_with fail
            go_roundg (L.length - (j + 1))
            case measure => omega
            case rel => exact ⟨j + 1, by go_num, by omega, rfl, HK3.out.drew⟩
          · clear hk
            go_wp2_with fail
            obtain ⟨wm, rfl⟩ : ∃ wm : World, wm = wr := ⟨_, rfl⟩
            have h0 : Hid (TlA w2 i i (.int .i64 0) wm) := ⟨0, rfl, Nat.zero_le _, rfl, HK3.out⟩
            clear HK3
            go_loopg [13] i (TlA w2 i)
            case atStart => exact h0.out
            case round =>
              clear h0
              obtain ⟨q, rfl, hq, rfl, hk⟩ := hrel
              have HK3 := Lib.hid hk
              by_cases hqi : q < i
              · obtain ⟨hS, hR, hE, hxl⟩ := HA.out
                obtain ⟨y, hy⟩ : ∃ y, xs[q]? = some y := ⟨_, List.getElem?_eq_getElem (by omega)⟩
                have c1 := H2'.out.2.2.2 _ hk _ _ hy
                have c2 := H2'.out.2.2.2 _ hk _ _ HX.out.1
                have hi25 := wis_any (HW.out.step (HK.out.trans (H2'.out.1.trans hk (fun _ _ x => x)) (fun _ _ x => x))) q
                rw [hE, isW_X hy] at hi25
                have hne : y.1.gone = false → ((y.2 : Int) == (x.2 : Int)) = false := by
                  intro hg
                  rw [beq_eq_false_iff_ne]
                  intro he
                  have := hR.inj q i y x hy HX.out.1 hg HX.out.2 (by omega)
                  omega
                have hbz : b < wr.heap.size := Nat.lt_of_lt_of_le hb (Nat.le_trans H2'.out.1.size hk.size)
                have hqn : q < n := by omega
                clear hS hR hE hxl hk hy
                cases hg : y.1.gone with
                | true =>
                  rw [hg] at hi25
                  clear hne
                  go_wp2_with (go_at_call 25; refine hi25.mono ?_; rintro e w' ⟨rfl, rfl⟩)
                  go_quiet (fail)
                  go_wp2_with fail
                  go_roundg (i - (q + 1))
                  case measure => omega
                  case rel => exact ⟨q + 1, by go_num, by omega, rfl, HK3.out.drewN _⟩
                | false =>
                  rw [hg] at hi25
                  have hne := hne hg
                  go_wp2_with (go_at_call 25; refine hi25.mono ?_; rintro e w' ⟨rfl, rfl⟩)
                  go_quiet (fail)
                  go_wp2_with fail
                  go_roundg (i - (q + 1))
                  case measure => omega
                  case rel => exact ⟨q + 1, by go_num, by omega, rfl, HK3.out.drewN _⟩
              · clear hk
                go_wp2_with fail
                go_roundg (n - (i + 1))
                case measure => omega
                case rel => exact ⟨i + 1, by go_num, by omega, rfl, HK.out.trans (H2'.out.1.trans HK3.out (fun _ _ x => x)) (fun _ _ x => x)⟩
    · clear hW
      go_wp2_with fail
      go_ret
      exact ⟨rfl, HK.out⟩
end Go.Proofs.Ytaklhkghjklkhaa
