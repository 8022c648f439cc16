/-
  Walks: rel.below and its closure. Conditions: normal types.
-/
import Derived.Test.YtbanpohholnkaaaDoorWEach
import Derived.Test.YtbanpohholnkaaaDoorRHeld
namespace Go.Proofs.YtbanpohholnkaaaDoor
open Go.RowKit

def BelOk (l : Bool) (x y : Ty) : Prop := ∀ (w : World) (r r' : Tv), TyV w nX r x → TyV w nX r' y → Calls Tryd.prog 34 #[r.val, r'.val, .bool l] w fun e w' => e = .returned (.bool (belowT l x y)) ∧ Keep (fun _ => False) w w'
theorem TyV.kids2 {w : World} {X : Nat → Prop} {r : Tv} {t x y : Ty} (h : TyV w X r t) (hk : t.kids = [x, y]) : ∃ (q1 q2 : Tv) (b o : Nat), r.Ak = some ⟨b, o, none⟩ ∧ r.nk = 2 ∧ TyV w X q1 x ∧ TyV w X q2 y ∧ b < w.heap.size ∧
    (w.cell? ⟨b, o, none⟩ = some (.int .i64 q1.k) ∧ w.cell? ⟨b, o + 1, none⟩ = some (.string q1.nm) ∧ w.cell? ⟨b, o + 2, none⟩ = some (.slice q1.An q1.nn q1.cn) ∧ w.cell? ⟨b, o + 3, none⟩ = some (.slice q1.Ak q1.nk q1.ck)) ∧
    w.cell? ⟨b, o + 4, none⟩ = some (.int .i64 q2.k) ∧ w.cell? ⟨b, o + 4 + 1, none⟩ = some (.string q2.nm) ∧ w.cell? ⟨b, o + 4 + 2, none⟩ = some (.slice q2.An q2.nn q2.cn) ∧ w.cell? ⟨b, o + 4 + 3, none⟩ = some (.slice q2.Ak q2.nk q2.ck) := by
  obtain ⟨_, hnk, _, _, _⟩ := h.kds
  have h2 : r.nk = 2 := by rw [hnk, hk]; rfl
  obtain ⟨k1, q1, b, o, e1, v1, hA, hb, _, c0, c1, c2, c3⟩ := h.kid (i := 0) (by omega)
  obtain ⟨k2, q2, b', o', e2, v2, hA', _, _, d0, d1, d2, d3⟩ := h.kid (i := 1) (by omega)
  rw [hA] at hA'
  simp only [Option.some.injEq, Addr.mk.injEq, and_true] at hA'
  obtain ⟨rfl, rfl⟩ := hA'
  rw [hk] at e1 e2
  simp only [List.getElem?_cons_zero, List.getElem?_cons_succ, Option.some.injEq] at e1 e2
  subst e1 e2
  exact ⟨q1, q2, b, o, hA, h2, v1, v2, hb, ⟨by simpa using c0, by simpa using c1, by simpa using c2, by simpa using c3⟩, by simpa using d0, by simpa using d1, by simpa using d2, by simpa using d3⟩
/-- What below asks at one name. -/
def belItem (f : Ty → Ty → Bool) (m : Bool × Ty) (x : Ft) : Bool := match kidT m x.1 with | some k => f k x.2 | none => false
def belFun (f : Ty → Ty → Bool) (tag : Nat) (m p : Bool × Ty) : Bool := decide (tag ≠ 5) || match p.2.kids, m.2.kids with | pa :: pb :: _, ma :: mb :: _ => f pa ma && f mb pb | _, _ => false
theorem belP_parts {f : Ty → Ty → Bool} {tag : Nat} {m p : Bool × Ty} : belP f tag m p = (allz (belItem f m) (p.2.names.zip p.2.kids) && belFun f tag m p) := rfl
theorem belP_bad {f : Ty → Ty → Bool} {tag : Nat} {m p : Bool × Ty} {x : Ft} (hx : x ∈ p.2.names.zip p.2.kids) (h : belItem f m x = false) : belP f tag m p = false := by
  rw [belP_parts]
  cases ha : allz (belItem f m) (p.2.names.zip p.2.kids) with
  | false => rfl
  | true =>
    rw [allz_iff.1 ha x hx] at h
    cases h
theorem belP_all {f : Ty → Ty → Bool} {tag : Nat} {m p : Bool × Ty} (h : ∀ x ∈ p.2.names.zip p.2.kids, belItem f m x = true) : belP f tag m p = belFun f tag m p := by
  rw [belP_parts, allz_iff.2 h]
  rfl
theorem take_zip {ns : List ByteArray} {ks : List Ty} {f : Ft → Bool} {i : Nat} {x : Ft} (h : ∀ y ∈ (ns.zip ks).take i, f y = true) (hx : (ns.zip ks)[i]? = some x) (hf : f x = true) : ∀ y ∈ (ns.zip ks).take (i + 1), f y = true := fun y hy => by
  rw [List.take_add_one, hx] at hy
  rcases List.mem_append.1 hy with hy | hy
  · exact h y hy
  · have : y = x := by simpa using hy
    rw [this]
    exact hf
theorem Prt.nlek {t : Ty} {tag : Nat} {m : Bool × Ty} (h : Prt t tag m) (ht : tag < 6) : m.2.names.length ≤ m.2.kids.length := by
  by_cases h5 : tag = 5
  · rw [(h.fun_ h5).1]; exact Nat.zero_le _
  · exact Nat.le_of_eq (h.len (by omega))
def B1A (w : World) (f : Ty → Ty → Bool) (m p : Bool × Ty) (n : Nat) (k : Nat) (v : Value) (wr : World) : Prop :=
  ∃ i : Nat, v = .int .i64 i ∧ i ≤ n ∧ k = n - i ∧ (∀ x ∈ (p.2.names.zip p.2.kids).take i, belItem f m x = true) ∧ Keep (fun _ => False) w wr
set_option maxRecDepth 100000 in
set_option maxHeartbeats 8000000 in
theorem bel1_any {a b : Ty} {tag : Nat} {m p : Bool × Ty} {l : Bool} {w : World} {bm bp cb : Nat} (ht : tag < 6) (hM : Prt a tag m) (hP : Prt b tag p) (hpm : PartAt w nX bm tag m) (hpp : PartAt w nX bp tag p) (hc : At w cb 4 #[.bool l])
    (ih : ∀ x ∈ m.2.kids, ∀ y ∈ p.2.kids, BelOk l x y ∧ BelOk l y x) :
    Calls Tryd.prog 56 #[.pointer (some ⟨bm, 0, none⟩), .pointer (some ⟨bp, 0, none⟩), .pointer (some ⟨cb, 0, none⟩)] w fun e w' => e = .returned (.bool (belP (belowT l) tag m p)) ∧ Keep (fun _ => False) w w' := by
  obtain ⟨⟨mk, mnm, mAn, mnn, mcn, mAk, mnk, mck⟩, hmA, hmV⟩ := hpm
  obtain ⟨⟨pk, pnm, pAn, pnn, pcn, pAk, pnk, pck⟩, hpA, hpV⟩ := hpp
  simp only at hmA hpA
  have hpn := hpV.out.2.2.2.1
  have hpl := hpV.out.2.2.1
  have hpb := hpV.out.1.2.1
  simp only at hpn hpl hpb
  have h0 : Hid (B1A w (belowT l) m p pnn pnn (.int .i64 0) w) := ⟨0, rfl, Nat.zero_le _, rfl, by simp, Keep.refl _ _⟩
  have H := Lib.hid (And.intro hM (And.intro hP (And.intro hmA (And.intro hpA (And.intro hmV (And.intro hpV (And.intro hpn (And.intro hpl (And.intro hc ih)))))))))
  obtain ⟨pl, p0, p1, p2, p3, p4, p5⟩ := hpA.cells6
  clear hM hP hmA hpA hmV hpV hpn hpl hc ih
  go_enter Tryd.func56, Tryd.ntmps56
  go_wp2_with fail
  clear pl p0 p1 p2 p3 p4 p5
  go_loopg [16] pnn (B1A w (belowT l) m p pnn)
  case atStart => exact h0.out
  case round =>
    clear h0
    obtain ⟨i, rfl, hi, rfl, hall, hk⟩ := hrel
    obtain ⟨hM, hP, hmA, hpA, hmV, hpV, hpn, hpl, hc, ih⟩ := H.out
    by_cases hlt : i < pnn
    · have hlen := hP.nlek ht
      obtain ⟨s, hs⟩ : ∃ s, p.2.names[i]? = some s := ⟨_, List.getElem?_eq_getElem (by omega)⟩
      obtain ⟨nb, no, rfl, hnz, _, e0⟩ := (hpn.keep hk (fun _ x => x.elim)).scell hlt hs
      have hik : i < pnk := by
        obtain ⟨_, hnk, _, _, _⟩ := hpV.kds
        simp only at hnk
        omega
      obtain ⟨yt, ⟨yk, ynm, yAn, ynn, ycn, yAk, ynk, yck⟩, yb, yo, hy, hyV, hAk, hyz, _, g0, g1, g2, g3⟩ := (hpV.step hk).kid (i := i) hik
      simp only at hAk g0 g1 g2 g3
      subst hAk
      have hx : (p.2.names.zip p.2.kids)[i]? = some (s, yt) := List.getElem?_zip_eq_some.2 ⟨hs, hy⟩
      have hkd := kid_any (w := wr) (tag := (tag : Int)) (s := s) (q := ⟨mk, mnm, mAn, mnn, mcn, mAk, mnk, mck⟩) (hM.nlek ht) (hmV.step hk)
      have hmA1 := hk.at_ hmA (fun x => x)
      have hpA1 := hk.at_ hpA (fun x => x)
      obtain ⟨al, a0, a1, a2, a3, a4, a5⟩ := hmA1.cells6
      obtain ⟨bl, b0, b1, b2, b3, b4, b5⟩ := hpA1.cells6
      simp only at hkd
      have HK := Lib.hid (And.intro hall (And.intro hk (And.intro hx (And.intro hy hyV))))
      clear hall hk hM hP hmA hpA hmV hpV hpn hpl hc ih hlen hs hx hy hyV hmA1 hpA1
      cases hkt : kidT m s with
      | none =>
        rw [hkt] at hkd
        have HE := Lib.hid (show belItem (belowT l) m (s, yt) = false by unfold belItem; simp only [hkt])
        clear hkt
        go_wp2_with (go_at_call 57; refine hkd.mono ?_; rintro e w2 ⟨⟨⟨zk, znm, zAn, znn, zcn, zAk, znk, zck⟩, he⟩, hk2⟩; simp only [Tv.val] at he; subst he; have K2 := Lib.hid hk2; clear hk2 hkd)
        go_quiet (fail)
        go_wp2_with fail
        go_ret
        exact ⟨ret_bool (belP_bad (List.mem_of_getElem? HK.out.2.2.1) HE.out).symm, (HK.out.2.1.trans K2.out (fun _ _ x => x)).alloc _ |>.drewN _⟩
      | some kd =>
        rw [hkt] at hkd
        have HE := Lib.hid (show belItem (belowT l) m (s, yt) = belowT l kd yt by unfold belItem; simp only [hkt])
        have hmem : kd ∈ m.2.kids := by
          have h1 := H.out.1.found hkt
          exact (List.of_mem_zip h1.1).2
        have hih := (H.out.2.2.2.2.2.2.2.2.2 kd hmem yt (List.mem_of_getElem? HK.out.2.2.2.1)).1
        have HI := Lib.hid hih
        clear hkt hmem hih
        go_wp2_with (go_at_call 57; refine hkd.mono ?_; rintro e w2 ⟨⟨⟨xk, xnm, xAn, xnn, xcn, xAk, xnk, xck⟩, he, hxV⟩, hk2⟩; simp only [Tv.val] at he; subst he; have K2 := Lib.hid (And.intro hk2 hxV); clear hk2 hkd hxV)
        have kal : Keep (fun _ => False) wr (w2.alloc (.cells #[.int .i64 xk, .string xnm, .slice xAn xnn xcn, .slice xAk xnk xck] 25)) := K2.out.1.alloc _
        have akb : At (w2.alloc (.cells #[.int .i64 xk, .string xnm, .slice xAn xnn xcn, .slice xAk xnk xck] 25)) w2.heap.size 25 #[.int .i64 xk, .string xnm, .slice xAn xnn xcn, .slice xAk xnk xck] := At.new _ _ _
        have xv := K2.out.2.step ((Keep.refl (fun _ => False) w2).alloc (.cells #[.int .i64 xk, .string xnm, .slice xAn xnn xcn, .slice xAk xnk xck] 25))
        generalize (w2.alloc (.cells #[.int .i64 xk, .string xnm, .slice xAn xnn xcn, .slice xAk xnk xck] 25)) = w3 at *
        generalize w2.heap.size = kb at *
        have hcb := (HK.out.2.1.trans kal (fun _ _ x => x)).at_ H.out.2.2.2.2.2.2.2.2.1 (fun x => x)
        have hsk : Hid (∀ w', Keep (fun _ => False) w3 w' → (kb < w'.heap.size ∧ bp < w'.heap.size ∧ yb < w'.heap.size ∧ cb < w'.heap.size) ∧ (w'.cell? ⟨kb, 0, none⟩ = some (.int .i64 xk) ∧ w'.cell? ⟨kb, 1, none⟩ = some (.string xnm) ∧ w'.cell? ⟨kb, 2, none⟩ = some (.slice xAn xnn xcn) ∧ w'.cell? ⟨kb, 3, none⟩ = some (.slice xAk xnk xck)) ∧ w'.cell? ⟨bp, 5, none⟩ = some (.slice (some ⟨yb, yo, none⟩) pnk pck) ∧ (w'.cell? ⟨yb, yo + i * 4, none⟩ = some (.int .i64 yk) ∧ w'.cell? ⟨yb, yo + i * 4 + 1, none⟩ = some (.string ynm) ∧ w'.cell? ⟨yb, yo + i * 4 + 2, none⟩ = some (.slice yAn ynn ycn) ∧ w'.cell? ⟨yb, yo + i * 4 + 3, none⟩ = some (.slice yAk ynk yck)) ∧ w'.cell? ⟨cb, 0, none⟩ = some (.bool l)) := fun w' hk => ⟨⟨(hk.at_ akb (fun x => x)).lt, Nat.lt_of_lt_of_le bl (kal.trans hk (fun _ _ x => x)).size, Nat.lt_of_lt_of_le hyz (kal.trans hk (fun _ _ x => x)).size, (hk.at_ hcb (fun x => x)).lt⟩, (hk.at_ akb (fun x => x)).tcells.2, hk.cell (kal.cell b5 (fun x => x)) (fun x => x), ⟨hk.cell (kal.cell g0 (fun x => x)) (fun x => x), hk.cell (kal.cell g1 (fun x => x)) (fun x => x), hk.cell (kal.cell g2 (fun x => x)) (fun x => x), hk.cell (kal.cell g3 (fun x => x)) (fun x => x)⟩, (hk.at_ hcb (fun x => x)).cell 0⟩
        have HKX := Lib.hid (And.intro kal xv)
        have kd3 : Hid (Keep (fun _ => False) w3 w3.drew) := (Keep.refl _ _).drew
        have hbc := HI.out w3.drew ⟨xk, xnm, xAn, xnn, xcn, xAk, xnk, xck⟩ ⟨yk, ynm, yAn, ynn, ycn, yAk, ynk, yck⟩ (xv.step kd3.out) (((HK.out.2.2.2.2).step kal).step kd3.out)
        unfold Tv.val at hbc
        simp only at hbc
        have j0 : (0 : Int) ≤ (i : Int) := by omega
        have j1 : (i : Int) < (pnk : Int) := by omega
        clear kal akb xv hcb al a0 a1 a2 a3 a4 a5 bl b0 b1 b2 b3 b4 b5 g0 g1 g2 g3 hyz e0 hnz
        cases hv : belowT l kd yt
        all_goals rw [hv] at hbc HE
        all_goals clear hv
        · skip
          refine wp_region_held_n (S := fun w' => (kb < w'.heap.size ∧ bp < w'.heap.size ∧ yb < w'.heap.size ∧ cb < w'.heap.size) ∧ (w'.cell? ⟨kb, 0, none⟩ = some (.int .i64 xk) ∧ w'.cell? ⟨kb, 1, none⟩ = some (.string xnm) ∧ w'.cell? ⟨kb, 2, none⟩ = some (.slice xAn xnn xcn) ∧ w'.cell? ⟨kb, 3, none⟩ = some (.slice xAk xnk xck)) ∧ w'.cell? ⟨bp, 5, none⟩ = some (.slice (some ⟨yb, yo, none⟩) pnk pck) ∧ (w'.cell? ⟨yb, yo + i * 4, none⟩ = some (.int .i64 yk) ∧ w'.cell? ⟨yb, yo + i * 4 + 1, none⟩ = some (.string ynm) ∧ w'.cell? ⟨yb, yo + i * 4 + 2, none⟩ = some (.slice yAn ynn ycn) ∧ w'.cell? ⟨yb, yo + i * 4 + 3, none⟩ = some (.slice yAk ynk yck)) ∧ w'.cell? ⟨cb, 0, none⟩ = some (.bool l)) 16 rfl (by kernel_rfl) ?_ (fun hHeld => ?_)
          · exact hsk.out _ kd3.out
          refine' wpAnyH_tk (i := 0) (v := _) rfl (by kernel_rfl) (by decide +kernel) (by decide +kernel) (fun _ _ _ h => h) (Or.inl ⟨by rfl, ?_⟩) (by assumption) ?_
          rotate_left
          · (intro w hSw; (try dsimp only at hSw); (try go_simp); (try (with_reducible rfl)))
          (try simp only [Act.put, List.setIfInBounds_toArray, List.set_cons_zero, List.set_cons_succ])
          refine' wpAnyH_tk (i := 1) (v := _) rfl (by kernel_rfl) (by decide +kernel) (by decide +kernel) (fun _ _ _ h => h) (Or.inl ⟨by rfl, ?_⟩) (by assumption) ?_
          rotate_left
          · (intro w hSw; (try dsimp only at hSw); (try go_simp); (try (with_reducible rfl)))
          (try simp only [Act.put, List.setIfInBounds_toArray, List.set_cons_zero, List.set_cons_succ])
          refine' wpAnyH_tk (i := 2) (v := _) rfl (by kernel_rfl) (by decide +kernel) (by decide +kernel) (fun _ _ _ h => h) (Or.inl ⟨by rfl, ?_⟩) (by assumption) ?_
          rotate_left
          · (intro w hSw; (try dsimp only at hSw); (try go_simp); (try (with_reducible rfl)))
          (try simp only [Act.put, List.setIfInBounds_toArray, List.set_cons_zero, List.set_cons_succ])
          refine' wpAnyH_tk (i := 3) (v := _) rfl (by kernel_rfl) (by decide +kernel) (by decide +kernel) (fun _ _ _ h => h) (Or.inl ⟨by rfl, ?_⟩) (by assumption) ?_
          rotate_left
          · (intro w hSw; (try dsimp only at hSw); (try go_simp); (try (with_reducible rfl)))
          (try simp only [Act.put, List.setIfInBounds_toArray, List.set_cons_zero, List.set_cons_succ])
          refine' wpAnyH_tk (i := 4) (v := _) rfl (by kernel_rfl) (by decide +kernel) (by decide +kernel) (fun _ _ _ h => h) (Or.inl ⟨by rfl, ?_⟩) (by assumption) ?_
          rotate_left
          · (intro w hSw; (try dsimp only at hSw); (try go_simp); (try (with_reducible rfl)))
          (try simp only [Act.put, List.setIfInBounds_toArray, List.set_cons_zero, List.set_cons_succ])
          refine' wpAnyH_tk (i := 5) (v := _) rfl (by kernel_rfl) (by decide +kernel) (by decide +kernel) (fun _ _ _ h => h) (Or.inl ⟨by rfl, ?_⟩) (by assumption) ?_
          rotate_left
          · (intro w hSw; (try dsimp only at hSw); (try go_simp); (try (with_reducible rfl)))
          (try simp only [Act.put, List.setIfInBounds_toArray, List.set_cons_zero, List.set_cons_succ])
          refine' wpAnyH_tk (i := 6) (v := _) rfl (by kernel_rfl) (by decide +kernel) (by decide +kernel) (fun _ _ _ h => h) (Or.inl ⟨by rfl, ?_⟩) (by assumption) ?_
          rotate_left
          · (intro w hSw; (try dsimp only at hSw); (try go_simp); (try (with_reducible rfl)))
          (try simp only [Act.put, List.setIfInBounds_toArray, List.set_cons_zero, List.set_cons_succ])
          refine' wpAnyH_tk (i := 7) (v := _) rfl (by kernel_rfl) (by decide +kernel) (by decide +kernel) (fun _ _ _ h => h) (Or.inl ⟨by rfl, ?_⟩) (by assumption) ?_
          rotate_left
          · (intro w hSw; (try dsimp only at hSw); (try go_simp); (try (with_reducible rfl)))
          (try simp only [Act.put, List.setIfInBounds_toArray, List.set_cons_zero, List.set_cons_succ])
          refine' wpAnyH_tk (i := 8) (v := _) rfl (by kernel_rfl) (by decide +kernel) (by decide +kernel) (fun _ _ _ h => h) (Or.inl ⟨by rfl, ?_⟩) (by assumption) ?_
          rotate_left
          · (intro w hSw; (try dsimp only at hSw); (try go_simp); (try (with_reducible rfl)))
          (try simp only [Act.put, List.setIfInBounds_toArray, List.set_cons_zero, List.set_cons_succ])
          refine' wpAnyH_tk (i := 9) (v := _) rfl (by kernel_rfl) (by decide +kernel) (by decide +kernel) (fun _ _ _ h => h) (Or.inl ⟨by rfl, ?_⟩) (by assumption) ?_
          rotate_left
          · (intro w hSw; (try dsimp only at hSw); (try go_simp); (try (with_reducible rfl)))
          (try simp only [Act.put, List.setIfInBounds_toArray, List.set_cons_zero, List.set_cons_succ])
          refine' wpAnyH_tk (i := 10) (v := _) rfl (by kernel_rfl) (by decide +kernel) (by decide +kernel) (fun _ _ _ h => h) (Or.inl ⟨by rfl, ?_⟩) (by assumption) ?_
          rotate_left
          · (intro w hSw; (try dsimp only at hSw); (try go_simp); (try (with_reducible rfl)))
          (try simp only [Act.put, List.setIfInBounds_toArray, List.set_cons_zero, List.set_cons_succ])
          refine' wpAnyH_tk (i := 11) (v := _) rfl (by kernel_rfl) (by decide +kernel) (by decide +kernel) (fun _ _ _ h => h) (Or.inl ⟨by rfl, ?_⟩) (by assumption) ?_
          rotate_left
          · (intro w hSw; (try dsimp only at hSw); (try go_simp); (try (with_reducible rfl)))
          (try simp only [Act.put, List.setIfInBounds_toArray, List.set_cons_zero, List.set_cons_succ])
          refine' wpAnyH_tk (i := 12) (v := _) rfl (by kernel_rfl) (by decide +kernel) (by decide +kernel) (fun _ _ _ h => h) (Or.inl ⟨by rfl, ?_⟩) (by assumption) ?_
          rotate_left
          · (intro w hSw; (try dsimp only at hSw); (try go_simp); (try (with_reducible rfl)))
          (try simp only [Act.put, List.setIfInBounds_toArray, List.set_cons_zero, List.set_cons_succ])
          refine wpAnyH_ready (rs := [13]) (by decide +kernel) (by simp) ?_
          refine AllReadyH_one rfl (fun K hK => ?_)
          go_simp
          go_at_call 34
          refine hbc.mono ?_
          rintro e w4 ⟨rfl, hk4⟩
          have K4 := Lib.hid (kd3.out.trans hk4 (fun _ _ x => x))
          clear hk4 hbc
          refine hK.out _ _ ?_ (fun hHeld => ?_)
          · exact hsk.out _ K4.out
          clear hK K
          (try simp only [Act.put, List.setIfInBounds_toArray, List.set_cons_zero, List.set_cons_succ])
          refine' wpAnyH_tk (i := 14) (v := _) rfl (by kernel_rfl) (by decide +kernel) (by decide +kernel) (fun _ _ _ h => h) (Or.inl ⟨by rfl, ?_⟩) (by assumption) ?_
          rotate_left
          · (intro w hSw; (try dsimp only at hSw); (try go_simp); (try (with_reducible rfl)))
          (try simp only [Act.put, List.setIfInBounds_toArray, List.set_cons_zero, List.set_cons_succ])
          refine' wpAnyH_tk (i := 15) (v := _) rfl (by kernel_rfl) (by decide +kernel) (by decide +kernel) (fun _ _ _ h => h) (Or.inl ⟨by rfl, ?_⟩) (by assumption) ?_
          rotate_left
          · (intro w hSw; (try dsimp only at hSw); (try go_simp); (try (with_reducible rfl)))
          (try simp only [Act.put, List.setIfInBounds_toArray, List.set_cons_zero, List.set_cons_succ])
          refine wpAnyH_done (by decide +kernel) ?_ _
          go_wp2_with fail
          go_ret
          exact ⟨ret_bool (belP_bad (List.mem_of_getElem? HK.out.2.2.1) HE.out).symm, (HK.out.2.1.trans HKX.out.1 (fun _ _ x => x)).trans K4.out (fun _ _ x => x)⟩
        · skip
          refine wp_region_held_n (S := fun w' => (kb < w'.heap.size ∧ bp < w'.heap.size ∧ yb < w'.heap.size ∧ cb < w'.heap.size) ∧ (w'.cell? ⟨kb, 0, none⟩ = some (.int .i64 xk) ∧ w'.cell? ⟨kb, 1, none⟩ = some (.string xnm) ∧ w'.cell? ⟨kb, 2, none⟩ = some (.slice xAn xnn xcn) ∧ w'.cell? ⟨kb, 3, none⟩ = some (.slice xAk xnk xck)) ∧ w'.cell? ⟨bp, 5, none⟩ = some (.slice (some ⟨yb, yo, none⟩) pnk pck) ∧ (w'.cell? ⟨yb, yo + i * 4, none⟩ = some (.int .i64 yk) ∧ w'.cell? ⟨yb, yo + i * 4 + 1, none⟩ = some (.string ynm) ∧ w'.cell? ⟨yb, yo + i * 4 + 2, none⟩ = some (.slice yAn ynn ycn) ∧ w'.cell? ⟨yb, yo + i * 4 + 3, none⟩ = some (.slice yAk ynk yck)) ∧ w'.cell? ⟨cb, 0, none⟩ = some (.bool l)) 16 rfl (by kernel_rfl) ?_ (fun hHeld => ?_)
          · exact hsk.out _ kd3.out
          refine' wpAnyH_tk (i := 0) (v := _) rfl (by kernel_rfl) (by decide +kernel) (by decide +kernel) (fun _ _ _ h => h) (Or.inl ⟨by rfl, ?_⟩) (by assumption) ?_
          rotate_left
          · (intro w hSw; (try dsimp only at hSw); (try go_simp); (try (with_reducible rfl)))
          (try simp only [Act.put, List.setIfInBounds_toArray, List.set_cons_zero, List.set_cons_succ])
          refine' wpAnyH_tk (i := 1) (v := _) rfl (by kernel_rfl) (by decide +kernel) (by decide +kernel) (fun _ _ _ h => h) (Or.inl ⟨by rfl, ?_⟩) (by assumption) ?_
          rotate_left
          · (intro w hSw; (try dsimp only at hSw); (try go_simp); (try (with_reducible rfl)))
          (try simp only [Act.put, List.setIfInBounds_toArray, List.set_cons_zero, List.set_cons_succ])
          refine' wpAnyH_tk (i := 2) (v := _) rfl (by kernel_rfl) (by decide +kernel) (by decide +kernel) (fun _ _ _ h => h) (Or.inl ⟨by rfl, ?_⟩) (by assumption) ?_
          rotate_left
          · (intro w hSw; (try dsimp only at hSw); (try go_simp); (try (with_reducible rfl)))
          (try simp only [Act.put, List.setIfInBounds_toArray, List.set_cons_zero, List.set_cons_succ])
          refine' wpAnyH_tk (i := 3) (v := _) rfl (by kernel_rfl) (by decide +kernel) (by decide +kernel) (fun _ _ _ h => h) (Or.inl ⟨by rfl, ?_⟩) (by assumption) ?_
          rotate_left
          · (intro w hSw; (try dsimp only at hSw); (try go_simp); (try (with_reducible rfl)))
          (try simp only [Act.put, List.setIfInBounds_toArray, List.set_cons_zero, List.set_cons_succ])
          refine' wpAnyH_tk (i := 4) (v := _) rfl (by kernel_rfl) (by decide +kernel) (by decide +kernel) (fun _ _ _ h => h) (Or.inl ⟨by rfl, ?_⟩) (by assumption) ?_
          rotate_left
          · (intro w hSw; (try dsimp only at hSw); (try go_simp); (try (with_reducible rfl)))
          (try simp only [Act.put, List.setIfInBounds_toArray, List.set_cons_zero, List.set_cons_succ])
          refine' wpAnyH_tk (i := 5) (v := _) rfl (by kernel_rfl) (by decide +kernel) (by decide +kernel) (fun _ _ _ h => h) (Or.inl ⟨by rfl, ?_⟩) (by assumption) ?_
          rotate_left
          · (intro w hSw; (try dsimp only at hSw); (try go_simp); (try (with_reducible rfl)))
          (try simp only [Act.put, List.setIfInBounds_toArray, List.set_cons_zero, List.set_cons_succ])
          refine' wpAnyH_tk (i := 6) (v := _) rfl (by kernel_rfl) (by decide +kernel) (by decide +kernel) (fun _ _ _ h => h) (Or.inl ⟨by rfl, ?_⟩) (by assumption) ?_
          rotate_left
          · (intro w hSw; (try dsimp only at hSw); (try go_simp); (try (with_reducible rfl)))
          (try simp only [Act.put, List.setIfInBounds_toArray, List.set_cons_zero, List.set_cons_succ])
          refine' wpAnyH_tk (i := 7) (v := _) rfl (by kernel_rfl) (by decide +kernel) (by decide +kernel) (fun _ _ _ h => h) (Or.inl ⟨by rfl, ?_⟩) (by assumption) ?_
          rotate_left
          · (intro w hSw; (try dsimp only at hSw); (try go_simp); (try (with_reducible rfl)))
          (try simp only [Act.put, List.setIfInBounds_toArray, List.set_cons_zero, List.set_cons_succ])
          refine' wpAnyH_tk (i := 8) (v := _) rfl (by kernel_rfl) (by decide +kernel) (by decide +kernel) (fun _ _ _ h => h) (Or.inl ⟨by rfl, ?_⟩) (by assumption) ?_
          rotate_left
          · (intro w hSw; (try dsimp only at hSw); (try go_simp); (try (with_reducible rfl)))
          (try simp only [Act.put, List.setIfInBounds_toArray, List.set_cons_zero, List.set_cons_succ])
          refine' wpAnyH_tk (i := 9) (v := _) rfl (by kernel_rfl) (by decide +kernel) (by decide +kernel) (fun _ _ _ h => h) (Or.inl ⟨by rfl, ?_⟩) (by assumption) ?_
          rotate_left
          · (intro w hSw; (try dsimp only at hSw); (try go_simp); (try (with_reducible rfl)))
          (try simp only [Act.put, List.setIfInBounds_toArray, List.set_cons_zero, List.set_cons_succ])
          refine' wpAnyH_tk (i := 10) (v := _) rfl (by kernel_rfl) (by decide +kernel) (by decide +kernel) (fun _ _ _ h => h) (Or.inl ⟨by rfl, ?_⟩) (by assumption) ?_
          rotate_left
          · (intro w hSw; (try dsimp only at hSw); (try go_simp); (try (with_reducible rfl)))
          (try simp only [Act.put, List.setIfInBounds_toArray, List.set_cons_zero, List.set_cons_succ])
          refine' wpAnyH_tk (i := 11) (v := _) rfl (by kernel_rfl) (by decide +kernel) (by decide +kernel) (fun _ _ _ h => h) (Or.inl ⟨by rfl, ?_⟩) (by assumption) ?_
          rotate_left
          · (intro w hSw; (try dsimp only at hSw); (try go_simp); (try (with_reducible rfl)))
          (try simp only [Act.put, List.setIfInBounds_toArray, List.set_cons_zero, List.set_cons_succ])
          refine' wpAnyH_tk (i := 12) (v := _) rfl (by kernel_rfl) (by decide +kernel) (by decide +kernel) (fun _ _ _ h => h) (Or.inl ⟨by rfl, ?_⟩) (by assumption) ?_
          rotate_left
          · (intro w hSw; (try dsimp only at hSw); (try go_simp); (try (with_reducible rfl)))
          (try simp only [Act.put, List.setIfInBounds_toArray, List.set_cons_zero, List.set_cons_succ])
          refine wpAnyH_ready (rs := [13]) (by decide +kernel) (by simp) ?_
          refine AllReadyH_one rfl (fun K hK => ?_)
          go_simp
          go_at_call 34
          refine hbc.mono ?_
          rintro e w4 ⟨rfl, hk4⟩
          have K4 := Lib.hid (kd3.out.trans hk4 (fun _ _ x => x))
          clear hk4 hbc
          refine hK.out _ _ ?_ (fun hHeld => ?_)
          · exact hsk.out _ K4.out
          clear hK K
          (try simp only [Act.put, List.setIfInBounds_toArray, List.set_cons_zero, List.set_cons_succ])
          refine' wpAnyH_tk (i := 14) (v := _) rfl (by kernel_rfl) (by decide +kernel) (by decide +kernel) (fun _ _ _ h => h) (Or.inl ⟨by rfl, ?_⟩) (by assumption) ?_
          rotate_left
          · (intro w hSw; (try dsimp only at hSw); (try go_simp); (try (with_reducible rfl)))
          (try simp only [Act.put, List.setIfInBounds_toArray, List.set_cons_zero, List.set_cons_succ])
          refine' wpAnyH_tk (i := 15) (v := _) rfl (by kernel_rfl) (by decide +kernel) (by decide +kernel) (fun _ _ _ h => h) (Or.inl ⟨by rfl, ?_⟩) (by assumption) ?_
          rotate_left
          · (intro w hSw; (try dsimp only at hSw); (try go_simp); (try (with_reducible rfl)))
          (try simp only [Act.put, List.setIfInBounds_toArray, List.set_cons_zero, List.set_cons_succ])
          refine wpAnyH_done (by decide +kernel) ?_ _
          go_wp2_with fail
          go_roundg (pnn - (i + 1))
          case measure => omega
          case rel => exact ⟨i + 1, by go_num, by omega, rfl, take_zip HK.out.1 HK.out.2.2.1 HE.out, (HK.out.2.1.trans HKX.out.1 (fun _ _ x => x)).trans K4.out (fun _ _ x => x)⟩
    · obtain rfl : i = pnn := by omega
      rw [List.take_of_length_le (by rw [List.length_zip]; omega)] at hall
      have hbel := belP_all (tag := tag) hall
      have hmA1 := hk.at_ hmA (fun x => x)
      have hpA1 := hk.at_ hpA (fun x => x)
      have hcb := hk.at_ hc (fun x => x)
      by_cases h5 : tag = 5
      · subst h5
        obtain ⟨_, ma, mb, hmk, _⟩ := hM.fun_ rfl
        obtain ⟨_, pa, pb, hpk, _⟩ := hP.fun_ rfl
        obtain ⟨⟨uk, unm, uAn, unn, ucn, uAk, unk, uck⟩, ⟨vk, vnm, vAn, vnn, vcn, vAk, vnk, vck⟩, mkb, mko, hmAk, hmn2, huV, hvV, hmz, ⟨u0, u1, u2, u3⟩, v0, v1, v2, v3⟩ := (hmV.step hk).kids2 hmk
        obtain ⟨⟨sk, snm, sAn, snn, scn, sAk, snk, sck⟩, ⟨tk, tnm, tAn, tnn, tcn, tAk, tnk, tck⟩, pkb, pko, hpAk, hpn2, hsV, htV, hpz, ⟨s0, s1, s2, s3⟩, t0, t1, t2, t3⟩ := (hpV.step hk).kids2 hpk
        simp only at hmAk hmn2 hpAk hpn2 u0 u1 u2 u3 v0 v1 v2 v3 s0 s1 s2 s3 t0 t1 t2 t3
        subst hmAk hmn2 hpAk hpn2
        have hfu : belFun (belowT l) 5 m p = (belowT l pa ma && belowT l mb pb) := by unfold belFun; rw [hmk, hpk]; rfl
        rw [hfu] at hbel
        have ihA := (ih ma (by rw [hmk]; simp) pa (by rw [hpk]; simp)).2
        have ihB := (ih mb (by rw [hmk]; simp) pb (by rw [hpk]; simp)).1
        have hsk : Hid (∀ w', Keep (fun _ => False) wr w' → ((bm < w'.heap.size ∧ bp < w'.heap.size ∧ cb < w'.heap.size) ∧ (mkb < w'.heap.size ∧ pkb < w'.heap.size)) ∧ (w'.cell? ⟨bp, 0, none⟩ = some (.int .i64 5) ∧ w'.cell? ⟨bp, 5, none⟩ = some (.slice (some ⟨pkb, pko, none⟩) 2 pck) ∧ w'.cell? ⟨bm, 5, none⟩ = some (.slice (some ⟨mkb, mko, none⟩) 2 mck) ∧ w'.cell? ⟨cb, 0, none⟩ = some (.bool l)) ∧ (w'.cell? ⟨pkb, pko, none⟩ = some (.int .i64 sk) ∧ w'.cell? ⟨pkb, pko + 1, none⟩ = some (.string snm) ∧ w'.cell? ⟨pkb, pko + 2, none⟩ = some (.slice sAn snn scn) ∧ w'.cell? ⟨pkb, pko + 3, none⟩ = some (.slice sAk snk sck)) ∧ (w'.cell? ⟨pkb, pko + 4, none⟩ = some (.int .i64 tk) ∧ w'.cell? ⟨pkb, pko + 4 + 1, none⟩ = some (.string tnm) ∧ w'.cell? ⟨pkb, pko + 4 + 2, none⟩ = some (.slice tAn tnn tcn) ∧ w'.cell? ⟨pkb, pko + 4 + 3, none⟩ = some (.slice tAk tnk tck)) ∧ (w'.cell? ⟨mkb, mko, none⟩ = some (.int .i64 uk) ∧ w'.cell? ⟨mkb, mko + 1, none⟩ = some (.string unm) ∧ w'.cell? ⟨mkb, mko + 2, none⟩ = some (.slice uAn unn ucn) ∧ w'.cell? ⟨mkb, mko + 3, none⟩ = some (.slice uAk unk uck)) ∧ (w'.cell? ⟨mkb, mko + 4, none⟩ = some (.int .i64 vk) ∧ w'.cell? ⟨mkb, mko + 4 + 1, none⟩ = some (.string vnm) ∧ w'.cell? ⟨mkb, mko + 4 + 2, none⟩ = some (.slice vAn vnn vcn) ∧ w'.cell? ⟨mkb, mko + 4 + 3, none⟩ = some (.slice vAk vnk vck))) := fun w' hk' => ⟨⟨⟨(hk'.at_ hmA1 (fun x => x)).lt, (hk'.at_ hpA1 (fun x => x)).lt, (hk'.at_ hcb (fun x => x)).lt⟩, Nat.lt_of_lt_of_le hmz hk'.size, Nat.lt_of_lt_of_le hpz hk'.size⟩, ⟨(hk'.at_ hpA1 (fun x => x)).cell 0, (hk'.at_ hpA1 (fun x => x)).cell 5, (hk'.at_ hmA1 (fun x => x)).cell 5, (hk'.at_ hcb (fun x => x)).cell 0⟩, ⟨hk'.cell s0 (fun x => x), hk'.cell s1 (fun x => x), hk'.cell s2 (fun x => x), hk'.cell s3 (fun x => x)⟩, ⟨hk'.cell t0 (fun x => x), hk'.cell t1 (fun x => x), hk'.cell t2 (fun x => x), hk'.cell t3 (fun x => x)⟩, ⟨hk'.cell u0 (fun x => x), hk'.cell u1 (fun x => x), hk'.cell u2 (fun x => x), hk'.cell u3 (fun x => x)⟩, hk'.cell v0 (fun x => x), hk'.cell v1 (fun x => x), hk'.cell v2 (fun x => x), hk'.cell v3 (fun x => x)⟩
        have kd3 : Hid (Keep (fun _ => False) wr wr.drew) := (Keep.refl _ _).drew
        have hcA := ihA wr.drew ⟨sk, snm, sAn, snn, scn, sAk, snk, sck⟩ ⟨uk, unm, uAn, unn, ucn, uAk, unk, uck⟩ (hsV.step kd3.out) (huV.step kd3.out)
        have hcB := fun (w' : World) (hk' : Keep (fun _ => False) wr w') => ihB w' ⟨vk, vnm, vAn, vnn, vcn, vAk, vnk, vck⟩ ⟨tk, tnm, tAn, tnn, tcn, tAk, tnk, tck⟩ (hvV.step hk') (htV.step hk')
        unfold Tv.val at hcA hcB
        simp only at hcA hcB
        have HE := Lib.hid (And.intro hbel hk)
        have hx := hpn.keep hk (fun _ x => x.elim)
        clear hall hbel hM hP hmA hpA hmV hpV hpn hpl hc ih hmA1 hpA1 hcb hmk hpk huV hvV hsV htV hmz hpz u0 u1 u2 u3 v0 v1 v2 v3 s0 s1 s2 s3 t0 t1 t2 t3 hfu ihA ihB hk hx
        go_wp2_with fail
        cases hv1 : belowT l pa ma
        all_goals rw [hv1] at hcA HE
        all_goals clear hv1
        · clear hcB
          have HCB : Hid True := trivial
          refine wp_region_held_n (S := fun w' => ((bm < w'.heap.size ∧ bp < w'.heap.size ∧ cb < w'.heap.size) ∧ (mkb < w'.heap.size ∧ pkb < w'.heap.size)) ∧ (w'.cell? ⟨bp, 0, none⟩ = some (.int .i64 5) ∧ w'.cell? ⟨bp, 5, none⟩ = some (.slice (some ⟨pkb, pko, none⟩) 2 pck) ∧ w'.cell? ⟨bm, 5, none⟩ = some (.slice (some ⟨mkb, mko, none⟩) 2 mck) ∧ w'.cell? ⟨cb, 0, none⟩ = some (.bool l)) ∧ (w'.cell? ⟨pkb, pko, none⟩ = some (.int .i64 sk) ∧ w'.cell? ⟨pkb, pko + 1, none⟩ = some (.string snm) ∧ w'.cell? ⟨pkb, pko + 2, none⟩ = some (.slice sAn snn scn) ∧ w'.cell? ⟨pkb, pko + 3, none⟩ = some (.slice sAk snk sck)) ∧ (w'.cell? ⟨pkb, pko + 4, none⟩ = some (.int .i64 tk) ∧ w'.cell? ⟨pkb, pko + 4 + 1, none⟩ = some (.string tnm) ∧ w'.cell? ⟨pkb, pko + 4 + 2, none⟩ = some (.slice tAn tnn tcn) ∧ w'.cell? ⟨pkb, pko + 4 + 3, none⟩ = some (.slice tAk tnk tck)) ∧ (w'.cell? ⟨mkb, mko, none⟩ = some (.int .i64 uk) ∧ w'.cell? ⟨mkb, mko + 1, none⟩ = some (.string unm) ∧ w'.cell? ⟨mkb, mko + 2, none⟩ = some (.slice uAn unn ucn) ∧ w'.cell? ⟨mkb, mko + 3, none⟩ = some (.slice uAk unk uck)) ∧ (w'.cell? ⟨mkb, mko + 4, none⟩ = some (.int .i64 vk) ∧ w'.cell? ⟨mkb, mko + 4 + 1, none⟩ = some (.string vnm) ∧ w'.cell? ⟨mkb, mko + 4 + 2, none⟩ = some (.slice vAn vnn vcn) ∧ w'.cell? ⟨mkb, mko + 4 + 3, none⟩ = some (.slice vAk vnk vck))) 42 rfl (by kernel_rfl) ?_ (fun hHeld => ?_)
          · exact hsk.out _ kd3.out
          refine' wpAnyH_tk (i := 0) (v := _) rfl (by kernel_rfl) (by decide +kernel) (by decide +kernel) (fun _ _ _ h => h) (Or.inl ⟨by rfl, ?_⟩) (by assumption) ?_
          rotate_left
          · (intro w hSw; (try dsimp only at hSw); (try go_simp); (try (with_reducible rfl)))
          (try simp only [Act.put, List.setIfInBounds_toArray, List.set_cons_zero, List.set_cons_succ])
          refine' wpAnyH_tk (i := 1) (v := _) rfl (by kernel_rfl) (by decide +kernel) (by decide +kernel) (fun _ _ _ h => h) (Or.inl ⟨by rfl, ?_⟩) (by assumption) ?_
          rotate_left
          · (intro w hSw; (try dsimp only at hSw); (try go_simp); (try (with_reducible rfl)))
          (try simp only [Act.put, List.setIfInBounds_toArray, List.set_cons_zero, List.set_cons_succ])
          refine' wpAnyH_tk (i := 2) (v := _) rfl (by kernel_rfl) (by decide +kernel) (by decide +kernel) (fun _ _ _ h => h) (Or.inl ⟨by rfl, ?_⟩) (by assumption) ?_
          rotate_left
          · (intro w hSw; (try dsimp only at hSw); (try go_simp); (try (with_reducible rfl)))
          (try simp only [Act.put, List.setIfInBounds_toArray, List.set_cons_zero, List.set_cons_succ])
          refine' wpAnyH_tk (i := 3) (v := _) rfl (by kernel_rfl) (by decide +kernel) (by decide +kernel) (fun _ _ _ h => h) (Or.inl ⟨by rfl, ?_⟩) (by assumption) ?_
          rotate_left
          · (intro w hSw; (try dsimp only at hSw); (try go_simp); (try (with_reducible rfl)))
          (try simp only [Act.put, List.setIfInBounds_toArray, List.set_cons_zero, List.set_cons_succ])
          refine' wpAnyH_tk (i := 4) (v := _) rfl (by kernel_rfl) (by decide +kernel) (by decide +kernel) (fun _ _ _ h => h) (Or.inl ⟨by rfl, ?_⟩) (by assumption) ?_
          rotate_left
          · (intro w hSw; (try dsimp only at hSw); (try go_simp); (try (with_reducible rfl)))
          (try simp only [Act.put, List.setIfInBounds_toArray, List.set_cons_zero, List.set_cons_succ])
          refine' wpAnyH_tk (i := 5) (v := _) rfl (by kernel_rfl) (by decide +kernel) (by decide +kernel) (fun _ _ _ h => h) (Or.inl ⟨by rfl, ?_⟩) (by assumption) ?_
          rotate_left
          · (intro w hSw; (try dsimp only at hSw); (try go_simp); (try (with_reducible rfl)))
          (try simp only [Act.put, List.setIfInBounds_toArray, List.set_cons_zero, List.set_cons_succ])
          refine' wpAnyH_tk (i := 6) (v := _) rfl (by kernel_rfl) (by decide +kernel) (by decide +kernel) (fun _ _ _ h => h) (Or.inl ⟨by rfl, ?_⟩) (by assumption) ?_
          rotate_left
          · (intro w hSw; (try dsimp only at hSw); (try go_simp); (try (with_reducible rfl)))
          (try simp only [Act.put, List.setIfInBounds_toArray, List.set_cons_zero, List.set_cons_succ])
          refine' wpAnyH_tk (i := 7) (v := _) rfl (by kernel_rfl) (by decide +kernel) (by decide +kernel) (fun _ _ _ h => h) (Or.inl ⟨by rfl, ?_⟩) (by assumption) ?_
          rotate_left
          · (intro w hSw; (try dsimp only at hSw); (try go_simp); (try (with_reducible rfl)))
          (try simp only [Act.put, List.setIfInBounds_toArray, List.set_cons_zero, List.set_cons_succ])
          refine' wpAnyH_tk (i := 8) (v := _) rfl (by kernel_rfl) (by decide +kernel) (by decide +kernel) (fun _ _ _ h => h) (Or.inl ⟨by rfl, ?_⟩) (by assumption) ?_
          rotate_left
          · (intro w hSw; (try dsimp only at hSw); (try go_simp); (try (with_reducible rfl)))
          (try simp only [Act.put, List.setIfInBounds_toArray, List.set_cons_zero, List.set_cons_succ])
          refine' wpAnyH_tk (i := 9) (v := _) rfl (by kernel_rfl) (by decide +kernel) (by decide +kernel) (fun _ _ _ h => h) (Or.inl ⟨by rfl, ?_⟩) (by assumption) ?_
          rotate_left
          · (intro w hSw; (try dsimp only at hSw); (try go_simp); (try (with_reducible rfl)))
          (try simp only [Act.put, List.setIfInBounds_toArray, List.set_cons_zero, List.set_cons_succ])
          refine' wpAnyH_tk (i := 10) (v := _) rfl (by kernel_rfl) (by decide +kernel) (by decide +kernel) (fun _ _ _ h => h) (Or.inl ⟨by rfl, ?_⟩) (by assumption) ?_
          rotate_left
          · (intro w hSw; (try dsimp only at hSw); (try go_simp); (try (with_reducible rfl)))
          (try simp only [Act.put, List.setIfInBounds_toArray, List.set_cons_zero, List.set_cons_succ])
          refine' wpAnyH_tk (i := 11) (v := _) rfl (by kernel_rfl) (by decide +kernel) (by decide +kernel) (fun _ _ _ h => h) (Or.inl ⟨by rfl, ?_⟩) (by assumption) ?_
          rotate_left
          · (intro w hSw; (try dsimp only at hSw); (try go_simp); (try (with_reducible rfl)))
          (try simp only [Act.put, List.setIfInBounds_toArray, List.set_cons_zero, List.set_cons_succ])
          refine' wpAnyH_tk (i := 12) (v := _) rfl (by kernel_rfl) (by decide +kernel) (by decide +kernel) (fun _ _ _ h => h) (Or.inl ⟨by rfl, ?_⟩) (by assumption) ?_
          rotate_left
          · (intro w hSw; (try dsimp only at hSw); (try go_simp); (try (with_reducible rfl)))
          (try simp only [Act.put, List.setIfInBounds_toArray, List.set_cons_zero, List.set_cons_succ])
          refine' wpAnyH_tk (i := 13) (v := _) rfl (by kernel_rfl) (by decide +kernel) (by decide +kernel) (fun _ _ _ h => h) (Or.inl ⟨by rfl, ?_⟩) (by assumption) ?_
          rotate_left
          · (intro w hSw; (try dsimp only at hSw); (try go_simp); (try (with_reducible rfl)))
          (try simp only [Act.put, List.setIfInBounds_toArray, List.set_cons_zero, List.set_cons_succ])
          refine' wpAnyH_tk (i := 14) (v := _) rfl (by kernel_rfl) (by decide +kernel) (by decide +kernel) (fun _ _ _ h => h) (Or.inl ⟨by rfl, ?_⟩) (by assumption) ?_
          rotate_left
          · (intro w hSw; (try dsimp only at hSw); (try go_simp); (try (with_reducible rfl)))
          (try simp only [Act.put, List.setIfInBounds_toArray, List.set_cons_zero, List.set_cons_succ])
          refine' wpAnyH_tk (i := 15) (v := _) rfl (by kernel_rfl) (by decide +kernel) (by decide +kernel) (fun _ _ _ h => h) (Or.inl ⟨by rfl, ?_⟩) (by assumption) ?_
          rotate_left
          · (intro w hSw; (try dsimp only at hSw); (try go_simp); (try (with_reducible rfl)))
          (try simp only [Act.put, List.setIfInBounds_toArray, List.set_cons_zero, List.set_cons_succ])
          refine' wpAnyH_tk (i := 16) (v := _) rfl (by kernel_rfl) (by decide +kernel) (by decide +kernel) (fun _ _ _ h => h) (Or.inl ⟨by rfl, ?_⟩) (by assumption) ?_
          rotate_left
          · (intro w hSw; (try dsimp only at hSw); (try go_simp); (try (with_reducible rfl)))
          (try simp only [Act.put, List.setIfInBounds_toArray, List.set_cons_zero, List.set_cons_succ])
          refine' wpAnyH_tk (i := 17) (v := _) rfl (by kernel_rfl) (by decide +kernel) (by decide +kernel) (fun _ _ _ h => h) (Or.inl ⟨by rfl, ?_⟩) (by assumption) ?_
          rotate_left
          · (intro w hSw; (try dsimp only at hSw); (try go_simp); (try (with_reducible rfl)))
          (try simp only [Act.put, List.setIfInBounds_toArray, List.set_cons_zero, List.set_cons_succ])
          refine' wpAnyH_tk (i := 18) (v := _) rfl (by kernel_rfl) (by decide +kernel) (by decide +kernel) (fun _ _ _ h => h) (Or.inl ⟨by rfl, ?_⟩) (by assumption) ?_
          rotate_left
          · (intro w hSw; (try dsimp only at hSw); (try go_simp); (try (with_reducible rfl)))
          (try simp only [Act.put, List.setIfInBounds_toArray, List.set_cons_zero, List.set_cons_succ])
          refine' wpAnyH_tk (i := 19) (v := _) rfl (by kernel_rfl) (by decide +kernel) (by decide +kernel) (fun _ _ _ h => h) (Or.inl ⟨by rfl, ?_⟩) (by assumption) ?_
          rotate_left
          · (intro w hSw; (try dsimp only at hSw); (try go_simp); (try (with_reducible rfl)))
          (try simp only [Act.put, List.setIfInBounds_toArray, List.set_cons_zero, List.set_cons_succ])
          refine' wpAnyH_tk (i := 20) (v := _) rfl (by kernel_rfl) (by decide +kernel) (by decide +kernel) (fun _ _ _ h => h) (Or.inl ⟨by rfl, ?_⟩) (by assumption) ?_
          rotate_left
          · (intro w hSw; (try dsimp only at hSw); (try go_simp); (try (with_reducible rfl)))
          (try simp only [Act.put, List.setIfInBounds_toArray, List.set_cons_zero, List.set_cons_succ])
          refine wpAnyH_ready (rs := [21]) (by decide +kernel) (by simp) ?_
          refine AllReadyH_one rfl (fun K hK => ?_)
          go_simp
          go_at_call 34
          refine hcA.mono ?_
          rintro e w4 ⟨rfl, hk4⟩
          have KA := Lib.hid (kd3.out.trans hk4 (fun _ _ x => x))
          clear hk4 hcA
          refine hK.out _ _ ?_ (fun hHeld => ?_)
          · exact hsk.out _ KA.out
          clear hK K
          (try simp only [Act.put, List.setIfInBounds_toArray, List.set_cons_zero, List.set_cons_succ])
          refine' wpAnyH_tk (i := 22) (v := _) rfl (by kernel_rfl) (by decide +kernel) (by decide +kernel) (fun _ _ _ h => h) (Or.inl ⟨by rfl, ?_⟩) (by assumption) ?_
          rotate_left
          · (intro w hSw; (try dsimp only at hSw); (try go_simp); (try (with_reducible rfl)))
          (try simp only [Act.put, List.setIfInBounds_toArray, List.set_cons_zero, List.set_cons_succ])
          refine wpAnyH_tk (i := 23) (v := undef) rfl (by kernel_rfl) (by decide +kernel) (by decide +kernel) (fun _ _ _ h => h) (Or.inr ⟨by rfl, rfl⟩) (by assumption) ?_
          (try simp only [Act.put, List.setIfInBounds_toArray, List.set_cons_zero, List.set_cons_succ])
          refine wpAnyH_tk (i := 24) (v := undef) rfl (by kernel_rfl) (by decide +kernel) (by decide +kernel) (fun _ _ _ h => h) (Or.inr ⟨by rfl, rfl⟩) (by assumption) ?_
          (try simp only [Act.put, List.setIfInBounds_toArray, List.set_cons_zero, List.set_cons_succ])
          refine wpAnyH_tk (i := 25) (v := undef) rfl (by kernel_rfl) (by decide +kernel) (by decide +kernel) (fun _ _ _ h => h) (Or.inr ⟨by rfl, rfl⟩) (by assumption) ?_
          (try simp only [Act.put, List.setIfInBounds_toArray, List.set_cons_zero, List.set_cons_succ])
          refine wpAnyH_tk (i := 26) (v := undef) rfl (by kernel_rfl) (by decide +kernel) (by decide +kernel) (fun _ _ _ h => h) (Or.inr ⟨by rfl, rfl⟩) (by assumption) ?_
          (try simp only [Act.put, List.setIfInBounds_toArray, List.set_cons_zero, List.set_cons_succ])
          refine wpAnyH_tk (i := 27) (v := undef) rfl (by kernel_rfl) (by decide +kernel) (by decide +kernel) (fun _ _ _ h => h) (Or.inr ⟨by rfl, rfl⟩) (by assumption) ?_
          (try simp only [Act.put, List.setIfInBounds_toArray, List.set_cons_zero, List.set_cons_succ])
          refine wpAnyH_tk (i := 28) (v := undef) rfl (by kernel_rfl) (by decide +kernel) (by decide +kernel) (fun _ _ _ h => h) (Or.inr ⟨by rfl, rfl⟩) (by assumption) ?_
          (try simp only [Act.put, List.setIfInBounds_toArray, List.set_cons_zero, List.set_cons_succ])
          refine wpAnyH_tk (i := 29) (v := undef) rfl (by kernel_rfl) (by decide +kernel) (by decide +kernel) (fun _ _ _ h => h) (Or.inr ⟨by rfl, rfl⟩) (by assumption) ?_
          (try simp only [Act.put, List.setIfInBounds_toArray, List.set_cons_zero, List.set_cons_succ])
          refine wpAnyH_tk (i := 30) (v := undef) rfl (by kernel_rfl) (by decide +kernel) (by decide +kernel) (fun _ _ _ h => h) (Or.inr ⟨by rfl, rfl⟩) (by assumption) ?_
          (try simp only [Act.put, List.setIfInBounds_toArray, List.set_cons_zero, List.set_cons_succ])
          refine wpAnyH_tk (i := 31) (v := undef) rfl (by kernel_rfl) (by decide +kernel) (by decide +kernel) (fun _ _ _ h => h) (Or.inr ⟨by rfl, rfl⟩) (by assumption) ?_
          (try simp only [Act.put, List.setIfInBounds_toArray, List.set_cons_zero, List.set_cons_succ])
          refine wpAnyH_tk (i := 32) (v := undef) rfl (by kernel_rfl) (by decide +kernel) (by decide +kernel) (fun _ _ _ h => h) (Or.inr ⟨by rfl, rfl⟩) (by assumption) ?_
          (try simp only [Act.put, List.setIfInBounds_toArray, List.set_cons_zero, List.set_cons_succ])
          refine wpAnyH_tk (i := 33) (v := undef) rfl (by kernel_rfl) (by decide +kernel) (by decide +kernel) (fun _ _ _ h => h) (Or.inr ⟨by rfl, rfl⟩) (by assumption) ?_
          (try simp only [Act.put, List.setIfInBounds_toArray, List.set_cons_zero, List.set_cons_succ])
          refine wpAnyH_tk (i := 34) (v := undef) rfl (by kernel_rfl) (by decide +kernel) (by decide +kernel) (fun _ _ _ h => h) (Or.inr ⟨by rfl, rfl⟩) (by assumption) ?_
          (try simp only [Act.put, List.setIfInBounds_toArray, List.set_cons_zero, List.set_cons_succ])
          refine wpAnyH_tk (i := 35) (v := undef) rfl (by kernel_rfl) (by decide +kernel) (by decide +kernel) (fun _ _ _ h => h) (Or.inr ⟨by rfl, rfl⟩) (by assumption) ?_
          (try simp only [Act.put, List.setIfInBounds_toArray, List.set_cons_zero, List.set_cons_succ])
          refine wpAnyH_tk (i := 36) (v := undef) rfl (by kernel_rfl) (by decide +kernel) (by decide +kernel) (fun _ _ _ h => h) (Or.inr ⟨by rfl, rfl⟩) (by assumption) ?_
          (try simp only [Act.put, List.setIfInBounds_toArray, List.set_cons_zero, List.set_cons_succ])
          refine wpAnyH_tk (i := 37) (v := undef) rfl (by kernel_rfl) (by decide +kernel) (by decide +kernel) (fun _ _ _ h => h) (Or.inr ⟨by rfl, rfl⟩) (by assumption) ?_
          (try simp only [Act.put, List.setIfInBounds_toArray, List.set_cons_zero, List.set_cons_succ])
          refine wpAnyH_tk (i := 38) (v := undef) rfl (by kernel_rfl) (by decide +kernel) (by decide +kernel) (fun _ _ _ h => h) (Or.inr ⟨by rfl, rfl⟩) (by assumption) ?_
          (try simp only [Act.put, List.setIfInBounds_toArray, List.set_cons_zero, List.set_cons_succ])
          refine' wpAnyH_tk (i := 39) (v := _) rfl (by kernel_rfl) (by decide +kernel) (by decide +kernel) (fun _ _ _ h => h) (Or.inl ⟨by rfl, ?_⟩) (by assumption) ?_
          rotate_left
          · (intro w hSw; (try dsimp only at hSw); (try go_simp); (try (with_reducible rfl)))
          (try simp only [Act.put, List.setIfInBounds_toArray, List.set_cons_zero, List.set_cons_succ])
          refine' wpAnyH_tk (i := 40) (v := _) rfl (by kernel_rfl) (by decide +kernel) (by decide +kernel) (fun _ _ _ h => h) (Or.inl ⟨by rfl, ?_⟩) (by assumption) ?_
          rotate_left
          · (intro w hSw; (try dsimp only at hSw); (try go_simp); (try (with_reducible rfl)))
          (try simp only [Act.put, List.setIfInBounds_toArray, List.set_cons_zero, List.set_cons_succ])
          refine' wpAnyH_tk (i := 41) (v := _) rfl (by kernel_rfl) (by decide +kernel) (by decide +kernel) (fun _ _ _ h => h) (Or.inl ⟨by rfl, ?_⟩) (by assumption) ?_
          rotate_left
          · (intro w hSw; (try dsimp only at hSw); (try go_simp); (try (with_reducible rfl)))
          (try simp only [Act.put, List.setIfInBounds_toArray, List.set_cons_zero, List.set_cons_succ])
          refine wpAnyH_done (by decide +kernel) ?_ _
          go_wp2_with fail
          go_ret
          exact ⟨ret_bool HE.out.1.symm, HE.out.2.trans KA.out (fun _ _ x => x)⟩
        · cases hv2 : belowT l mb pb
          all_goals rw [hv2] at hcB HE
          all_goals clear hv2
          all_goals have HCB := Lib.hid hcB
          all_goals clear hcB
          · skip
            refine wp_region_held_n (S := fun w' => ((bm < w'.heap.size ∧ bp < w'.heap.size ∧ cb < w'.heap.size) ∧ (mkb < w'.heap.size ∧ pkb < w'.heap.size)) ∧ (w'.cell? ⟨bp, 0, none⟩ = some (.int .i64 5) ∧ w'.cell? ⟨bp, 5, none⟩ = some (.slice (some ⟨pkb, pko, none⟩) 2 pck) ∧ w'.cell? ⟨bm, 5, none⟩ = some (.slice (some ⟨mkb, mko, none⟩) 2 mck) ∧ w'.cell? ⟨cb, 0, none⟩ = some (.bool l)) ∧ (w'.cell? ⟨pkb, pko, none⟩ = some (.int .i64 sk) ∧ w'.cell? ⟨pkb, pko + 1, none⟩ = some (.string snm) ∧ w'.cell? ⟨pkb, pko + 2, none⟩ = some (.slice sAn snn scn) ∧ w'.cell? ⟨pkb, pko + 3, none⟩ = some (.slice sAk snk sck)) ∧ (w'.cell? ⟨pkb, pko + 4, none⟩ = some (.int .i64 tk) ∧ w'.cell? ⟨pkb, pko + 4 + 1, none⟩ = some (.string tnm) ∧ w'.cell? ⟨pkb, pko + 4 + 2, none⟩ = some (.slice tAn tnn tcn) ∧ w'.cell? ⟨pkb, pko + 4 + 3, none⟩ = some (.slice tAk tnk tck)) ∧ (w'.cell? ⟨mkb, mko, none⟩ = some (.int .i64 uk) ∧ w'.cell? ⟨mkb, mko + 1, none⟩ = some (.string unm) ∧ w'.cell? ⟨mkb, mko + 2, none⟩ = some (.slice uAn unn ucn) ∧ w'.cell? ⟨mkb, mko + 3, none⟩ = some (.slice uAk unk uck)) ∧ (w'.cell? ⟨mkb, mko + 4, none⟩ = some (.int .i64 vk) ∧ w'.cell? ⟨mkb, mko + 4 + 1, none⟩ = some (.string vnm) ∧ w'.cell? ⟨mkb, mko + 4 + 2, none⟩ = some (.slice vAn vnn vcn) ∧ w'.cell? ⟨mkb, mko + 4 + 3, none⟩ = some (.slice vAk vnk vck))) 42 rfl (by kernel_rfl) ?_ (fun hHeld => ?_)
            · exact hsk.out _ kd3.out
            refine' wpAnyH_tk (i := 0) (v := _) rfl (by kernel_rfl) (by decide +kernel) (by decide +kernel) (fun _ _ _ h => h) (Or.inl ⟨by rfl, ?_⟩) (by assumption) ?_
            rotate_left
            · (intro w hSw; (try dsimp only at hSw); (try go_simp); (try (with_reducible rfl)))
            (try simp only [Act.put, List.setIfInBounds_toArray, List.set_cons_zero, List.set_cons_succ])
            refine' wpAnyH_tk (i := 1) (v := _) rfl (by kernel_rfl) (by decide +kernel) (by decide +kernel) (fun _ _ _ h => h) (Or.inl ⟨by rfl, ?_⟩) (by assumption) ?_
            rotate_left
            · (intro w hSw; (try dsimp only at hSw); (try go_simp); (try (with_reducible rfl)))
            (try simp only [Act.put, List.setIfInBounds_toArray, List.set_cons_zero, List.set_cons_succ])
            refine' wpAnyH_tk (i := 2) (v := _) rfl (by kernel_rfl) (by decide +kernel) (by decide +kernel) (fun _ _ _ h => h) (Or.inl ⟨by rfl, ?_⟩) (by assumption) ?_
            rotate_left
            · (intro w hSw; (try dsimp only at hSw); (try go_simp); (try (with_reducible rfl)))
            (try simp only [Act.put, List.setIfInBounds_toArray, List.set_cons_zero, List.set_cons_succ])
            refine' wpAnyH_tk (i := 3) (v := _) rfl (by kernel_rfl) (by decide +kernel) (by decide +kernel) (fun _ _ _ h => h) (Or.inl ⟨by rfl, ?_⟩) (by assumption) ?_
            rotate_left
            · (intro w hSw; (try dsimp only at hSw); (try go_simp); (try (with_reducible rfl)))
            (try simp only [Act.put, List.setIfInBounds_toArray, List.set_cons_zero, List.set_cons_succ])
            refine' wpAnyH_tk (i := 4) (v := _) rfl (by kernel_rfl) (by decide +kernel) (by decide +kernel) (fun _ _ _ h => h) (Or.inl ⟨by rfl, ?_⟩) (by assumption) ?_
            rotate_left
            · (intro w hSw; (try dsimp only at hSw); (try go_simp); (try (with_reducible rfl)))
            (try simp only [Act.put, List.setIfInBounds_toArray, List.set_cons_zero, List.set_cons_succ])
            refine' wpAnyH_tk (i := 5) (v := _) rfl (by kernel_rfl) (by decide +kernel) (by decide +kernel) (fun _ _ _ h => h) (Or.inl ⟨by rfl, ?_⟩) (by assumption) ?_
            rotate_left
            · (intro w hSw; (try dsimp only at hSw); (try go_simp); (try (with_reducible rfl)))
            (try simp only [Act.put, List.setIfInBounds_toArray, List.set_cons_zero, List.set_cons_succ])
            refine' wpAnyH_tk (i := 6) (v := _) rfl (by kernel_rfl) (by decide +kernel) (by decide +kernel) (fun _ _ _ h => h) (Or.inl ⟨by rfl, ?_⟩) (by assumption) ?_
            rotate_left
            · (intro w hSw; (try dsimp only at hSw); (try go_simp); (try (with_reducible rfl)))
            (try simp only [Act.put, List.setIfInBounds_toArray, List.set_cons_zero, List.set_cons_succ])
            refine' wpAnyH_tk (i := 7) (v := _) rfl (by kernel_rfl) (by decide +kernel) (by decide +kernel) (fun _ _ _ h => h) (Or.inl ⟨by rfl, ?_⟩) (by assumption) ?_
            rotate_left
            · (intro w hSw; (try dsimp only at hSw); (try go_simp); (try (with_reducible rfl)))
            (try simp only [Act.put, List.setIfInBounds_toArray, List.set_cons_zero, List.set_cons_succ])
            refine' wpAnyH_tk (i := 8) (v := _) rfl (by kernel_rfl) (by decide +kernel) (by decide +kernel) (fun _ _ _ h => h) (Or.inl ⟨by rfl, ?_⟩) (by assumption) ?_
            rotate_left
            · (intro w hSw; (try dsimp only at hSw); (try go_simp); (try (with_reducible rfl)))
            (try simp only [Act.put, List.setIfInBounds_toArray, List.set_cons_zero, List.set_cons_succ])
            refine' wpAnyH_tk (i := 9) (v := _) rfl (by kernel_rfl) (by decide +kernel) (by decide +kernel) (fun _ _ _ h => h) (Or.inl ⟨by rfl, ?_⟩) (by assumption) ?_
            rotate_left
            · (intro w hSw; (try dsimp only at hSw); (try go_simp); (try (with_reducible rfl)))
            (try simp only [Act.put, List.setIfInBounds_toArray, List.set_cons_zero, List.set_cons_succ])
            refine' wpAnyH_tk (i := 10) (v := _) rfl (by kernel_rfl) (by decide +kernel) (by decide +kernel) (fun _ _ _ h => h) (Or.inl ⟨by rfl, ?_⟩) (by assumption) ?_
            rotate_left
            · (intro w hSw; (try dsimp only at hSw); (try go_simp); (try (with_reducible rfl)))
            (try simp only [Act.put, List.setIfInBounds_toArray, List.set_cons_zero, List.set_cons_succ])
            refine' wpAnyH_tk (i := 11) (v := _) rfl (by kernel_rfl) (by decide +kernel) (by decide +kernel) (fun _ _ _ h => h) (Or.inl ⟨by rfl, ?_⟩) (by assumption) ?_
            rotate_left
            · (intro w hSw; (try dsimp only at hSw); (try go_simp); (try (with_reducible rfl)))
            (try simp only [Act.put, List.setIfInBounds_toArray, List.set_cons_zero, List.set_cons_succ])
            refine' wpAnyH_tk (i := 12) (v := _) rfl (by kernel_rfl) (by decide +kernel) (by decide +kernel) (fun _ _ _ h => h) (Or.inl ⟨by rfl, ?_⟩) (by assumption) ?_
            rotate_left
            · (intro w hSw; (try dsimp only at hSw); (try go_simp); (try (with_reducible rfl)))
            (try simp only [Act.put, List.setIfInBounds_toArray, List.set_cons_zero, List.set_cons_succ])
            refine' wpAnyH_tk (i := 13) (v := _) rfl (by kernel_rfl) (by decide +kernel) (by decide +kernel) (fun _ _ _ h => h) (Or.inl ⟨by rfl, ?_⟩) (by assumption) ?_
            rotate_left
            · (intro w hSw; (try dsimp only at hSw); (try go_simp); (try (with_reducible rfl)))
            (try simp only [Act.put, List.setIfInBounds_toArray, List.set_cons_zero, List.set_cons_succ])
            refine' wpAnyH_tk (i := 14) (v := _) rfl (by kernel_rfl) (by decide +kernel) (by decide +kernel) (fun _ _ _ h => h) (Or.inl ⟨by rfl, ?_⟩) (by assumption) ?_
            rotate_left
            · (intro w hSw; (try dsimp only at hSw); (try go_simp); (try (with_reducible rfl)))
            (try simp only [Act.put, List.setIfInBounds_toArray, List.set_cons_zero, List.set_cons_succ])
            refine' wpAnyH_tk (i := 15) (v := _) rfl (by kernel_rfl) (by decide +kernel) (by decide +kernel) (fun _ _ _ h => h) (Or.inl ⟨by rfl, ?_⟩) (by assumption) ?_
            rotate_left
            · (intro w hSw; (try dsimp only at hSw); (try go_simp); (try (with_reducible rfl)))
            (try simp only [Act.put, List.setIfInBounds_toArray, List.set_cons_zero, List.set_cons_succ])
            refine' wpAnyH_tk (i := 16) (v := _) rfl (by kernel_rfl) (by decide +kernel) (by decide +kernel) (fun _ _ _ h => h) (Or.inl ⟨by rfl, ?_⟩) (by assumption) ?_
            rotate_left
            · (intro w hSw; (try dsimp only at hSw); (try go_simp); (try (with_reducible rfl)))
            (try simp only [Act.put, List.setIfInBounds_toArray, List.set_cons_zero, List.set_cons_succ])
            refine' wpAnyH_tk (i := 17) (v := _) rfl (by kernel_rfl) (by decide +kernel) (by decide +kernel) (fun _ _ _ h => h) (Or.inl ⟨by rfl, ?_⟩) (by assumption) ?_
            rotate_left
            · (intro w hSw; (try dsimp only at hSw); (try go_simp); (try (with_reducible rfl)))
            (try simp only [Act.put, List.setIfInBounds_toArray, List.set_cons_zero, List.set_cons_succ])
            refine' wpAnyH_tk (i := 18) (v := _) rfl (by kernel_rfl) (by decide +kernel) (by decide +kernel) (fun _ _ _ h => h) (Or.inl ⟨by rfl, ?_⟩) (by assumption) ?_
            rotate_left
            · (intro w hSw; (try dsimp only at hSw); (try go_simp); (try (with_reducible rfl)))
            (try simp only [Act.put, List.setIfInBounds_toArray, List.set_cons_zero, List.set_cons_succ])
            refine' wpAnyH_tk (i := 19) (v := _) rfl (by kernel_rfl) (by decide +kernel) (by decide +kernel) (fun _ _ _ h => h) (Or.inl ⟨by rfl, ?_⟩) (by assumption) ?_
            rotate_left
            · (intro w hSw; (try dsimp only at hSw); (try go_simp); (try (with_reducible rfl)))
            (try simp only [Act.put, List.setIfInBounds_toArray, List.set_cons_zero, List.set_cons_succ])
            refine' wpAnyH_tk (i := 20) (v := _) rfl (by kernel_rfl) (by decide +kernel) (by decide +kernel) (fun _ _ _ h => h) (Or.inl ⟨by rfl, ?_⟩) (by assumption) ?_
            rotate_left
            · (intro w hSw; (try dsimp only at hSw); (try go_simp); (try (with_reducible rfl)))
            (try simp only [Act.put, List.setIfInBounds_toArray, List.set_cons_zero, List.set_cons_succ])
            refine wpAnyH_ready (rs := [21]) (by decide +kernel) (by simp) ?_
            refine AllReadyH_one rfl (fun K hK => ?_)
            go_simp
            go_at_call 34
            refine hcA.mono ?_
            rintro e w4 ⟨rfl, hk4⟩
            have KA := Lib.hid (kd3.out.trans hk4 (fun _ _ x => x))
            clear hk4 hcA
            refine hK.out _ _ ?_ (fun hHeld => ?_)
            · exact hsk.out _ KA.out
            clear hK K
            (try simp only [Act.put, List.setIfInBounds_toArray, List.set_cons_zero, List.set_cons_succ])
            refine' wpAnyH_tk (i := 22) (v := _) rfl (by kernel_rfl) (by decide +kernel) (by decide +kernel) (fun _ _ _ h => h) (Or.inl ⟨by rfl, ?_⟩) (by assumption) ?_
            rotate_left
            · (intro w hSw; (try dsimp only at hSw); (try go_simp); (try (with_reducible rfl)))
            (try simp only [Act.put, List.setIfInBounds_toArray, List.set_cons_zero, List.set_cons_succ])
            refine' wpAnyH_tk (i := 23) (v := _) rfl (by kernel_rfl) (by decide +kernel) (by decide +kernel) (fun _ _ _ h => h) (Or.inl ⟨by rfl, ?_⟩) (by assumption) ?_
            rotate_left
            · (intro w hSw; (try dsimp only at hSw); (try go_simp); (try (with_reducible rfl)))
            (try simp only [Act.put, List.setIfInBounds_toArray, List.set_cons_zero, List.set_cons_succ])
            refine' wpAnyH_tk (i := 24) (v := _) rfl (by kernel_rfl) (by decide +kernel) (by decide +kernel) (fun _ _ _ h => h) (Or.inl ⟨by rfl, ?_⟩) (by assumption) ?_
            rotate_left
            · (intro w hSw; (try dsimp only at hSw); (try go_simp); (try (with_reducible rfl)))
            (try simp only [Act.put, List.setIfInBounds_toArray, List.set_cons_zero, List.set_cons_succ])
            refine' wpAnyH_tk (i := 25) (v := _) rfl (by kernel_rfl) (by decide +kernel) (by decide +kernel) (fun _ _ _ h => h) (Or.inl ⟨by rfl, ?_⟩) (by assumption) ?_
            rotate_left
            · (intro w hSw; (try dsimp only at hSw); (try go_simp); (try (with_reducible rfl)))
            (try simp only [Act.put, List.setIfInBounds_toArray, List.set_cons_zero, List.set_cons_succ])
            refine' wpAnyH_tk (i := 26) (v := _) rfl (by kernel_rfl) (by decide +kernel) (by decide +kernel) (fun _ _ _ h => h) (Or.inl ⟨by rfl, ?_⟩) (by assumption) ?_
            rotate_left
            · (intro w hSw; (try dsimp only at hSw); (try go_simp); (try (with_reducible rfl)))
            (try simp only [Act.put, List.setIfInBounds_toArray, List.set_cons_zero, List.set_cons_succ])
            refine' wpAnyH_tk (i := 27) (v := _) rfl (by kernel_rfl) (by decide +kernel) (by decide +kernel) (fun _ _ _ h => h) (Or.inl ⟨by rfl, ?_⟩) (by assumption) ?_
            rotate_left
            · (intro w hSw; (try dsimp only at hSw); (try go_simp); (try (with_reducible rfl)))
            (try simp only [Act.put, List.setIfInBounds_toArray, List.set_cons_zero, List.set_cons_succ])
            refine' wpAnyH_tk (i := 28) (v := _) rfl (by kernel_rfl) (by decide +kernel) (by decide +kernel) (fun _ _ _ h => h) (Or.inl ⟨by rfl, ?_⟩) (by assumption) ?_
            rotate_left
            · (intro w hSw; (try dsimp only at hSw); (try go_simp); (try (with_reducible rfl)))
            (try simp only [Act.put, List.setIfInBounds_toArray, List.set_cons_zero, List.set_cons_succ])
            refine' wpAnyH_tk (i := 29) (v := _) rfl (by kernel_rfl) (by decide +kernel) (by decide +kernel) (fun _ _ _ h => h) (Or.inl ⟨by rfl, ?_⟩) (by assumption) ?_
            rotate_left
            · (intro w hSw; (try dsimp only at hSw); (try go_simp); (try (with_reducible rfl)))
            (try simp only [Act.put, List.setIfInBounds_toArray, List.set_cons_zero, List.set_cons_succ])
            refine' wpAnyH_tk (i := 30) (v := _) rfl (by kernel_rfl) (by decide +kernel) (by decide +kernel) (fun _ _ _ h => h) (Or.inl ⟨by rfl, ?_⟩) (by assumption) ?_
            rotate_left
            · (intro w hSw; (try dsimp only at hSw); (try go_simp); (try (with_reducible rfl)))
            (try simp only [Act.put, List.setIfInBounds_toArray, List.set_cons_zero, List.set_cons_succ])
            refine' wpAnyH_tk (i := 31) (v := _) rfl (by kernel_rfl) (by decide +kernel) (by decide +kernel) (fun _ _ _ h => h) (Or.inl ⟨by rfl, ?_⟩) (by assumption) ?_
            rotate_left
            · (intro w hSw; (try dsimp only at hSw); (try go_simp); (try (with_reducible rfl)))
            (try simp only [Act.put, List.setIfInBounds_toArray, List.set_cons_zero, List.set_cons_succ])
            refine' wpAnyH_tk (i := 32) (v := _) rfl (by kernel_rfl) (by decide +kernel) (by decide +kernel) (fun _ _ _ h => h) (Or.inl ⟨by rfl, ?_⟩) (by assumption) ?_
            rotate_left
            · (intro w hSw; (try dsimp only at hSw); (try go_simp); (try (with_reducible rfl)))
            (try simp only [Act.put, List.setIfInBounds_toArray, List.set_cons_zero, List.set_cons_succ])
            refine' wpAnyH_tk (i := 33) (v := _) rfl (by kernel_rfl) (by decide +kernel) (by decide +kernel) (fun _ _ _ h => h) (Or.inl ⟨by rfl, ?_⟩) (by assumption) ?_
            rotate_left
            · (intro w hSw; (try dsimp only at hSw); (try go_simp); (try (with_reducible rfl)))
            (try simp only [Act.put, List.setIfInBounds_toArray, List.set_cons_zero, List.set_cons_succ])
            refine' wpAnyH_tk (i := 34) (v := _) rfl (by kernel_rfl) (by decide +kernel) (by decide +kernel) (fun _ _ _ h => h) (Or.inl ⟨by rfl, ?_⟩) (by assumption) ?_
            rotate_left
            · (intro w hSw; (try dsimp only at hSw); (try go_simp); (try (with_reducible rfl)))
            (try simp only [Act.put, List.setIfInBounds_toArray, List.set_cons_zero, List.set_cons_succ])
            refine' wpAnyH_tk (i := 35) (v := _) rfl (by kernel_rfl) (by decide +kernel) (by decide +kernel) (fun _ _ _ h => h) (Or.inl ⟨by rfl, ?_⟩) (by assumption) ?_
            rotate_left
            · (intro w hSw; (try dsimp only at hSw); (try go_simp); (try (with_reducible rfl)))
            (try simp only [Act.put, List.setIfInBounds_toArray, List.set_cons_zero, List.set_cons_succ])
            refine' wpAnyH_tk (i := 36) (v := _) rfl (by kernel_rfl) (by decide +kernel) (by decide +kernel) (fun _ _ _ h => h) (Or.inl ⟨by rfl, ?_⟩) (by assumption) ?_
            rotate_left
            · (intro w hSw; (try dsimp only at hSw); (try go_simp); (try (with_reducible rfl)))
            (try simp only [Act.put, List.setIfInBounds_toArray, List.set_cons_zero, List.set_cons_succ])
            refine' wpAnyH_tk (i := 37) (v := _) rfl (by kernel_rfl) (by decide +kernel) (by decide +kernel) (fun _ _ _ h => h) (Or.inl ⟨by rfl, ?_⟩) (by assumption) ?_
            rotate_left
            · (intro w hSw; (try dsimp only at hSw); (try go_simp); (try (with_reducible rfl)))
            (try simp only [Act.put, List.setIfInBounds_toArray, List.set_cons_zero, List.set_cons_succ])
            refine wpAnyH_ready (rs := [38]) (by decide +kernel) (by simp) ?_
            refine AllReadyH_one rfl (fun K hK => ?_)
            go_simp
            go_at_call 34
            refine (HCB.out _ KA.out).mono ?_
            rintro e w5 ⟨rfl, hk5⟩
            have KB := Lib.hid (KA.out.trans hk5 (fun _ _ x => x))
            clear hk5
            refine hK.out _ _ ?_ (fun hHeld => ?_)
            · exact hsk.out _ KB.out
            clear hK K
            (try simp only [Act.put, List.setIfInBounds_toArray, List.set_cons_zero, List.set_cons_succ])
            refine' wpAnyH_tk (i := 39) (v := _) rfl (by kernel_rfl) (by decide +kernel) (by decide +kernel) (fun _ _ _ h => h) (Or.inl ⟨by rfl, ?_⟩) (by assumption) ?_
            rotate_left
            · (intro w hSw; (try dsimp only at hSw); (try go_simp); (try (with_reducible rfl)))
            (try simp only [Act.put, List.setIfInBounds_toArray, List.set_cons_zero, List.set_cons_succ])
            refine' wpAnyH_tk (i := 40) (v := _) rfl (by kernel_rfl) (by decide +kernel) (by decide +kernel) (fun _ _ _ h => h) (Or.inl ⟨by rfl, ?_⟩) (by assumption) ?_
            rotate_left
            · (intro w hSw; (try dsimp only at hSw); (try go_simp); (try (with_reducible rfl)))
            (try simp only [Act.put, List.setIfInBounds_toArray, List.set_cons_zero, List.set_cons_succ])
            refine' wpAnyH_tk (i := 41) (v := _) rfl (by kernel_rfl) (by decide +kernel) (by decide +kernel) (fun _ _ _ h => h) (Or.inl ⟨by rfl, ?_⟩) (by assumption) ?_
            rotate_left
            · (intro w hSw; (try dsimp only at hSw); (try go_simp); (try (with_reducible rfl)))
            (try simp only [Act.put, List.setIfInBounds_toArray, List.set_cons_zero, List.set_cons_succ])
            refine wpAnyH_done (by decide +kernel) ?_ _
            go_wp2_with fail
            go_ret
            exact ⟨ret_bool HE.out.1.symm, HE.out.2.trans KB.out (fun _ _ x => x)⟩
          · skip
            refine wp_region_held_n (S := fun w' => ((bm < w'.heap.size ∧ bp < w'.heap.size ∧ cb < w'.heap.size) ∧ (mkb < w'.heap.size ∧ pkb < w'.heap.size)) ∧ (w'.cell? ⟨bp, 0, none⟩ = some (.int .i64 5) ∧ w'.cell? ⟨bp, 5, none⟩ = some (.slice (some ⟨pkb, pko, none⟩) 2 pck) ∧ w'.cell? ⟨bm, 5, none⟩ = some (.slice (some ⟨mkb, mko, none⟩) 2 mck) ∧ w'.cell? ⟨cb, 0, none⟩ = some (.bool l)) ∧ (w'.cell? ⟨pkb, pko, none⟩ = some (.int .i64 sk) ∧ w'.cell? ⟨pkb, pko + 1, none⟩ = some (.string snm) ∧ w'.cell? ⟨pkb, pko + 2, none⟩ = some (.slice sAn snn scn) ∧ w'.cell? ⟨pkb, pko + 3, none⟩ = some (.slice sAk snk sck)) ∧ (w'.cell? ⟨pkb, pko + 4, none⟩ = some (.int .i64 tk) ∧ w'.cell? ⟨pkb, pko + 4 + 1, none⟩ = some (.string tnm) ∧ w'.cell? ⟨pkb, pko + 4 + 2, none⟩ = some (.slice tAn tnn tcn) ∧ w'.cell? ⟨pkb, pko + 4 + 3, none⟩ = some (.slice tAk tnk tck)) ∧ (w'.cell? ⟨mkb, mko, none⟩ = some (.int .i64 uk) ∧ w'.cell? ⟨mkb, mko + 1, none⟩ = some (.string unm) ∧ w'.cell? ⟨mkb, mko + 2, none⟩ = some (.slice uAn unn ucn) ∧ w'.cell? ⟨mkb, mko + 3, none⟩ = some (.slice uAk unk uck)) ∧ (w'.cell? ⟨mkb, mko + 4, none⟩ = some (.int .i64 vk) ∧ w'.cell? ⟨mkb, mko + 4 + 1, none⟩ = some (.string vnm) ∧ w'.cell? ⟨mkb, mko + 4 + 2, none⟩ = some (.slice vAn vnn vcn) ∧ w'.cell? ⟨mkb, mko + 4 + 3, none⟩ = some (.slice vAk vnk vck))) 42 rfl (by kernel_rfl) ?_ (fun hHeld => ?_)
            · exact hsk.out _ kd3.out
            refine' wpAnyH_tk (i := 0) (v := _) rfl (by kernel_rfl) (by decide +kernel) (by decide +kernel) (fun _ _ _ h => h) (Or.inl ⟨by rfl, ?_⟩) (by assumption) ?_
            rotate_left
            · (intro w hSw; (try dsimp only at hSw); (try go_simp); (try (with_reducible rfl)))
            (try simp only [Act.put, List.setIfInBounds_toArray, List.set_cons_zero, List.set_cons_succ])
            refine' wpAnyH_tk (i := 1) (v := _) rfl (by kernel_rfl) (by decide +kernel) (by decide +kernel) (fun _ _ _ h => h) (Or.inl ⟨by rfl, ?_⟩) (by assumption) ?_
            rotate_left
            · (intro w hSw; (try dsimp only at hSw); (try go_simp); (try (with_reducible rfl)))
            (try simp only [Act.put, List.setIfInBounds_toArray, List.set_cons_zero, List.set_cons_succ])
            refine' wpAnyH_tk (i := 2) (v := _) rfl (by kernel_rfl) (by decide +kernel) (by decide +kernel) (fun _ _ _ h => h) (Or.inl ⟨by rfl, ?_⟩) (by assumption) ?_
            rotate_left
            · (intro w hSw; (try dsimp only at hSw); (try go_simp); (try (with_reducible rfl)))
            (try simp only [Act.put, List.setIfInBounds_toArray, List.set_cons_zero, List.set_cons_succ])
            refine' wpAnyH_tk (i := 3) (v := _) rfl (by kernel_rfl) (by decide +kernel) (by decide +kernel) (fun _ _ _ h => h) (Or.inl ⟨by rfl, ?_⟩) (by assumption) ?_
            rotate_left
            · (intro w hSw; (try dsimp only at hSw); (try go_simp); (try (with_reducible rfl)))
            (try simp only [Act.put, List.setIfInBounds_toArray, List.set_cons_zero, List.set_cons_succ])
            refine' wpAnyH_tk (i := 4) (v := _) rfl (by kernel_rfl) (by decide +kernel) (by decide +kernel) (fun _ _ _ h => h) (Or.inl ⟨by rfl, ?_⟩) (by assumption) ?_
            rotate_left
            · (intro w hSw; (try dsimp only at hSw); (try go_simp); (try (with_reducible rfl)))
            (try simp only [Act.put, List.setIfInBounds_toArray, List.set_cons_zero, List.set_cons_succ])
            refine' wpAnyH_tk (i := 5) (v := _) rfl (by kernel_rfl) (by decide +kernel) (by decide +kernel) (fun _ _ _ h => h) (Or.inl ⟨by rfl, ?_⟩) (by assumption) ?_
            rotate_left
            · (intro w hSw; (try dsimp only at hSw); (try go_simp); (try (with_reducible rfl)))
            (try simp only [Act.put, List.setIfInBounds_toArray, List.set_cons_zero, List.set_cons_succ])
            refine' wpAnyH_tk (i := 6) (v := _) rfl (by kernel_rfl) (by decide +kernel) (by decide +kernel) (fun _ _ _ h => h) (Or.inl ⟨by rfl, ?_⟩) (by assumption) ?_
            rotate_left
            · (intro w hSw; (try dsimp only at hSw); (try go_simp); (try (with_reducible rfl)))
            (try simp only [Act.put, List.setIfInBounds_toArray, List.set_cons_zero, List.set_cons_succ])
            refine' wpAnyH_tk (i := 7) (v := _) rfl (by kernel_rfl) (by decide +kernel) (by decide +kernel) (fun _ _ _ h => h) (Or.inl ⟨by rfl, ?_⟩) (by assumption) ?_
            rotate_left
            · (intro w hSw; (try dsimp only at hSw); (try go_simp); (try (with_reducible rfl)))
            (try simp only [Act.put, List.setIfInBounds_toArray, List.set_cons_zero, List.set_cons_succ])
            refine' wpAnyH_tk (i := 8) (v := _) rfl (by kernel_rfl) (by decide +kernel) (by decide +kernel) (fun _ _ _ h => h) (Or.inl ⟨by rfl, ?_⟩) (by assumption) ?_
            rotate_left
            · (intro w hSw; (try dsimp only at hSw); (try go_simp); (try (with_reducible rfl)))
            (try simp only [Act.put, List.setIfInBounds_toArray, List.set_cons_zero, List.set_cons_succ])
            refine' wpAnyH_tk (i := 9) (v := _) rfl (by kernel_rfl) (by decide +kernel) (by decide +kernel) (fun _ _ _ h => h) (Or.inl ⟨by rfl, ?_⟩) (by assumption) ?_
            rotate_left
            · (intro w hSw; (try dsimp only at hSw); (try go_simp); (try (with_reducible rfl)))
            (try simp only [Act.put, List.setIfInBounds_toArray, List.set_cons_zero, List.set_cons_succ])
            refine' wpAnyH_tk (i := 10) (v := _) rfl (by kernel_rfl) (by decide +kernel) (by decide +kernel) (fun _ _ _ h => h) (Or.inl ⟨by rfl, ?_⟩) (by assumption) ?_
            rotate_left
            · (intro w hSw; (try dsimp only at hSw); (try go_simp); (try (with_reducible rfl)))
            (try simp only [Act.put, List.setIfInBounds_toArray, List.set_cons_zero, List.set_cons_succ])
            refine' wpAnyH_tk (i := 11) (v := _) rfl (by kernel_rfl) (by decide +kernel) (by decide +kernel) (fun _ _ _ h => h) (Or.inl ⟨by rfl, ?_⟩) (by assumption) ?_
            rotate_left
            · (intro w hSw; (try dsimp only at hSw); (try go_simp); (try (with_reducible rfl)))
            (try simp only [Act.put, List.setIfInBounds_toArray, List.set_cons_zero, List.set_cons_succ])
            refine' wpAnyH_tk (i := 12) (v := _) rfl (by kernel_rfl) (by decide +kernel) (by decide +kernel) (fun _ _ _ h => h) (Or.inl ⟨by rfl, ?_⟩) (by assumption) ?_
            rotate_left
            · (intro w hSw; (try dsimp only at hSw); (try go_simp); (try (with_reducible rfl)))
            (try simp only [Act.put, List.setIfInBounds_toArray, List.set_cons_zero, List.set_cons_succ])
            refine' wpAnyH_tk (i := 13) (v := _) rfl (by kernel_rfl) (by decide +kernel) (by decide +kernel) (fun _ _ _ h => h) (Or.inl ⟨by rfl, ?_⟩) (by assumption) ?_
            rotate_left
            · (intro w hSw; (try dsimp only at hSw); (try go_simp); (try (with_reducible rfl)))
            (try simp only [Act.put, List.setIfInBounds_toArray, List.set_cons_zero, List.set_cons_succ])
            refine' wpAnyH_tk (i := 14) (v := _) rfl (by kernel_rfl) (by decide +kernel) (by decide +kernel) (fun _ _ _ h => h) (Or.inl ⟨by rfl, ?_⟩) (by assumption) ?_
            rotate_left
            · (intro w hSw; (try dsimp only at hSw); (try go_simp); (try (with_reducible rfl)))
            (try simp only [Act.put, List.setIfInBounds_toArray, List.set_cons_zero, List.set_cons_succ])
            refine' wpAnyH_tk (i := 15) (v := _) rfl (by kernel_rfl) (by decide +kernel) (by decide +kernel) (fun _ _ _ h => h) (Or.inl ⟨by rfl, ?_⟩) (by assumption) ?_
            rotate_left
            · (intro w hSw; (try dsimp only at hSw); (try go_simp); (try (with_reducible rfl)))
            (try simp only [Act.put, List.setIfInBounds_toArray, List.set_cons_zero, List.set_cons_succ])
            refine' wpAnyH_tk (i := 16) (v := _) rfl (by kernel_rfl) (by decide +kernel) (by decide +kernel) (fun _ _ _ h => h) (Or.inl ⟨by rfl, ?_⟩) (by assumption) ?_
            rotate_left
            · (intro w hSw; (try dsimp only at hSw); (try go_simp); (try (with_reducible rfl)))
            (try simp only [Act.put, List.setIfInBounds_toArray, List.set_cons_zero, List.set_cons_succ])
            refine' wpAnyH_tk (i := 17) (v := _) rfl (by kernel_rfl) (by decide +kernel) (by decide +kernel) (fun _ _ _ h => h) (Or.inl ⟨by rfl, ?_⟩) (by assumption) ?_
            rotate_left
            · (intro w hSw; (try dsimp only at hSw); (try go_simp); (try (with_reducible rfl)))
            (try simp only [Act.put, List.setIfInBounds_toArray, List.set_cons_zero, List.set_cons_succ])
            refine' wpAnyH_tk (i := 18) (v := _) rfl (by kernel_rfl) (by decide +kernel) (by decide +kernel) (fun _ _ _ h => h) (Or.inl ⟨by rfl, ?_⟩) (by assumption) ?_
            rotate_left
            · (intro w hSw; (try dsimp only at hSw); (try go_simp); (try (with_reducible rfl)))
            (try simp only [Act.put, List.setIfInBounds_toArray, List.set_cons_zero, List.set_cons_succ])
            refine' wpAnyH_tk (i := 19) (v := _) rfl (by kernel_rfl) (by decide +kernel) (by decide +kernel) (fun _ _ _ h => h) (Or.inl ⟨by rfl, ?_⟩) (by assumption) ?_
            rotate_left
            · (intro w hSw; (try dsimp only at hSw); (try go_simp); (try (with_reducible rfl)))
            (try simp only [Act.put, List.setIfInBounds_toArray, List.set_cons_zero, List.set_cons_succ])
            refine' wpAnyH_tk (i := 20) (v := _) rfl (by kernel_rfl) (by decide +kernel) (by decide +kernel) (fun _ _ _ h => h) (Or.inl ⟨by rfl, ?_⟩) (by assumption) ?_
            rotate_left
            · (intro w hSw; (try dsimp only at hSw); (try go_simp); (try (with_reducible rfl)))
            (try simp only [Act.put, List.setIfInBounds_toArray, List.set_cons_zero, List.set_cons_succ])
            refine wpAnyH_ready (rs := [21]) (by decide +kernel) (by simp) ?_
            refine AllReadyH_one rfl (fun K hK => ?_)
            go_simp
            go_at_call 34
            refine hcA.mono ?_
            rintro e w4 ⟨rfl, hk4⟩
            have KA := Lib.hid (kd3.out.trans hk4 (fun _ _ x => x))
            clear hk4 hcA
            refine hK.out _ _ ?_ (fun hHeld => ?_)
            · exact hsk.out _ KA.out
            clear hK K
            (try simp only [Act.put, List.setIfInBounds_toArray, List.set_cons_zero, List.set_cons_succ])
            refine' wpAnyH_tk (i := 22) (v := _) rfl (by kernel_rfl) (by decide +kernel) (by decide +kernel) (fun _ _ _ h => h) (Or.inl ⟨by rfl, ?_⟩) (by assumption) ?_
            rotate_left
            · (intro w hSw; (try dsimp only at hSw); (try go_simp); (try (with_reducible rfl)))
            (try simp only [Act.put, List.setIfInBounds_toArray, List.set_cons_zero, List.set_cons_succ])
            refine' wpAnyH_tk (i := 23) (v := _) rfl (by kernel_rfl) (by decide +kernel) (by decide +kernel) (fun _ _ _ h => h) (Or.inl ⟨by rfl, ?_⟩) (by assumption) ?_
            rotate_left
            · (intro w hSw; (try dsimp only at hSw); (try go_simp); (try (with_reducible rfl)))
            (try simp only [Act.put, List.setIfInBounds_toArray, List.set_cons_zero, List.set_cons_succ])
            refine' wpAnyH_tk (i := 24) (v := _) rfl (by kernel_rfl) (by decide +kernel) (by decide +kernel) (fun _ _ _ h => h) (Or.inl ⟨by rfl, ?_⟩) (by assumption) ?_
            rotate_left
            · (intro w hSw; (try dsimp only at hSw); (try go_simp); (try (with_reducible rfl)))
            (try simp only [Act.put, List.setIfInBounds_toArray, List.set_cons_zero, List.set_cons_succ])
            refine' wpAnyH_tk (i := 25) (v := _) rfl (by kernel_rfl) (by decide +kernel) (by decide +kernel) (fun _ _ _ h => h) (Or.inl ⟨by rfl, ?_⟩) (by assumption) ?_
            rotate_left
            · (intro w hSw; (try dsimp only at hSw); (try go_simp); (try (with_reducible rfl)))
            (try simp only [Act.put, List.setIfInBounds_toArray, List.set_cons_zero, List.set_cons_succ])
            refine' wpAnyH_tk (i := 26) (v := _) rfl (by kernel_rfl) (by decide +kernel) (by decide +kernel) (fun _ _ _ h => h) (Or.inl ⟨by rfl, ?_⟩) (by assumption) ?_
            rotate_left
            · (intro w hSw; (try dsimp only at hSw); (try go_simp); (try (with_reducible rfl)))
            (try simp only [Act.put, List.setIfInBounds_toArray, List.set_cons_zero, List.set_cons_succ])
            refine' wpAnyH_tk (i := 27) (v := _) rfl (by kernel_rfl) (by decide +kernel) (by decide +kernel) (fun _ _ _ h => h) (Or.inl ⟨by rfl, ?_⟩) (by assumption) ?_
            rotate_left
            · (intro w hSw; (try dsimp only at hSw); (try go_simp); (try (with_reducible rfl)))
            (try simp only [Act.put, List.setIfInBounds_toArray, List.set_cons_zero, List.set_cons_succ])
            refine' wpAnyH_tk (i := 28) (v := _) rfl (by kernel_rfl) (by decide +kernel) (by decide +kernel) (fun _ _ _ h => h) (Or.inl ⟨by rfl, ?_⟩) (by assumption) ?_
            rotate_left
            · (intro w hSw; (try dsimp only at hSw); (try go_simp); (try (with_reducible rfl)))
            (try simp only [Act.put, List.setIfInBounds_toArray, List.set_cons_zero, List.set_cons_succ])
            refine' wpAnyH_tk (i := 29) (v := _) rfl (by kernel_rfl) (by decide +kernel) (by decide +kernel) (fun _ _ _ h => h) (Or.inl ⟨by rfl, ?_⟩) (by assumption) ?_
            rotate_left
            · (intro w hSw; (try dsimp only at hSw); (try go_simp); (try (with_reducible rfl)))
            (try simp only [Act.put, List.setIfInBounds_toArray, List.set_cons_zero, List.set_cons_succ])
            refine' wpAnyH_tk (i := 30) (v := _) rfl (by kernel_rfl) (by decide +kernel) (by decide +kernel) (fun _ _ _ h => h) (Or.inl ⟨by rfl, ?_⟩) (by assumption) ?_
            rotate_left
            · (intro w hSw; (try dsimp only at hSw); (try go_simp); (try (with_reducible rfl)))
            (try simp only [Act.put, List.setIfInBounds_toArray, List.set_cons_zero, List.set_cons_succ])
            refine' wpAnyH_tk (i := 31) (v := _) rfl (by kernel_rfl) (by decide +kernel) (by decide +kernel) (fun _ _ _ h => h) (Or.inl ⟨by rfl, ?_⟩) (by assumption) ?_
            rotate_left
            · (intro w hSw; (try dsimp only at hSw); (try go_simp); (try (with_reducible rfl)))
            (try simp only [Act.put, List.setIfInBounds_toArray, List.set_cons_zero, List.set_cons_succ])
            refine' wpAnyH_tk (i := 32) (v := _) rfl (by kernel_rfl) (by decide +kernel) (by decide +kernel) (fun _ _ _ h => h) (Or.inl ⟨by rfl, ?_⟩) (by assumption) ?_
            rotate_left
            · (intro w hSw; (try dsimp only at hSw); (try go_simp); (try (with_reducible rfl)))
            (try simp only [Act.put, List.setIfInBounds_toArray, List.set_cons_zero, List.set_cons_succ])
            refine' wpAnyH_tk (i := 33) (v := _) rfl (by kernel_rfl) (by decide +kernel) (by decide +kernel) (fun _ _ _ h => h) (Or.inl ⟨by rfl, ?_⟩) (by assumption) ?_
            rotate_left
            · (intro w hSw; (try dsimp only at hSw); (try go_simp); (try (with_reducible rfl)))
            (try simp only [Act.put, List.setIfInBounds_toArray, List.set_cons_zero, List.set_cons_succ])
            refine' wpAnyH_tk (i := 34) (v := _) rfl (by kernel_rfl) (by decide +kernel) (by decide +kernel) (fun _ _ _ h => h) (Or.inl ⟨by rfl, ?_⟩) (by assumption) ?_
            rotate_left
            · (intro w hSw; (try dsimp only at hSw); (try go_simp); (try (with_reducible rfl)))
            (try simp only [Act.put, List.setIfInBounds_toArray, List.set_cons_zero, List.set_cons_succ])
            refine' wpAnyH_tk (i := 35) (v := _) rfl (by kernel_rfl) (by decide +kernel) (by decide +kernel) (fun _ _ _ h => h) (Or.inl ⟨by rfl, ?_⟩) (by assumption) ?_
            rotate_left
            · (intro w hSw; (try dsimp only at hSw); (try go_simp); (try (with_reducible rfl)))
            (try simp only [Act.put, List.setIfInBounds_toArray, List.set_cons_zero, List.set_cons_succ])
            refine' wpAnyH_tk (i := 36) (v := _) rfl (by kernel_rfl) (by decide +kernel) (by decide +kernel) (fun _ _ _ h => h) (Or.inl ⟨by rfl, ?_⟩) (by assumption) ?_
            rotate_left
            · (intro w hSw; (try dsimp only at hSw); (try go_simp); (try (with_reducible rfl)))
            (try simp only [Act.put, List.setIfInBounds_toArray, List.set_cons_zero, List.set_cons_succ])
            refine' wpAnyH_tk (i := 37) (v := _) rfl (by kernel_rfl) (by decide +kernel) (by decide +kernel) (fun _ _ _ h => h) (Or.inl ⟨by rfl, ?_⟩) (by assumption) ?_
            rotate_left
            · (intro w hSw; (try dsimp only at hSw); (try go_simp); (try (with_reducible rfl)))
            (try simp only [Act.put, List.setIfInBounds_toArray, List.set_cons_zero, List.set_cons_succ])
            refine wpAnyH_ready (rs := [38]) (by decide +kernel) (by simp) ?_
            refine AllReadyH_one rfl (fun K hK => ?_)
            go_simp
            go_at_call 34
            refine (HCB.out _ KA.out).mono ?_
            rintro e w5 ⟨rfl, hk5⟩
            have KB := Lib.hid (KA.out.trans hk5 (fun _ _ x => x))
            clear hk5
            refine hK.out _ _ ?_ (fun hHeld => ?_)
            · exact hsk.out _ KB.out
            clear hK K
            (try simp only [Act.put, List.setIfInBounds_toArray, List.set_cons_zero, List.set_cons_succ])
            refine' wpAnyH_tk (i := 39) (v := _) rfl (by kernel_rfl) (by decide +kernel) (by decide +kernel) (fun _ _ _ h => h) (Or.inl ⟨by rfl, ?_⟩) (by assumption) ?_
            rotate_left
            · (intro w hSw; (try dsimp only at hSw); (try go_simp); (try (with_reducible rfl)))
            (try simp only [Act.put, List.setIfInBounds_toArray, List.set_cons_zero, List.set_cons_succ])
            refine' wpAnyH_tk (i := 40) (v := _) rfl (by kernel_rfl) (by decide +kernel) (by decide +kernel) (fun _ _ _ h => h) (Or.inl ⟨by rfl, ?_⟩) (by assumption) ?_
            rotate_left
            · (intro w hSw; (try dsimp only at hSw); (try go_simp); (try (with_reducible rfl)))
            (try simp only [Act.put, List.setIfInBounds_toArray, List.set_cons_zero, List.set_cons_succ])
            refine' wpAnyH_tk (i := 41) (v := _) rfl (by kernel_rfl) (by decide +kernel) (by decide +kernel) (fun _ _ _ h => h) (Or.inl ⟨by rfl, ?_⟩) (by assumption) ?_
            rotate_left
            · (intro w hSw; (try dsimp only at hSw); (try go_simp); (try (with_reducible rfl)))
            (try simp only [Act.put, List.setIfInBounds_toArray, List.set_cons_zero, List.set_cons_succ])
            refine wpAnyH_done (by decide +kernel) ?_ _
            go_wp2_with fail
            go_ret
            exact ⟨ret_bool HE.out.1.symm, HE.out.2.trans KB.out (fun _ _ x => x)⟩
      · have hfu : belFun (belowT l) tag m p = true := by unfold belFun; simp [h5]
        rw [hfu] at hbel
        obtain ⟨bl, b0, b1, b2, b3, b4, b5⟩ := hpA1.cells6
        have d5 : ((tag : Int) != 5) = true := by simp; omega
        have HE := Lib.hid (And.intro hbel hk)
        clear hall hbel hM hP hmA hpA hmV hpV hpn hpl hc ih hmA1 hpA1 hcb hfu hk h5
        go_wp2_with fail
        go_quiet (fail)
        go_wp2_with fail
        go_ret
        exact ⟨ret_bool HE.out.1.symm, HE.out.2.drewN _⟩
end Go.Proofs.YtbanpohholnkaaaDoor
