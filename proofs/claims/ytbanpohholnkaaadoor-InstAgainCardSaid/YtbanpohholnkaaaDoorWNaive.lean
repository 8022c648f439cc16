/-
  Walks: slices.EqualFunc of naive, rel.naive and its closure. Conditions: normal types.
-/
import Derived.Test.YtbanpohholnkaaaDoorWBelow2
namespace Go.Proofs.YtbanpohholnkaaaDoor
open Go.RowKit

def NaiOk (x y : Ty) : Prop := ∀ (w : World) (r r' : Tv), TyV w nX r x → TyV w nX r' y → Calls Tryd.prog 36 #[r.val, r'.val] w fun e w' => e = .returned (.bool (naiveT x y)) ∧ Keep (fun _ => False) w w'
def naiL (l l' : List Ty) : Bool := decide (l.length = l'.length) && allz (fun x => naiveT x.1 x.2) (l.zip l')
theorem naiL_bad {l l' : List Ty} {x : Ty × Ty} (hx : x ∈ l.zip l') (h : naiveT x.1 x.2 = false) : naiL l l' = false := by
  unfold naiL
  cases ha : allz (fun x => naiveT x.1 x.2) (l.zip l') with
  | false => simp
  | true =>
    have := allz_iff.1 ha x hx
    rw [h] at this
    cases this
def EqnA (w : World) (l l' : List Ty) (n : Nat) (k : Nat) (b : Value) (wr : World) : Prop :=
  ∃ i : Nat, b = .int .i64 i ∧ i ≤ n ∧ k = n - i ∧ (∀ x ∈ (l.zip l').take i, naiveT x.1 x.2 = true) ∧ Keep (fun _ => False) w wr
set_option maxHeartbeats 2000000 in
theorem eqnai_any {w : World} {X Y : Nat → Prop} {A A' : Option Addr} {n n' c c' : Nat} {l l' : List Ty} {rs rs' : List Tv} (hb : n ≤ 140737488355328) (h : Rd w nX 4 (.slice A n c) n (tflat rs)) (h' : Rd w nX 4 (.slice A' n' c') n' (tflat rs')) (hv : TysV w nX rs l) (hv' : TysV w nX rs' l')
    (hf : ∀ k ∈ l, ∀ k' ∈ l', NaiOk k k') :
    Calls Tryd.prog 61 #[.slice A n c, .slice A' n' c', .func (.func 36) #[] #[]] w fun e w' => e = .returned (.bool (naiL l l')) ∧ Keep (fun _ => False) w w' := by
  have hl := hv.len
  have hl' := hv'.len
  have hn := h.nlen
  have hn' := h'.nlen
  by_cases hnn : n = n'
  · subst hnn
    have hzl : (l.zip l').length = n := by rw [List.length_zip]; omega
    have HH := Lib.hid (And.intro h (And.intro h' (And.intro hv (And.intro hv' hf))))
    have HL := Lib.hid (And.intro hl (And.intro hl' (And.intro hn (And.intro hn' hzl))))
    have h0 : Hid (EqnA w l l' n n (.int .i64 0) w) := ⟨0, rfl, Nat.zero_le _, rfl, by simp, Keep.refl _ _⟩
    clear h h' hv hv' hf hl hl' hn hn' hzl
    go_enter Tryd.func61, Tryd.ntmps61
    go_wp2
    go_loopg [17] n (EqnA w l l' n)
    case atStart => exact h0.out
    case round =>
      clear h0
      obtain ⟨i, rfl, hi, rfl, ht, hk⟩ := hrel
      by_cases hlt : i < n
      · obtain ⟨s, hs⟩ : ∃ s, l[i]? = some s := ⟨_, List.getElem?_eq_getElem (by have := HL.out; omega)⟩
        obtain ⟨s', hs'⟩ : ∃ s', l'[i]? = some s' := ⟨_, List.getElem?_eq_getElem (by have := HL.out; omega)⟩
        obtain ⟨q, hq, hqv⟩ := (HH.out.2.2.1.step hk).at_ hs
        obtain ⟨q', hq', hqv'⟩ := (HH.out.2.2.2.1.step hk).at_ hs'
        obtain ⟨b, o, rfl, hbz, _, c0, c1, c2, c3⟩ := (HH.out.1.keep hk (fun _ x => x.elim)).tcells hlt hq
        obtain ⟨b', o', rfl, hbz', _, c0', c1', c2', c3'⟩ := (HH.out.2.1.keep hk (fun _ x => x.elim)).tcells hlt hq'
        have HC := HH.out.2.2.2.2 s (List.mem_of_getElem? hs) s' (List.mem_of_getElem? hs') ((wr.alloc (.cells #[.int .i64 q.k, .string q.nm, .slice q.An q.nn q.cn, .slice q.Ak q.nk q.ck] 25)).alloc (.cells #[.int .i64 q'.k, .string q'.nm, .slice q'.An q'.nn q'.cn, .slice q'.Ak q'.nk q'.ck] 25)) q q' (hqv.step (((Keep.refl _ wr).alloc _).alloc _)) (hqv'.step (((Keep.refl _ wr).alloc _).alloc _))
        unfold Tv.val at HC
        have hz : (l.zip l')[i]? = some (s, s') := List.getElem?_zip_eq_some.2 ⟨hs, hs'⟩
        have HS := Lib.hid (And.intro ht (And.intro hk hz))
        clear ht hk hs hs' hq hq' hqv hqv' hz
        cases hv : naiveT s s' with
        | true =>
          rw [hv] at HC
          have HV := Lib.hid hv
          clear hv
          go_wp2_with (go_at_call 36; refine HC.mono ?_; rintro e w' ⟨rfl, hk⟩; have HK := Lib.hid hk; clear hk HC)
          go_roundg (n - (i + 1))
          case measure => omega
          case rel =>
            obtain ⟨ht, hk, hz⟩ := HS.out
            refine ⟨i + 1, by go_num, by omega, rfl, fun x hx => ?_, ((hk.alloc _).alloc _).trans HK.out (fun _ _ x => x)⟩
            rw [List.take_add_one, hz] at hx
            rcases List.mem_append.1 hx with hx | hx
            · exact ht x hx
            · have : x = (s, s') := by simpa using hx
              rw [this]
              exact HV.out
        | false =>
          rw [hv] at HC
          have HN := Lib.hid (naiL_bad (List.mem_of_getElem? HS.out.2.2) hv)
          clear hv
          go_wp2_with (go_at_call 36; refine HC.mono ?_; rintro e w' ⟨rfl, hk⟩; have HK := Lib.hid hk; clear hk HC)
          go_ret
          exact ⟨ret_bool HN.out.symm, ((HS.out.2.1.alloc _).alloc _).trans HK.out (fun _ _ x => x)⟩
      · have hee : naiL l l' = true := by
          obtain ⟨h1, h2, h3, h4, h5⟩ := HL.out
          rw [List.take_of_length_le (by omega)] at ht
          unfold naiL
          rw [allz_iff.2 ht]
          simp
          omega
        have HN := Lib.hid (And.intro hee hk)
        clear hee ht hk
        go_wp2_with fail
        go_ret
        exact ⟨ret_bool HN.out.1.symm, HN.out.2⟩
  · have hd : ((n : Int) == (n' : Int)) = false := by rw [beq_eq_false_iff_ne]; omega
    have hne : naiL l l' = false := by
      unfold naiL
      have : ¬ l.length = l'.length := by omega
      simp [this]
    rw [hne]
    clear h h' hne hv hv' hf
    go_enter Tryd.func61, Tryd.ntmps61
    go_wp2
    go_ret
    exact ⟨rfl, Keep.refl _ _⟩
set_option maxRecDepth 100000 in
set_option maxHeartbeats 8000000 in
theorem nai1_any {tag : Nat} {m p : Bool × Ty} {w : World} {bm bp : Nat} (hpm : PartAt w nX bm tag m) (hpp : PartAt w nX bp tag p) (ih : ∀ x ∈ m.2.kids, ∀ y ∈ p.2.kids, NaiOk x y) :
    Calls Tryd.prog 59 #[.pointer (some ⟨bm, 0, none⟩), .pointer (some ⟨bp, 0, none⟩)] w fun e w' => e = .returned (.bool (naiP naiveT tag m p)) ∧ Keep (fun _ => False) w w' := by
  obtain ⟨⟨mk, mnm, mAn, mnn, mcn, mAk, mnk, mck⟩, hmA, hmV⟩ := hpm
  obtain ⟨⟨pk, pnm, pAn, pnn, pcn, pAk, pnk, pck⟩, hpA, hpV⟩ := hpp
  simp only at hmA hpA
  have hmn := hmV.out.2.2.2.1
  have hmb := hmV.out.1.2.1
  have hpn := hpV.out.2.2.2.1
  obtain ⟨rs, -, hkb, hrd, hvs⟩ := hmV.kds
  obtain ⟨rs', -, hkb', hrd', hvs'⟩ := hpV.kds
  simp only at hmn hmb hpn hkb hrd hkb' hrd'
  have hsk : Hid (∀ w', Keep (fun _ => False) w w' → (bm < w'.heap.size ∧ bp < w'.heap.size) ∧ (w'.cell? ⟨bm, 4, none⟩ = some (.slice mAn mnn mcn) ∧ w'.cell? ⟨bm, 5, none⟩ = some (.slice mAk mnk mck)) ∧ w'.cell? ⟨bp, 4, none⟩ = some (.slice pAn pnn pcn) ∧ w'.cell? ⟨bp, 5, none⟩ = some (.slice pAk pnk pck)) := fun w' hk => ⟨⟨(hk.at_ hmA (fun x => x)).lt, (hk.at_ hpA (fun x => x)).lt⟩, ⟨(hk.at_ hmA (fun x => x)).cell 4, (hk.at_ hmA (fun x => x)).cell 5⟩, (hk.at_ hpA (fun x => x)).cell 4, (hk.at_ hpA (fun x => x)).cell 5⟩
  have kd3 : Hid (Keep (fun _ => False) w w.drew) := (Keep.refl _ _).drew
  have hcA := strsEq_any hmb (hmn.keep kd3.out (fun _ x => x.elim)) (hpn.keep kd3.out (fun _ x => x.elim))
  have hcB := fun (w' : World) (hk : Keep (fun _ => False) w w') => eqnai_any (X := nX) (Y := nX) hkb (hrd.keep hk (fun _ x => x.elim)) (hrd'.keep hk (fun _ x => x.elim)) (hvs.step hk) (hvs'.step hk) ih
  have hres : naiP naiveT tag m p = (decide (m.2.names = p.2.names) && naiL m.2.kids p.2.kids) := rfl
  have HR := Lib.hid hres
  clear hpA hmA hmV hpV hmn hpn hrd hrd' hvs hvs' ih hres
  rw [HR.out]
  cases hv1 : decide (m.2.names = p.2.names)
  all_goals rw [hv1] at hcA
  all_goals clear hv1
  · clear hcB HR
    generalize naiL m.2.kids p.2.kids = nb at *
    go_enter Tryd.func59, Tryd.ntmps59
    go_wp2_with fail
    refine wp_region_held_n (S := fun w' => (bm < w'.heap.size ∧ bp < w'.heap.size) ∧ (w'.cell? ⟨bm, 4, none⟩ = some (.slice mAn mnn mcn) ∧ w'.cell? ⟨bm, 5, none⟩ = some (.slice mAk mnk mck)) ∧ w'.cell? ⟨bp, 4, none⟩ = some (.slice pAn pnn pcn) ∧ w'.cell? ⟨bp, 5, none⟩ = some (.slice pAk pnk pck)) 25 rfl (by kernel_rfl) ?_ (fun hHeld => ?_)
    · exact hsk.out _ kd3.out
    refine' wpAnyH_tk (i := 0) (v := _) rfl (by kernel_rfl) (by decide +kernel) (by decide +kernel) (fun _ _ _ h => h) (Or.inl ⟨by rfl, ?_⟩) (by assumption) ?_
    rotate_left
    · (intro w hSw; (try dsimp only at hSw); (try go_simp); (try (with_reducible rfl)))
    (try simp only [Act.put, List.setIfInBounds_toArray, List.set_cons_zero, List.set_cons_succ])
    refine' wpAnyH_tk (i := 1) (v := _) rfl (by kernel_rfl) (by decide +kernel) (by decide +kernel) (fun _ _ _ h => h) (Or.inl ⟨by rfl, ?_⟩) (by assumption) ?_
    rotate_left
    · (intro w hSw; (try dsimp only at hSw); (try go_simp); (try (with_reducible rfl)))
    (try simp only [Act.put, List.setIfInBounds_toArray, List.set_cons_zero, List.set_cons_succ])
    refine' wpAnyH_tk (i := 2) (v := _) rfl (by kernel_rfl) (by decide +kernel) (by decide +kernel) (fun _ _ _ h => h) (Or.inl ⟨by rfl, ?_⟩) (by assumption) ?_
    rotate_left
    · (intro w hSw; (try dsimp only at hSw); (try go_simp); (try (with_reducible rfl)))
    (try simp only [Act.put, List.setIfInBounds_toArray, List.set_cons_zero, List.set_cons_succ])
    refine' wpAnyH_tk (i := 3) (v := _) rfl (by kernel_rfl) (by decide +kernel) (by decide +kernel) (fun _ _ _ h => h) (Or.inl ⟨by rfl, ?_⟩) (by assumption) ?_
    rotate_left
    · (intro w hSw; (try dsimp only at hSw); (try go_simp); (try (with_reducible rfl)))
    (try simp only [Act.put, List.setIfInBounds_toArray, List.set_cons_zero, List.set_cons_succ])
    refine' wpAnyH_tk (i := 4) (v := _) rfl (by kernel_rfl) (by decide +kernel) (by decide +kernel) (fun _ _ _ h => h) (Or.inl ⟨by rfl, ?_⟩) (by assumption) ?_
    rotate_left
    · (intro w hSw; (try dsimp only at hSw); (try go_simp); (try (with_reducible rfl)))
    (try simp only [Act.put, List.setIfInBounds_toArray, List.set_cons_zero, List.set_cons_succ])
    refine' wpAnyH_tk (i := 5) (v := _) rfl (by kernel_rfl) (by decide +kernel) (by decide +kernel) (fun _ _ _ h => h) (Or.inl ⟨by rfl, ?_⟩) (by assumption) ?_
    rotate_left
    · (intro w hSw; (try dsimp only at hSw); (try go_simp); (try (with_reducible rfl)))
    (try simp only [Act.put, List.setIfInBounds_toArray, List.set_cons_zero, List.set_cons_succ])
    refine' wpAnyH_tk (i := 6) (v := _) rfl (by kernel_rfl) (by decide +kernel) (by decide +kernel) (fun _ _ _ h => h) (Or.inl ⟨by rfl, ?_⟩) (by assumption) ?_
    rotate_left
    · (intro w hSw; (try dsimp only at hSw); (try go_simp); (try (with_reducible rfl)))
    (try simp only [Act.put, List.setIfInBounds_toArray, List.set_cons_zero, List.set_cons_succ])
    refine' wpAnyH_tk (i := 7) (v := _) rfl (by kernel_rfl) (by decide +kernel) (by decide +kernel) (fun _ _ _ h => h) (Or.inl ⟨by rfl, ?_⟩) (by assumption) ?_
    rotate_left
    · (intro w hSw; (try dsimp only at hSw); (try go_simp); (try (with_reducible rfl)))
    (try simp only [Act.put, List.setIfInBounds_toArray, List.set_cons_zero, List.set_cons_succ])
    refine' wpAnyH_tk (i := 8) (v := _) rfl (by kernel_rfl) (by decide +kernel) (by decide +kernel) (fun _ _ _ h => h) (Or.inl ⟨by rfl, ?_⟩) (by assumption) ?_
    rotate_left
    · (intro w hSw; (try dsimp only at hSw); (try go_simp); (try (with_reducible rfl)))
    (try simp only [Act.put, List.setIfInBounds_toArray, List.set_cons_zero, List.set_cons_succ])
    refine' wpAnyH_tk (i := 9) (v := _) rfl (by kernel_rfl) (by decide +kernel) (by decide +kernel) (fun _ _ _ h => h) (Or.inl ⟨by rfl, ?_⟩) (by assumption) ?_
    rotate_left
    · (intro w hSw; (try dsimp only at hSw); (try go_simp); (try (with_reducible rfl)))
    (try simp only [Act.put, List.setIfInBounds_toArray, List.set_cons_zero, List.set_cons_succ])
    refine wpAnyH_ready (rs := [10]) (by decide +kernel) (by simp) ?_
    refine AllReadyH_one rfl (fun K hK => ?_)
    go_simp
    go_at_call 60
    refine hcA.mono ?_
    rintro e w4 ⟨rfl, hk4⟩
    have KA := Lib.hid (kd3.out.trans hk4 (fun _ _ x => x))
    clear hk4 hcA
    refine hK.out _ _ ?_ (fun hHeld => ?_)
    · exact hsk.out _ KA.out
    clear hK K
    (try simp only [Act.put, List.setIfInBounds_toArray, List.set_cons_zero, List.set_cons_succ])
    refine' wpAnyH_tk (i := 11) (v := _) rfl (by kernel_rfl) (by decide +kernel) (by decide +kernel) (fun _ _ _ h => h) (Or.inl ⟨by rfl, ?_⟩) (by assumption) ?_
    rotate_left
    · (intro w hSw; (try dsimp only at hSw); (try go_simp); (try (with_reducible rfl)))
    (try simp only [Act.put, List.setIfInBounds_toArray, List.set_cons_zero, List.set_cons_succ])
    refine wpAnyH_tk (i := 12) (v := undef) rfl (by kernel_rfl) (by decide +kernel) (by decide +kernel) (fun _ _ _ h => h) (Or.inr ⟨by rfl, rfl⟩) (by assumption) ?_
    (try simp only [Act.put, List.setIfInBounds_toArray, List.set_cons_zero, List.set_cons_succ])
    refine wpAnyH_tk (i := 13) (v := undef) rfl (by kernel_rfl) (by decide +kernel) (by decide +kernel) (fun _ _ _ h => h) (Or.inr ⟨by rfl, rfl⟩) (by assumption) ?_
    (try simp only [Act.put, List.setIfInBounds_toArray, List.set_cons_zero, List.set_cons_succ])
    refine wpAnyH_tk (i := 14) (v := undef) rfl (by kernel_rfl) (by decide +kernel) (by decide +kernel) (fun _ _ _ h => h) (Or.inr ⟨by rfl, rfl⟩) (by assumption) ?_
    (try simp only [Act.put, List.setIfInBounds_toArray, List.set_cons_zero, List.set_cons_succ])
    refine wpAnyH_tk (i := 15) (v := undef) rfl (by kernel_rfl) (by decide +kernel) (by decide +kernel) (fun _ _ _ h => h) (Or.inr ⟨by rfl, rfl⟩) (by assumption) ?_
    (try simp only [Act.put, List.setIfInBounds_toArray, List.set_cons_zero, List.set_cons_succ])
    refine wpAnyH_tk (i := 16) (v := undef) rfl (by kernel_rfl) (by decide +kernel) (by decide +kernel) (fun _ _ _ h => h) (Or.inr ⟨by rfl, rfl⟩) (by assumption) ?_
    (try simp only [Act.put, List.setIfInBounds_toArray, List.set_cons_zero, List.set_cons_succ])
    refine wpAnyH_tk (i := 17) (v := undef) rfl (by kernel_rfl) (by decide +kernel) (by decide +kernel) (fun _ _ _ h => h) (Or.inr ⟨by rfl, rfl⟩) (by assumption) ?_
    (try simp only [Act.put, List.setIfInBounds_toArray, List.set_cons_zero, List.set_cons_succ])
    refine wpAnyH_tk (i := 18) (v := undef) rfl (by kernel_rfl) (by decide +kernel) (by decide +kernel) (fun _ _ _ h => h) (Or.inr ⟨by rfl, rfl⟩) (by assumption) ?_
    (try simp only [Act.put, List.setIfInBounds_toArray, List.set_cons_zero, List.set_cons_succ])
    refine wpAnyH_tk (i := 19) (v := undef) rfl (by kernel_rfl) (by decide +kernel) (by decide +kernel) (fun _ _ _ h => h) (Or.inr ⟨by rfl, rfl⟩) (by assumption) ?_
    (try simp only [Act.put, List.setIfInBounds_toArray, List.set_cons_zero, List.set_cons_succ])
    refine wpAnyH_tk (i := 20) (v := undef) rfl (by kernel_rfl) (by decide +kernel) (by decide +kernel) (fun _ _ _ h => h) (Or.inr ⟨by rfl, rfl⟩) (by assumption) ?_
    (try simp only [Act.put, List.setIfInBounds_toArray, List.set_cons_zero, List.set_cons_succ])
    refine wpAnyH_tk (i := 21) (v := undef) rfl (by kernel_rfl) (by decide +kernel) (by decide +kernel) (fun _ _ _ h => h) (Or.inr ⟨by rfl, rfl⟩) (by assumption) ?_
    (try simp only [Act.put, List.setIfInBounds_toArray, List.set_cons_zero, List.set_cons_succ])
    refine wpAnyH_tk (i := 22) (v := undef) rfl (by kernel_rfl) (by decide +kernel) (by decide +kernel) (fun _ _ _ h => h) (Or.inr ⟨by rfl, rfl⟩) (by assumption) ?_
    (try simp only [Act.put, List.setIfInBounds_toArray, List.set_cons_zero, List.set_cons_succ])
    refine' wpAnyH_tk (i := 23) (v := _) rfl (by kernel_rfl) (by decide +kernel) (by decide +kernel) (fun _ _ _ h => h) (Or.inl ⟨by rfl, ?_⟩) (by assumption) ?_
    rotate_left
    · (intro w hSw; (try dsimp only at hSw); (try go_simp); (try (with_reducible rfl)))
    (try simp only [Act.put, List.setIfInBounds_toArray, List.set_cons_zero, List.set_cons_succ])
    refine' wpAnyH_tk (i := 24) (v := _) rfl (by kernel_rfl) (by decide +kernel) (by decide +kernel) (fun _ _ _ h => h) (Or.inl ⟨by rfl, ?_⟩) (by assumption) ?_
    rotate_left
    · (intro w hSw; (try dsimp only at hSw); (try go_simp); (try (with_reducible rfl)))
    (try simp only [Act.put, List.setIfInBounds_toArray, List.set_cons_zero, List.set_cons_succ])
    refine wpAnyH_done (by decide +kernel) ?_ _
    go_wp2_with fail
    go_ret
    exact ⟨rfl, KA.out⟩
  · generalize naiL m.2.kids p.2.kids = nb at *
    have HCB := Lib.hid hcB
    clear hcB HR
    go_enter Tryd.func59, Tryd.ntmps59
    go_wp2_with fail
    refine wp_region_held_n (S := fun w' => (bm < w'.heap.size ∧ bp < w'.heap.size) ∧ (w'.cell? ⟨bm, 4, none⟩ = some (.slice mAn mnn mcn) ∧ w'.cell? ⟨bm, 5, none⟩ = some (.slice mAk mnk mck)) ∧ w'.cell? ⟨bp, 4, none⟩ = some (.slice pAn pnn pcn) ∧ w'.cell? ⟨bp, 5, none⟩ = some (.slice pAk pnk pck)) 25 rfl (by kernel_rfl) ?_ (fun hHeld => ?_)
    · exact hsk.out _ kd3.out
    refine' wpAnyH_tk (i := 0) (v := _) rfl (by kernel_rfl) (by decide +kernel) (by decide +kernel) (fun _ _ _ h => h) (Or.inl ⟨by rfl, ?_⟩) (by assumption) ?_
    rotate_left
    · (intro w hSw; (try dsimp only at hSw); (try go_simp); (try (with_reducible rfl)))
    (try simp only [Act.put, List.setIfInBounds_toArray, List.set_cons_zero, List.set_cons_succ])
    refine' wpAnyH_tk (i := 1) (v := _) rfl (by kernel_rfl) (by decide +kernel) (by decide +kernel) (fun _ _ _ h => h) (Or.inl ⟨by rfl, ?_⟩) (by assumption) ?_
    rotate_left
    · (intro w hSw; (try dsimp only at hSw); (try go_simp); (try (with_reducible rfl)))
    (try simp only [Act.put, List.setIfInBounds_toArray, List.set_cons_zero, List.set_cons_succ])
    refine' wpAnyH_tk (i := 2) (v := _) rfl (by kernel_rfl) (by decide +kernel) (by decide +kernel) (fun _ _ _ h => h) (Or.inl ⟨by rfl, ?_⟩) (by assumption) ?_
    rotate_left
    · (intro w hSw; (try dsimp only at hSw); (try go_simp); (try (with_reducible rfl)))
    (try simp only [Act.put, List.setIfInBounds_toArray, List.set_cons_zero, List.set_cons_succ])
    refine' wpAnyH_tk (i := 3) (v := _) rfl (by kernel_rfl) (by decide +kernel) (by decide +kernel) (fun _ _ _ h => h) (Or.inl ⟨by rfl, ?_⟩) (by assumption) ?_
    rotate_left
    · (intro w hSw; (try dsimp only at hSw); (try go_simp); (try (with_reducible rfl)))
    (try simp only [Act.put, List.setIfInBounds_toArray, List.set_cons_zero, List.set_cons_succ])
    refine' wpAnyH_tk (i := 4) (v := _) rfl (by kernel_rfl) (by decide +kernel) (by decide +kernel) (fun _ _ _ h => h) (Or.inl ⟨by rfl, ?_⟩) (by assumption) ?_
    rotate_left
    · (intro w hSw; (try dsimp only at hSw); (try go_simp); (try (with_reducible rfl)))
    (try simp only [Act.put, List.setIfInBounds_toArray, List.set_cons_zero, List.set_cons_succ])
    refine' wpAnyH_tk (i := 5) (v := _) rfl (by kernel_rfl) (by decide +kernel) (by decide +kernel) (fun _ _ _ h => h) (Or.inl ⟨by rfl, ?_⟩) (by assumption) ?_
    rotate_left
    · (intro w hSw; (try dsimp only at hSw); (try go_simp); (try (with_reducible rfl)))
    (try simp only [Act.put, List.setIfInBounds_toArray, List.set_cons_zero, List.set_cons_succ])
    refine' wpAnyH_tk (i := 6) (v := _) rfl (by kernel_rfl) (by decide +kernel) (by decide +kernel) (fun _ _ _ h => h) (Or.inl ⟨by rfl, ?_⟩) (by assumption) ?_
    rotate_left
    · (intro w hSw; (try dsimp only at hSw); (try go_simp); (try (with_reducible rfl)))
    (try simp only [Act.put, List.setIfInBounds_toArray, List.set_cons_zero, List.set_cons_succ])
    refine' wpAnyH_tk (i := 7) (v := _) rfl (by kernel_rfl) (by decide +kernel) (by decide +kernel) (fun _ _ _ h => h) (Or.inl ⟨by rfl, ?_⟩) (by assumption) ?_
    rotate_left
    · (intro w hSw; (try dsimp only at hSw); (try go_simp); (try (with_reducible rfl)))
    (try simp only [Act.put, List.setIfInBounds_toArray, List.set_cons_zero, List.set_cons_succ])
    refine' wpAnyH_tk (i := 8) (v := _) rfl (by kernel_rfl) (by decide +kernel) (by decide +kernel) (fun _ _ _ h => h) (Or.inl ⟨by rfl, ?_⟩) (by assumption) ?_
    rotate_left
    · (intro w hSw; (try dsimp only at hSw); (try go_simp); (try (with_reducible rfl)))
    (try simp only [Act.put, List.setIfInBounds_toArray, List.set_cons_zero, List.set_cons_succ])
    refine' wpAnyH_tk (i := 9) (v := _) rfl (by kernel_rfl) (by decide +kernel) (by decide +kernel) (fun _ _ _ h => h) (Or.inl ⟨by rfl, ?_⟩) (by assumption) ?_
    rotate_left
    · (intro w hSw; (try dsimp only at hSw); (try go_simp); (try (with_reducible rfl)))
    (try simp only [Act.put, List.setIfInBounds_toArray, List.set_cons_zero, List.set_cons_succ])
    refine wpAnyH_ready (rs := [10]) (by decide +kernel) (by simp) ?_
    refine AllReadyH_one rfl (fun K hK => ?_)
    go_simp
    go_at_call 60
    refine hcA.mono ?_
    rintro e w4 ⟨rfl, hk4⟩
    have KA := Lib.hid (kd3.out.trans hk4 (fun _ _ x => x))
    clear hk4 hcA
    refine hK.out _ _ ?_ (fun hHeld => ?_)
    · exact hsk.out _ KA.out
    clear hK K
    (try simp only [Act.put, List.setIfInBounds_toArray, List.set_cons_zero, List.set_cons_succ])
    refine' wpAnyH_tk (i := 11) (v := _) rfl (by kernel_rfl) (by decide +kernel) (by decide +kernel) (fun _ _ _ h => h) (Or.inl ⟨by rfl, ?_⟩) (by assumption) ?_
    rotate_left
    · (intro w hSw; (try dsimp only at hSw); (try go_simp); (try (with_reducible rfl)))
    (try simp only [Act.put, List.setIfInBounds_toArray, List.set_cons_zero, List.set_cons_succ])
    refine' wpAnyH_tk (i := 12) (v := _) rfl (by kernel_rfl) (by decide +kernel) (by decide +kernel) (fun _ _ _ h => h) (Or.inl ⟨by rfl, ?_⟩) (by assumption) ?_
    rotate_left
    · (intro w hSw; (try dsimp only at hSw); (try go_simp); (try (with_reducible rfl)))
    (try simp only [Act.put, List.setIfInBounds_toArray, List.set_cons_zero, List.set_cons_succ])
    refine' wpAnyH_tk (i := 13) (v := _) rfl (by kernel_rfl) (by decide +kernel) (by decide +kernel) (fun _ _ _ h => h) (Or.inl ⟨by rfl, ?_⟩) (by assumption) ?_
    rotate_left
    · (intro w hSw; (try dsimp only at hSw); (try go_simp); (try (with_reducible rfl)))
    (try simp only [Act.put, List.setIfInBounds_toArray, List.set_cons_zero, List.set_cons_succ])
    refine' wpAnyH_tk (i := 14) (v := _) rfl (by kernel_rfl) (by decide +kernel) (by decide +kernel) (fun _ _ _ h => h) (Or.inl ⟨by rfl, ?_⟩) (by assumption) ?_
    rotate_left
    · (intro w hSw; (try dsimp only at hSw); (try go_simp); (try (with_reducible rfl)))
    (try simp only [Act.put, List.setIfInBounds_toArray, List.set_cons_zero, List.set_cons_succ])
    refine' wpAnyH_tk (i := 15) (v := _) rfl (by kernel_rfl) (by decide +kernel) (by decide +kernel) (fun _ _ _ h => h) (Or.inl ⟨by rfl, ?_⟩) (by assumption) ?_
    rotate_left
    · (intro w hSw; (try dsimp only at hSw); (try go_simp); (try (with_reducible rfl)))
    (try simp only [Act.put, List.setIfInBounds_toArray, List.set_cons_zero, List.set_cons_succ])
    refine' wpAnyH_tk (i := 16) (v := _) rfl (by kernel_rfl) (by decide +kernel) (by decide +kernel) (fun _ _ _ h => h) (Or.inl ⟨by rfl, ?_⟩) (by assumption) ?_
    rotate_left
    · (intro w hSw; (try dsimp only at hSw); (try go_simp); (try (with_reducible rfl)))
    (try simp only [Act.put, List.setIfInBounds_toArray, List.set_cons_zero, List.set_cons_succ])
    refine' wpAnyH_tk (i := 17) (v := _) rfl (by kernel_rfl) (by decide +kernel) (by decide +kernel) (fun _ _ _ h => h) (Or.inl ⟨by rfl, ?_⟩) (by assumption) ?_
    rotate_left
    · (intro w hSw; (try dsimp only at hSw); (try go_simp); (try (with_reducible rfl)))
    (try simp only [Act.put, List.setIfInBounds_toArray, List.set_cons_zero, List.set_cons_succ])
    refine' wpAnyH_tk (i := 18) (v := _) rfl (by kernel_rfl) (by decide +kernel) (by decide +kernel) (fun _ _ _ h => h) (Or.inl ⟨by rfl, ?_⟩) (by assumption) ?_
    rotate_left
    · (intro w hSw; (try dsimp only at hSw); (try go_simp); (try (with_reducible rfl)))
    (try simp only [Act.put, List.setIfInBounds_toArray, List.set_cons_zero, List.set_cons_succ])
    refine' wpAnyH_tk (i := 19) (v := _) rfl (by kernel_rfl) (by decide +kernel) (by decide +kernel) (fun _ _ _ h => h) (Or.inl ⟨by rfl, ?_⟩) (by assumption) ?_
    rotate_left
    · (intro w hSw; (try dsimp only at hSw); (try go_simp); (try (with_reducible rfl)))
    (try simp only [Act.put, List.setIfInBounds_toArray, List.set_cons_zero, List.set_cons_succ])
    refine' wpAnyH_tk (i := 20) (v := _) rfl (by kernel_rfl) (by decide +kernel) (by decide +kernel) (fun _ _ _ h => h) (Or.inl ⟨by rfl, ?_⟩) (by assumption) ?_
    rotate_left
    · (intro w hSw; (try dsimp only at hSw); (try go_simp); (try (with_reducible rfl)))
    (try simp only [Act.put, List.setIfInBounds_toArray, List.set_cons_zero, List.set_cons_succ])
    refine' wpAnyH_tk (i := 21) (v := _) rfl (by kernel_rfl) (by decide +kernel) (by decide +kernel) (fun _ _ _ h => h) (Or.inl ⟨by rfl, ?_⟩) (by assumption) ?_
    rotate_left
    · (intro w hSw; (try dsimp only at hSw); (try go_simp); (try (with_reducible rfl)))
    (try simp only [Act.put, List.setIfInBounds_toArray, List.set_cons_zero, List.set_cons_succ])
    refine wpAnyH_ready (rs := [22]) (by decide +kernel) (by simp) ?_
    refine AllReadyH_one rfl (fun K hK => ?_)
    go_simp
    go_at_call 61
    refine (HCB.out _ KA.out).mono ?_
    rintro e w5 ⟨rfl, hk5⟩
    have KB := Lib.hid (KA.out.trans hk5 (fun _ _ x => x))
    clear hk5
    refine hK.out _ _ ?_ (fun hHeld => ?_)
    · exact hsk.out _ KB.out
    clear hK K
    (try simp only [Act.put, List.setIfInBounds_toArray, List.set_cons_zero, List.set_cons_succ])
    refine' wpAnyH_tk (i := 23) (v := _) rfl (by kernel_rfl) (by decide +kernel) (by decide +kernel) (fun _ _ _ h => h) (Or.inl ⟨by rfl, ?_⟩) (by assumption) ?_
    rotate_left
    · (intro w hSw; (try dsimp only at hSw); (try go_simp); (try (with_reducible rfl)))
    (try simp only [Act.put, List.setIfInBounds_toArray, List.set_cons_zero, List.set_cons_succ])
    refine' wpAnyH_tk (i := 24) (v := _) rfl (by kernel_rfl) (by decide +kernel) (by decide +kernel) (fun _ _ _ h => h) (Or.inl ⟨by rfl, ?_⟩) (by assumption) ?_
    rotate_left
    · (intro w hSw; (try dsimp only at hSw); (try go_simp); (try (with_reducible rfl)))
    (try simp only [Act.put, List.setIfInBounds_toArray, List.set_cons_zero, List.set_cons_succ])
    refine wpAnyH_done (by decide +kernel) ?_ _
    go_wp2_with fail
    go_ret
    exact ⟨rfl, KB.out⟩
end Go.Proofs.YtbanpohholnkaaaDoor
