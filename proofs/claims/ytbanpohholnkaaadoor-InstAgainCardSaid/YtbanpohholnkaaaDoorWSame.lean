/-
  Walks: slices.Equal of strings, slices.EqualFunc of types, types.Same. Conditions: none.
-/
import Derived.Test.YtbanpohholnkaaaDoorWHeight
namespace Go.Proofs.YtbanpohholnkaaaDoor
open Go.RowKit

theorem take_eq_succ {α : Type} {l l' : List α} {i : Nat} {a a' : α} (h : l.take i = l'.take i) (h1 : l[i]? = some a) (h2 : l'[i]? = some a') (e : a = a') : l.take (i + 1) = l'.take (i + 1) := by
  rw [List.take_add_one, List.take_add_one, h, h1, h2, e]
theorem take_ne_at {α : Type} {l l' : List α} {i : Nat} {a a' : α} (h1 : l[i]? = some a) (h2 : l'[i]? = some a') (e : a ≠ a') : l ≠ l' := by
  intro h
  rw [h, h2] at h1
  exact e (Option.some.inj h1).symm
def EqsA (w : World) (l l' : List ByteArray) (n : Nat) (k : Nat) (b : Value) (wr : World) : Prop :=
  ∃ i : Nat, b = .int .i64 i ∧ i ≤ n ∧ k = n - i ∧ l.take i = l'.take i ∧ Keep (fun _ => False) w wr
set_option maxHeartbeats 2000000 in
theorem strsEq_any {w : World} {X Y : Nat → Prop} {A A' : Option Addr} {n n' c c' : Nat} {l l' : List ByteArray} (hb : n ≤ 140737488355328) (h : Rd w X 1 (.slice A n c) n (strs l)) (h' : Rd w Y 1 (.slice A' n' c') n' (strs l')) :
    Calls Tryd.prog 60 #[.slice A n c, .slice A' n' c'] w fun e w' => e = .returned (.bool (decide (l = l'))) ∧ Keep (fun _ => False) w w' := by
  have hl := h.slen
  have hl' := h'.slen
  by_cases hn : n = n'
  · subst hn
    have HH := Lib.hid (And.intro h h')
    have h0 : Hid (EqsA w l l' n n (.int .i64 0) w) := ⟨0, rfl, Nat.zero_le _, rfl, rfl, Keep.refl _ _⟩
    clear h h'
    go_enter Tryd.func60, Tryd.ntmps60
    go_wp2
    go_loopg [13] n (EqsA w l l' n)
    case atStart => exact h0.out
    case round =>
      clear h0
      obtain ⟨i, rfl, hi, rfl, ht, hk⟩ := hrel
      by_cases hlt : i < n
      · obtain ⟨s, hs⟩ : ∃ s, l[i]? = some s := ⟨_, List.getElem?_eq_getElem (by omega)⟩
        obtain ⟨s', hs'⟩ : ∃ s', l'[i]? = some s' := ⟨_, List.getElem?_eq_getElem (by omega)⟩
        obtain ⟨b, o, rfl, hbz, _, c0⟩ := (HH.out.1.keep hk (fun _ x => x.elim)).scell hlt hs
        obtain ⟨b', o', rfl, hbz', _, c0'⟩ := (HH.out.2.keep hk (fun _ x => x.elim)).scell hlt hs'
        have HS := Lib.hid (And.intro ht (And.intro hk (And.intro hs hs')))
        clear ht hk hs hs'
        by_cases he : s = s'
        · subst he
          have hd := str_beq s
          go_wp2_with fail
          go_region
          go_wp2_with fail
          go_roundg (n - (i + 1))
          case measure => omega
          case rel =>
            obtain ⟨ht, hk, hs, hs'⟩ := HS.out
            exact ⟨i + 1, by go_num, by omega, rfl, take_eq_succ ht hs hs' rfl, hk.drew⟩
        · have hd := str_bne he
          have hne : decide (l = l') = false := by
            obtain ⟨ht, hk, hs, hs'⟩ := HS.out
            simpa using take_ne_at hs hs' he
          have HN := Lib.hid hne
          clear hne
          go_wp2_with fail
          go_region
          go_wp2_with fail
          go_ret
          exact ⟨ret_bool HN.out.symm, HS.out.2.1.drew⟩
      · have hee : decide (l = l') = true := by
          rw [List.take_of_length_le (by omega), List.take_of_length_le (by omega)] at ht
          simpa using ht
        have HN := Lib.hid (And.intro hee hk)
        clear hee ht hk
        go_wp2_with fail
        go_ret
        exact ⟨ret_bool HN.out.1.symm, HN.out.2⟩
  · have hd : ((n : Int) == (n' : Int)) = false := by rw [beq_eq_false_iff_ne]; omega
    have hne : decide (l = l') = false := by
      simp only [decide_eq_false_iff_not]
      intro e
      subst e
      omega
    rw [hne]
    clear h h' hne
    go_enter Tryd.func60, Tryd.ntmps60
    go_wp2
    go_ret
    exact ⟨rfl, Keep.refl _ _⟩

noncomputable def sameL (a b : List Ty) : Bool := @decide (a = b) (Classical.propDecidable _)
theorem sameL_iff {a b : List Ty} : sameL a b = true ↔ a = b := by simp [sameL]
theorem sameL_ne {a b : List Ty} (h : a ≠ b) : sameL a b = false := by
  cases h' : sameL a b with
  | false => rfl
  | true => exact absurd (sameL_iff.1 h') h
def EqfA (w : World) (l l' : List Ty) (n : Nat) (k : Nat) (b : Value) (wr : World) : Prop :=
  ∃ i : Nat, b = .int .i64 i ∧ i ≤ n ∧ k = n - i ∧ l.take i = l'.take i ∧ Keep (fun _ => False) w wr
set_option maxHeartbeats 2000000 in
theorem eqfunc_any {w : World} {X Y : Nat → Prop} {A A' : Option Addr} {n n' c c' : Nat} {l l' : List Ty} {rs rs' : List Tv} (hb : n ≤ 140737488355328) (h : Rd w X 4 (.slice A n c) n (tflat rs)) (h' : Rd w Y 4 (.slice A' n' c') n' (tflat rs')) (hv : TysV w X rs l) (hv' : TysV w Y rs' l')
    (hf : ∀ k ∈ l, ∀ k' (w : World) (r r' : Tv), TyV w X r k → TyV w Y r' k' → Calls Tryd.prog 54 #[r.val, r'.val] w fun e w' => e = .returned (.bool (sameT k k')) ∧ Keep (fun _ => False) w w') :
    Calls Tryd.prog 61 #[.slice A n c, .slice A' n' c', .func (.func 54) #[] #[]] w fun e w' => e = .returned (.bool (sameL l l')) ∧ Keep (fun _ => False) w w' := by
  have hl := hv.len
  have hl' := hv'.len
  have hn := h.nlen
  have hn' := h'.nlen
  by_cases hnn : n = n'
  · subst hnn
    have HH := Lib.hid (And.intro h (And.intro h' (And.intro hv (And.intro hv' hf))))
    have h0 : Hid (EqfA w l l' n n (.int .i64 0) w) := ⟨0, rfl, Nat.zero_le _, rfl, rfl, Keep.refl _ _⟩
    clear h h' hv hv' hf
    go_enter Tryd.func61, Tryd.ntmps61
    go_wp2
    go_loopg [17] n (EqfA w l l' n)
    case atStart => exact h0.out
    case round =>
      clear h0
      obtain ⟨i, rfl, hi, rfl, ht, hk⟩ := hrel
      by_cases hlt : i < n
      · obtain ⟨s, hs⟩ : ∃ s, l[i]? = some s := ⟨_, List.getElem?_eq_getElem (by omega)⟩
        obtain ⟨s', hs'⟩ : ∃ s', l'[i]? = some s' := ⟨_, List.getElem?_eq_getElem (by omega)⟩
        obtain ⟨q, hq, hqv⟩ := (HH.out.2.2.1.step hk).at_ hs
        obtain ⟨q', hq', hqv'⟩ := (HH.out.2.2.2.1.step hk).at_ hs'
        obtain ⟨b, o, rfl, hbz, _, c0, c1, c2, c3⟩ := (HH.out.1.keep hk (fun _ x => x.elim)).tcells hlt hq
        obtain ⟨b', o', rfl, hbz', _, c0', c1', c2', c3'⟩ := (HH.out.2.1.keep hk (fun _ x => x.elim)).tcells hlt hq'
        have HC := HH.out.2.2.2.2 s (List.mem_of_getElem? hs) s' ((wr.alloc (.cells #[.int .i64 q.k, .string q.nm, .slice q.An q.nn q.cn, .slice q.Ak q.nk q.ck] 25)).alloc (.cells #[.int .i64 q'.k, .string q'.nm, .slice q'.An q'.nn q'.cn, .slice q'.Ak q'.nk q'.ck] 25)) q q' (hqv.step (((Keep.refl _ wr).alloc _).alloc _)) (hqv'.step (((Keep.refl _ wr).alloc _).alloc _))
        unfold Tv.val at HC
        have HS := Lib.hid (And.intro ht (And.intro hk (And.intro hs hs')))
        clear ht hk hs hs' hq hq' hqv hqv'
        by_cases he : s = s'
        · subst he
          rw [sameT_refl] at HC
          go_wp2_with (go_at_call 54; refine HC.mono ?_; rintro e w' ⟨rfl, hk⟩; have HK := Lib.hid hk; clear hk HC)
          go_roundg (n - (i + 1))
          case measure => omega
          case rel =>
            obtain ⟨ht, hk, hs, hs'⟩ := HS.out
            exact ⟨i + 1, by go_num, by omega, rfl, take_eq_succ ht hs hs' rfl, ((hk.alloc _).alloc _).trans HK.out (fun _ _ x => x)⟩
        · rw [sameT_ne he] at HC
          have hne : sameL l l' = false := by
            obtain ⟨ht, hk, hs, hs'⟩ := HS.out
            exact sameL_ne (take_ne_at hs hs' he)
          have HN := Lib.hid hne
          clear hne
          go_wp2_with (go_at_call 54; refine HC.mono ?_; rintro e w' ⟨rfl, hk⟩; have HK := Lib.hid hk; clear hk HC)
          go_ret
          exact ⟨ret_bool HN.out.symm, ((HS.out.2.1.alloc _).alloc _).trans HK.out (fun _ _ x => x)⟩
      · have hee : sameL l l' = true := by
          rw [List.take_of_length_le (by omega), List.take_of_length_le (by omega)] at ht
          exact sameL_iff.2 ht
        have HN := Lib.hid (And.intro hee hk)
        clear hee ht hk
        go_wp2_with fail
        go_ret
        exact ⟨ret_bool HN.out.1.symm, HN.out.2⟩
  · have hd : ((n : Int) == (n' : Int)) = false := by rw [beq_eq_false_iff_ne]; omega
    have hne : sameL l l' = false := sameL_ne (fun e => by
      subst e
      omega)
    rw [hne]
    clear h h' hne hv hv' hf
    go_enter Tryd.func61, Tryd.ntmps61
    go_wp2
    go_ret
    exact ⟨rfl, Keep.refl _ _⟩

theorem TyV.box {w : World} {X : Nat → Prop} {r : Tv} {t : Ty} (h : TyV w X r t) (o : Obj) : TyV (w.alloc o) X r t := h.step ((Keep.refl _ w).alloc o)
theorem same_parts {a b : Ty} : sameT a b = true ↔ a.kind = b.kind ∧ a.name = b.name ∧ a.names = b.names ∧ a.kids = b.kids := by
  rw [sameT_iff]
  exact ⟨fun h => by subst h; exact ⟨rfl, rfl, rfl, rfl⟩, fun ⟨h1, h2, h3, h4⟩ => Ty.ext' h1 h2 h3 h4⟩
theorem same_no {a b : Ty} (h : ¬ (a.kind = b.kind ∧ a.name = b.name ∧ a.names = b.names ∧ a.kids = b.kids)) : sameT a b = false := by
  cases h' : sameT a b with
  | false => rfl
  | true => exact absurd (same_parts.1 h') h
set_option maxHeartbeats 2000000 in
theorem same_any {X Y : Nat → Prop} (a : Ty) : ∀ (b : Ty) (w : World) (r r' : Tv), TyV w X r a → TyV w Y r' b → Calls Tryd.prog 54 #[r.val, r'.val] w fun e w' => e = .returned (.bool (sameT a b)) ∧ Keep (fun _ => False) w w' := by
  induction a using Ty.ind with
  | h a ih =>
    intro b w r r' h h'
    obtain ⟨k, nm, An, nn, cn, Ak, nk, ck⟩ := r
    obtain ⟨k', nm', An', nn', cn', Ak', nk', ck'⟩ := r'
    have hw := ((h.box (.cells #[.int .i64 k, .string nm, .slice An nn cn, .slice Ak nk ck] 25)).box (.cells #[.int .i64 k', .string nm', .slice An' nn' cn', .slice Ak' nk' ck'] 25))
    have hw' := ((h'.box (.cells #[.int .i64 k, .string nm, .slice An nn cn, .slice Ak nk ck] 25)).box (.cells #[.int .i64 k', .string nm', .slice An' nn' cn', .slice Ak' nk' ck'] 25))
    obtain ⟨⟨e1, e2, e3⟩, e4, e5, e6, rs, e7, e8, e9⟩ := hw.out
    obtain ⟨⟨f1, f2, f3⟩, f4, f5, f6, rs', f7, f8, f9⟩ := hw'.out
    simp only at e1 e2 e3 e4 e5 e6 e7 e8 f1 f2 f3 f4 f5 f6 f7 f8
    have hst := strsEq_any e2 e6 f6
    have hkd := fun (w1 : World) (hk : Keep (fun _ => False) _ w1) => eqfunc_any e3 (e8.keep hk (fun _ x => x.elim)) (f8.keep hk (fun _ x => x.elim)) (e9.step hk) (f9.step hk) (fun k hk k' w r r' => ih k (Ty.kid_lt hk) k' w r r')
    have hres : sameT a b = (decide (k = k') && decide (nm = nm') && decide (a.names = b.names) && sameL a.kids b.kids) := by
      subst e1 f1 e4 f4
      rw [Bool.eq_iff_iff, same_parts]
      simp [sameL_iff, and_assoc]
    rw [hres]
    have hbx : ∀ w1, Keep (fun _ => False) ((w.alloc (.cells #[.int .i64 k, .string nm, .slice An nn cn, .slice Ak nk ck] 25)).alloc (.cells #[.int .i64 k', .string nm', .slice An' nn' cn', .slice Ak' nk' ck'] 25)) w1 → w1.cell? ⟨w.heap.size, 3, none⟩ = some (.slice Ak nk ck) ∧ w1.cell? ⟨w.heap.size + 1, 3, none⟩ = some (.slice Ak' nk' ck') := fun w1 hk => ⟨(hk.at_ ((At.new _ _ _).alloc _) (fun x => x)).cell 3, (hk.at_ (At.new_at (by simp)) (fun x => x)).cell 3⟩
    have HB := Lib.hid hbx
    have k2 : Keep (fun _ => False) w ((w.alloc (.cells #[.int .i64 k, .string nm, .slice An nn cn, .slice Ak nk ck] 25)).alloc (.cells #[.int .i64 k', .string nm', .slice An' nn' cn', .slice Ak' nk' ck'] 25)) := ((Keep.refl _ w).alloc _).alloc _
    have HK0 := Lib.hid k2
    have HK := Lib.hid hkd
    clear hbx k2 hkd ih h h' hw hw' e1 e2 e3 e4 e5 e6 e7 e8 e9 f1 f2 f3 f4 f5 f6 f7 f8 f9 hres
    unfold Tv.val
    simp only
    generalize a.names = ns at *
    generalize b.names = ns' at *
    generalize sameL a.kids b.kids = sk at *
    by_cases hk : k = k'
    · subst hk
      have hdk : (k == k) = true := by simp
      by_cases hnm : nm = nm'
      · subst hnm
        have hd := str_beq nm
        cases hns : decide (ns = ns') with
        | true =>
          rw [hns] at hst
          have e : (decide (k = k) && decide (nm = nm) && true && sk) = sk := by simp
          rw [e]
          clear e hns
          go_enter Tryd.func54, Tryd.ntmps54
          go_wp2_with (first | (go_at_call 60; refine hst.mono ?_; rintro e w' ⟨rfl, hk⟩; obtain ⟨y1, y2⟩ := HB.out w' hk; have hkd := HK.out w' hk; have HK1 := Lib.hid hk; clear hk) | (go_at_call 61; refine hkd.mono ?_; rintro e w'' ⟨rfl, hk⟩; have HK2 := Lib.hid hk; clear hk))
          go_ret
          exact ⟨rfl, (HK0.out.trans HK1.out (fun _ _ x => x)).trans HK2.out (fun _ _ x => x)⟩
        | false =>
          rw [hns] at hst
          have e : (decide (k = k) && decide (nm = nm) && false && sk) = false := by simp
          rw [e]
          clear e hns HK HB
          go_enter Tryd.func54, Tryd.ntmps54
          go_wp2_with (first | (go_at_call 60; refine hst.mono ?_; rintro e w' ⟨rfl, hk⟩; have HK1 := Lib.hid hk; clear hk))
          go_ret
          exact ⟨rfl, HK0.out.trans HK1.out (fun _ _ x => x)⟩
      · have e : (decide (k = k) && decide (nm = nm') && decide (ns = ns') && sk) = false := by simp [hnm]
        rw [e]
        have hd := str_bne hnm
        clear e hst HK HB
        go_enter Tryd.func54, Tryd.ntmps54
        go_wp2_with fail
        go_ret
        exact ⟨rfl, HK0.out⟩
    · have e : (decide (k = k') && decide (nm = nm') && decide (ns = ns') && sk) = false := by simp [hk]
      rw [e]
      have hd : (k == k') = false := by simp [hk]
      clear e hst HK HB
      go_enter Tryd.func54, Tryd.ntmps54
      go_wp2_with fail
      go_ret
      exact ⟨rfl, HK0.out⟩
end Go.Proofs.YtbanpohholnkaaaDoor
