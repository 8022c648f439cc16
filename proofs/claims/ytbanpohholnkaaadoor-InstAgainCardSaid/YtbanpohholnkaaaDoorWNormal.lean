/-
  Walk: rel.normal. Conditions: the table strings.asciiSpace lies as the program lays it.
-/
import Derived.Test.YtbanpohholnkaaaDoorWords
import Derived.Test.YtbanpohholnkaaaDoorRelQ
namespace Go.Proofs.YtbanpohholnkaaaDoor
open Go.RowKit

def NoA (w : World) (l : List Ty) (n : Nat) (k : Nat) (v : Value) (wr : World) : Prop :=
  ∃ i : Nat, v = .int .i64 i ∧ i ≤ n ∧ k = n - i ∧ (∀ x ∈ l.take i, normB x = true) ∧ Keep (fun _ => False) w wr
theorem all_bad {l : List Ty} {x : Ty} (hx : x ∈ l) (h : normB x = false) : l.all normB = false := by
  cases hc : l.all normB with
  | false => rfl
  | true =>
    rw [List.all_eq_true] at hc
    rw [hc x hx] at h
    cases h
theorem take_norm {l : List Ty} {i : Nat} {x : Ty} (h : ∀ y ∈ l.take i, normB y = true) (hx : l[i]? = some x) (hf : normB x = true) : ∀ y ∈ l.take (i + 1), normB y = true := fun y hy => by
  rw [List.take_add_one, hx] at hy
  rcases List.mem_append.1 hy with hy | hy
  · exact h y hy
  · have : y = x := by simpa using hy
    rw [this]
    exact hf
set_option maxRecDepth 100000 in
set_option maxHeartbeats 4000000 in
theorem normal_any {w : World} {A : Option Addr} {n c : Nat} {l : List Ty} {rs : List Tv} (hb : n ≤ 140737488355328) (hT : Tab w) (h : Rd w nX 4 (.slice A n c) n (tflat rs)) (hv : TysV w nX rs l) :
    Calls Tryd.prog 33 #[.slice A n c] w fun e w' => e = .returned (.bool (l.all normB)) ∧ Keep (fun _ => False) w w' := by
  have hl := hv.len
  have hn := h.nlen
  have HH := Lib.hid (And.intro h (And.intro hv (And.intro hT (And.intro hl hn))))
  have h0 : Hid (NoA w l n n (.int .i64 0) w) := ⟨0, rfl, Nat.zero_le _, rfl, by simp, Keep.refl _ _⟩
  clear h hv hT hl hn
  go_enter Tryd.func33, Tryd.ntmps33
  go_wp2
  go_loopg [9] n (NoA w l n)
  case atStart => exact h0.out
  case round =>
    clear h0
    obtain ⟨i, rfl, hi, rfl, hall, hk⟩ := hrel
    by_cases hlt : i < n
    · obtain ⟨s, hs⟩ : ∃ s, l[i]? = some s := ⟨_, List.getElem?_eq_getElem (by have := HH.out.2.2.2; omega)⟩
      obtain ⟨q, hq, hqv⟩ := (HH.out.2.1.step hk).at_ hs
      obtain ⟨b, o, rfl, hbz, _, c0, c1, c2, c3⟩ := (HH.out.1.keep hk (fun _ x => x.elim)).tcells hlt hq
      obtain ⟨k, nm, An, nn, cn, Ak, nk, ck⟩ := q
      simp only at c0 c1 c2 c3
      have hcn := Norm_any (X := nX) (fun _ h => h.elim) ((HH.out.2.2.1.step hk).step ((Keep.refl _ wr).alloc (.cells #[.int .i64 k, .string nm, .slice An nn cn, .slice Ak nk ck] 25))) (hqv.step ((Keep.refl _ wr).alloc (.cells #[.int .i64 k, .string nm, .slice An nn cn, .slice Ak nk ck] 25)))
      unfold Tv.val at hcn
      simp only at hcn
      have abx : At (wr.alloc (.cells #[.int .i64 k, .string nm, .slice An nn cn, .slice Ak nk ck] 25)) wr.heap.size 25 #[.int .i64 k, .string nm, .slice An nn cn, .slice Ak nk ck] := At.new _ _ _
      have HS := Lib.hid (And.intro hall (And.intro hk (And.intro hs (And.intro (hqv.step ((Keep.refl _ wr).alloc (.cells #[.int .i64 k, .string nm, .slice An nn cn, .slice Ak nk ck] 25))) abx))))
      clear hall hk hs hq hqv abx
      cases ho : NormT s with
      | none =>
        rw [ho] at hcn
        have HN := Lib.hid (normB_no (t := s) (by rw [ho]; simp))
        clear ho
        go_wp2_with (go_at_call 42; refine hcn.mono ?_; rintro e w1 ⟨he, hk1⟩; unfold NormP at he; simp only [Tv.val, tv0] at he; subst he; have K1 := Lib.hid hk1; clear hk1 hcn)
        go_ret
        exact ⟨ret_bool (all_bad (List.mem_of_getElem? HS.out.2.2.1) HN.out).symm, ((HS.out.2.1.alloc _).trans K1.out (fun _ _ x => x)).alloc _⟩
      | some t' =>
        rw [ho] at hcn
        have HO := Lib.hid ho
        clear ho
        cases hst : sameT t' s with
        | false =>
          have HN := Lib.hid (normB_no (t := s) (by rw [HO.out]; intro e; rw [Option.some.inj e, sameT_refl] at hst; cases hst))
          have HST := Lib.hid hst
          clear hst
          go_wp2_with (first
            | (go_at_call 42; refine hcn.mono ?_; rintro e w1 ⟨⟨⟨pk, pnm, pAn, pnn, pcn, pAk, pnk, pck⟩, he, hp⟩, hk1⟩; simp only [Tv.val] at he; subst he; obtain ⟨xl, x0, x1, x2, x3⟩ := (hk1.at_ HS.out.2.2.2.2 (fun x => x)).tcells; have hcs := same_any (X := nX) (Y := nX) t' s (w1.alloc (.cells #[.int .i64 pk, .string pnm, .slice pAn pnn pcn, .slice pAk pnk pck] 25)) ⟨pk, pnm, pAn, pnn, pcn, pAk, pnk, pck⟩ ⟨k, nm, An, nn, cn, Ak, nk, ck⟩ (hp.step ((Keep.refl _ w1).alloc _)) ((HS.out.2.2.2.1.step hk1).step ((Keep.refl _ w1).alloc _)); rw [HST.out] at hcs; unfold Tv.val at hcs; simp only at hcs; have K1 := Lib.hid hk1; clear hk1 hcn hp)
            | (go_at_call 54; refine hcs.mono ?_; rintro e w2 ⟨rfl, hk2⟩; have K2 := Lib.hid hk2; clear hk2 hcs))
          go_ret
          exact ⟨ret_bool (all_bad (List.mem_of_getElem? HS.out.2.2.1) HN.out).symm, (((HS.out.2.1.alloc _).trans K1.out (fun _ _ x => x)).alloc _).trans K2.out (fun _ _ x => x)⟩
        | true =>
          have HN := Lib.hid (normB_iff.2 (show NormT s = some s by rw [HO.out, sameT_iff.1 hst]))
          have HST := Lib.hid hst
          clear hst
          go_wp2_with (first
            | (go_at_call 42; refine hcn.mono ?_; rintro e w1 ⟨⟨⟨pk, pnm, pAn, pnn, pcn, pAk, pnk, pck⟩, he, hp⟩, hk1⟩; simp only [Tv.val] at he; subst he; obtain ⟨xl, x0, x1, x2, x3⟩ := (hk1.at_ HS.out.2.2.2.2 (fun x => x)).tcells; have hcs := same_any (X := nX) (Y := nX) t' s (w1.alloc (.cells #[.int .i64 pk, .string pnm, .slice pAn pnn pcn, .slice pAk pnk pck] 25)) ⟨pk, pnm, pAn, pnn, pcn, pAk, pnk, pck⟩ ⟨k, nm, An, nn, cn, Ak, nk, ck⟩ (hp.step ((Keep.refl _ w1).alloc _)) ((HS.out.2.2.2.1.step hk1).step ((Keep.refl _ w1).alloc _)); rw [HST.out] at hcs; unfold Tv.val at hcs; simp only at hcs; have K1 := Lib.hid hk1; clear hk1 hcn hp)
            | (go_at_call 54; refine hcs.mono ?_; rintro e w2 ⟨rfl, hk2⟩; have K2 := Lib.hid hk2; clear hk2 hcs))
          go_roundg (n - (i + 1))
          case measure => omega
          case rel => exact ⟨i + 1, by go_num, by omega, rfl, take_norm HS.out.1 HS.out.2.2.1 HN.out, (((HS.out.2.1.alloc _).trans K1.out (fun _ _ x => x)).alloc _).trans K2.out (fun _ _ x => x)⟩
    · have hee : l.all normB = true := by
        rw [List.take_of_length_le (by have := HH.out.2.2.2; omega)] at hall
        rw [List.all_eq_true]
        exact hall
      have HN := Lib.hid (And.intro hee hk)
      clear hee hall hk
      go_wp2_with fail
      go_ret
      exact ⟨ret_bool HN.out.1.symm, HN.out.2⟩
end Go.Proofs.YtbanpohholnkaaaDoor
