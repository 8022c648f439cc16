/-
  Walks: types.Size, height, Height, Tag; graduslaw03.small. Conditions: none beyond what each says.
-/
import Derived.Test.YtbanpohholnkaaaDoorTy
namespace Go.Proofs.YtbanpohholnkaaaDoor
open Go.RowKit

theorem htL_ge (ks : List Ty) (i : Nat) (k : Ty) (h : ks[i]? = some k) : htL (ks.take (i + 1)) = max (htL (ks.take i)) k.ht := by
  rw [List.take_add_one, h, htL_append]
  simp [htL]
theorem sizeL_take (ks : List Ty) (i : Nat) (k : Ty) (h : ks[i]? = some k) : sizeL (ks.take (i + 1)) = sizeL (ks.take i) + k.size := by
  rw [List.take_add_one, h, sizeL_append]
  simp [sizeL]
theorem sizeL_le (ks : List Ty) (i : Nat) : sizeL (ks.take i) ≤ sizeL ks := by
  conv => rhs; rw [← List.take_append_drop i ks, sizeL_append]
  omega

def tagT (t : Ty) : Int := if t.kind < 1 ∨ 6 < t.kind then -1 else t.kind - 1
set_option maxHeartbeats 400000 in
theorem tag_any {w : World} {X : Nat → Prop} {r : Tv} {t : Ty} (h : TyV w X r t) :
    Calls Tryd.prog 69 #[r.val] w fun e w' => e = .returned (.int .i64 (tagT t)) ∧ Keep (fun _ => False) w w' := by
  have hk := h.out.1.1
  obtain ⟨k, nm, An, nn, cn, Ak, nk, ck⟩ := r
  simp only at hk
  unfold Tv.val tagT
  rw [← hk]
  clear h hk
  simp only
  by_cases h1 : k < 1
  · have d1 : decide (k < 1) = true := by simpa using h1
    rw [if_pos (.inl h1)]
    go_enter Tryd.func69, Tryd.ntmps69
    go_wp2
    go_ret
    exact ⟨rfl, (Keep.refl _ w).alloc _⟩
  · by_cases h6 : 6 < k
    · have d1 : decide (k < 1) = false := by simpa using h1
      have d6 : decide (6 < k) = true := by simpa using h6
      rw [if_pos (.inr h6)]
      go_enter Tryd.func69, Tryd.ntmps69
      go_wp2
      go_ret
      exact ⟨rfl, (Keep.refl _ w).alloc _⟩
    · have d1 : decide (k < 1) = false := by simpa using h1
      have d6 : decide (6 < k) = false := by simpa using h6
      rw [if_neg (by omega)]
      go_enter Tryd.func69, Tryd.ntmps69
      go_wp2
      go_ret
      exact ⟨rfl, (Keep.refl _ w).alloc _⟩

def SzA (w : World) (ks : List Ty) (k : Nat) (a b : Value) (wr : World) : Prop :=
  ∃ i m : Nat, b = .int .i64 i ∧ a = .int .i64 m ∧ i ≤ ks.length ∧ k = ks.length - i ∧ m ≤ 401 ∧ min m 201 = min (1 + sizeL (ks.take i)) 201 ∧ Keep (fun _ => False) w wr
set_option maxHeartbeats 2000000 in
theorem size_any {X : Nat → Prop} (t : Ty) : ∀ (w : World) (r : Tv), TyV w X r t →
    Calls Tryd.prog 39 #[r.val] w fun e w' => e = .returned (.int .i64 (min t.size 201 : Nat)) ∧ Keep (fun _ => False) w w' := by
  induction t using Ty.ind with
  | h t ih =>
    intro w r h
    have hnk : r.nk = t.kids.length := by obtain ⟨_, _, _, _, rs, h5, _⟩ := h.out; exact h5
    have hkb : t.kids.length ≤ 140737488355328 := by rw [← hnk]; exact h.out.1.2.2
    have HH := Lib.hid (And.intro h ih)
    obtain ⟨k, nm, An, nn, cn, Ak, nk, ck⟩ := r
    simp only at hnk
    subst hnk
    unfold Tv.val
    simp only
    have h0 : Hid (SzA w t.kids t.kids.length (.int .i64 1) (.int .i64 0) (w.alloc (.cells #[.int .i64 k, .string nm, .slice An nn cn, .slice Ak t.kids.length ck] 25))) := ⟨0, 1, rfl, rfl, Nat.zero_le _, rfl, by decide, by simp [sizeL], (Keep.refl _ w).alloc _⟩
    clear h ih
    go_enter Tryd.func39, Tryd.ntmps39
    go_wp2
    go_loopg [3, 9] t.kids.length (SzA w t.kids)
    case atStart => exact h0.out
    case round =>
      clear h0
      obtain ⟨i, m, rfl, rfl, hi, rfl, hm, hs, hk⟩ := hrel
      by_cases hlt : i < t.kids.length
      · obtain ⟨kd, q, b, o, hkd, hq, rfl, hb, _, c0, c1, c2, c3⟩ := (HH.out.1.step hk).kid (i := i) hlt
        have HI := HH.out.2 kd (Ty.kid_lt (List.mem_of_getElem? hkd))
        have HS := Lib.hid (And.intro hs (And.intro hk (And.intro hkd hq)))
        clear hs hk hkd hq
        by_cases h200 : 200 < m
        · have d2 : decide (200 < (m : Int)) = true := by simp; omega
          have hmm : min t.size 201 = 201 := by
            obtain ⟨hs, _⟩ := HS.out
            have := sizeL_le t.kids i
            have := t.size_eq
            omega
          have HM := Lib.hid hmm
          clear HI hmm
          go_wp2
          all_goals go_ret
          all_goals exact ⟨ret_int (by have := HM.out; omega), HS.out.2.1.alloc _⟩
        · have d2 : decide (200 < (m : Int)) = false := by simp; omega
          have hc := HI (wr.alloc (.cells #[.int .i64 q.k, .string q.nm, .slice q.An q.nn q.cn, .slice q.Ak q.nk q.ck] 25)) q (HS.out.2.2.2.step ((Keep.refl _ wr).alloc _))
          unfold Tv.val at hc
          obtain ⟨z, hz⟩ : ∃ z, min kd.size 201 = z := ⟨_, rfl⟩
          rw [hz] at hc
          have hz1 : z ≤ 201 := by omega
          have HZ := Lib.hid hz
          clear HI hz
          go_wp2_with (go_at_call 39; refine hc.mono ?_; rintro e w' ⟨rfl, hk⟩; have HK := Lib.hid hk; clear hk hc)
          go_roundg (t.kids.length - (i + 1))
          case measure => omega
          case rel =>
            obtain ⟨hs, hk, hkd, hq⟩ := HS.out
            have hz := HZ.out
            refine ⟨i + 1, m + z, by go_num, by go_num, by omega, rfl, by omega, ?_, (hk.alloc _).trans HK.out (fun _ _ x => x)⟩
            rw [sizeL_take _ _ _ hkd]
            omega
      · have hmm : min t.size 201 = min m 201 := by
          have h2 := hs
          rw [List.take_of_length_le (by omega)] at h2
          have := t.size_eq
          omega
        have HM := Lib.hid hmm
        clear hmm hs
        have HS := Lib.hid hk
        clear hk
        go_wp2
        all_goals go_ret
        all_goals exact ⟨ret_int (by have := HM.out; omega), HS.out⟩
end Go.Proofs.YtbanpohholnkaaaDoor
