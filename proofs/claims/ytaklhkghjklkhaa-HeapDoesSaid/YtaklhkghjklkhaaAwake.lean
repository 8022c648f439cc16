/-
  Walk: the chapter's example (awake) answers true, and leaves what was there. Conditions: none.
-/
import Derived.Test.YtaklhkghjklkhaaAbs
namespace Go.Proofs.Ytaklhkghjklkhaa
open Go.RowKit

theorem reachO_nil {objs : List Obj'} {i : Nat} : ¬ ReachO objs [] i := by
  intro h
  induction h with
  | root h _ => cases h
  | step _ _ _ _ _ _ ih => exact ih
theorem filter_nil_reach {objs : List Obj'} {M : Nat → Bool} (h : ∀ i, M i = true ↔ ReachO objs [] i) : (objs.filter fun o => M o.1) = [] := by
  rw [List.filter_eq_nil_iff]
  intro o _ hm
  exact reachO_nil ((h o.1).1 hm)
/-- a slice that lies at the head of a block of its own -/
theorem Rd.block {w : World} {X : Nat → Prop} {b n size : Nat} {e : TypeId} {cs : Array Value} (h : At w b e cs) (hX : ¬ X b) (hl : cs.size = n * size) : Rd w X size (.slice (some ⟨b, 0, none⟩) n n) n cs.toList :=
  ⟨by simpa using hl, _, n, rfl, Nat.le_refl _, fun _ => ⟨b, 0, rfl, h.lt, hX, fun j _ => by rw [Nat.zero_add, h.cell]; simp⟩⟩

/-- The arena at p, made since w0; what was there at w0 is as it was. -/
structure St (w0 w : World) (X : Nat → Prop) (p : Nat) (m : Int) (N : Nat) (objs : List Obj') : Prop where
  ar : Arena w p X m N objs
  keep : Keep (fun _ => False) w0 w
  new : ∀ i, X i → w0.heap.size ≤ i
section
variable {w0 w w' : World} {X : Nat → Prop} {p : Nat} {m : Int} {N : Nat} {objs : List Obj'}
theorem St.step (h : St w0 w X p m N objs) (k : Keep (fun _ => False) w w') : St w0 w' X p m N objs := ⟨h.ar.keep k (fun _ _ x => x), h.keep.trans k (fun _ _ x => x), h.new⟩
theorem St.al (h : St w0 w X p m N objs) (o : Obj) : St w0 (w.alloc o) X p m N objs := h.step ((Keep.refl _ w).alloc o)
theorem St.make (c : Int) (hc : c ≤ 9223372036854775807) (h : Keep (fun _ => False) w0 w) : Calls Try.prog 10 #[.int .i64 c] w fun e w' => ∃ X, e = .returned (.pointer (some ⟨w.heap.size, 0, none⟩)) ∧ St w0 w' X w.heap.size (max c 0) 0 [] := by
  refine (new_arena c hc w).mono ?_
  rintro e w' ⟨X, rfl, h1, h2, h3⟩
  exact ⟨X, rfl, h1, h.trans h2 (fun _ _ x => x), fun i hi => Nat.le_trans h.size (h3 i hi)⟩
theorem St.alloc (h : St w0 w X p m N objs) {l : List Sl} {lv : Value} {n : Nat} (hn : n = l.length) (hr : Rd w X 2 lv n (sflat l)) (hl : l.length ≤ 100000) (hN : N + l.length + 1 ≤ 500000) :
    Calls Try.prog 11 #[.pointer (some ⟨p, 0, none⟩), lv] w fun e w' =>
      ((¬ ∀ s ∈ l, okSl objs s) ∧ e = .returned (.tuple #[.int .i64 0, .int .i64 1]) ∧ St w0 w' X p m N objs ∧ Keep (fun _ => False) w w') ∨
      ((∀ s ∈ l, okSl objs s) ∧ m - usum objs ≤ l.length ∧ e = .returned (.tuple #[.int .i64 0, .int .i64 22]) ∧ St w0 w' X p m N objs ∧ Keep (fun _ => False) w w') ∨
      ((∀ s ∈ l, okSl objs s) ∧ (l.length : Int) < m - usum objs ∧ ∃ (r : Nat) (X' : Nat → Prop), e = .returned (.tuple #[.int .i64 r, .int .i64 0]) ∧ ¬ hasK objs r ∧ St w0 w' X' p m (N + l.length + 1) ((r, l) :: objs) ∧ Keep X w w' ∧ ∀ i, X' i → X i ∨ w.heap.size ≤ i) := by
  refine (h.ar.alloc hn hr hl hN).mono ?_
  rintro e w' (⟨h1, rfl, h3, h4⟩ | ⟨h1, h2, rfl, h3, h4⟩ | ⟨h1, h2, r, X2, rfl, hr, hA3, hk3, hX3⟩)
  · exact .inl ⟨h1, rfl, h.step h4, h4⟩
  · exact .inr (.inl ⟨h1, h2, rfl, h.step h4, h4⟩)
  · exact .inr (.inr ⟨h1, h2, r, X2, rfl, hr, ⟨hA3, h.keep.trans hk3 (fun i hi hx => by have := h.new i hx; omega), fun i hi => by
      rcases hX3 i hi with h' | h'
      · exact h.new i h'
      · exact Nat.le_trans h.keep.size h'⟩, hk3, hX3⟩)
theorem St.collect (h : St w0 w X p m N objs) {rs : List Int} {rv : Value} {n : Nat} (hn : n = rs.length) (hr : Rd w (fun _ => False) 1 rv n (ints rs)) (hn1 : n ≤ 500000) :
    Calls Try.prog 12 #[.pointer (some ⟨p, 0, none⟩), rv] w fun e w' => ∃ M : Nat → Bool, (∀ i, M i = true ↔ ReachO objs rs i) ∧ e = .returned (.int .i64 ((usum objs : Int) - usum (objs.filter fun o => M o.1))) ∧ St w0 w' X p m N (objs.filter fun o => M o.1) ∧ Keep X w w' := by
  refine (h.ar.collect hn hr hn1).mono ?_
  rintro e w' ⟨M, h1, rfl, h2, h3⟩
  exact ⟨M, h1, rfl, ⟨h2, h.keep.trans h3 (fun i hi hx => by have := h.new i hx; omega), h.new⟩, h3⟩
end

set_option maxHeartbeats 2000000 in
theorem awake_any (w : World) : Calls Try.prog 8 #[] w fun e w' => e = .returned (.bool true) ∧ Keep (fun _ => False) w w' := by
  go_enter Try.func8, Try.ntmps8
  go_wp2_with fail
  refine (St.make 5 (by decide) (Keep.refl _ w)).mono ?_
  rintro e w1 ⟨X1, rfl, h1⟩
  have H1 := Lib.hid h1
  clear h1
  go_wp2_with fail
  refine ((H1.out.al (.cells #[.bool false, .int .i64 1, .bool false, .int .i64 2] 32)).alloc (l := [⟨false, 1⟩, ⟨false, 2⟩]) (n := 2) rfl (Rd.block (At.new _ _ _) (fun hx => by have := H1.out.ar.lt _ hx; omega) rfl) (by decide) (by decide)).mono ?_
  rintro e w2 (⟨h, _⟩ | ⟨_, h, _⟩ | ⟨_, _, r, X2, rfl, _, h2, _⟩)
  · exact absurd (fun s hs => by simp at hs; rcases hs with rfl | rfl <;> simp [okSl]) h
  · exact absurd h (by decide)
  have H2 := Lib.hid h2
  clear h2 H1
  go_wp2_with fail
  refine ((H2.out.al (.cells #[.bool true, .int .i64 r] 32)).alloc (l := [⟨true, r⟩]) (n := 1) rfl (Rd.block (At.new _ _ _) (fun hx => by have := H2.out.ar.lt _ hx; omega) rfl) (by simp) (by simp)).mono ?_
  rintro e w3 (⟨h, _⟩ | ⟨_, h, _⟩ | ⟨_, _, r2, X3, rfl, _, h3, _⟩)
  · exact absurd (fun s hs => by simp at hs; subst hs; exact fun _ => ⟨_, List.mem_cons_self, rfl⟩) h
  · exact absurd h (by simp [usum]; omega)
  have H3 := Lib.hid h3
  clear h3 H2
  go_wp2_with fail
  refine (H3.out.alloc (l := []) (n := 0) rfl (Rd.nil _ _ 2) (by simp) (by simp)).mono ?_
  rintro e w4 (⟨h, _⟩ | ⟨_, _, rfl, h4, _⟩ | ⟨_, h, _⟩)
  · exact absurd (fun s hs => by simp at hs) h
  · have H4 := Lib.hid h4
    clear h4 H3
    have hob := H4.out.ar.objects
    have hco := fun (rv : Value) (hr : Rd w4 (fun _ => False) 1 rv 0 (ints [])) => H4.out.collect (rs := []) (n := 0) rfl hr (by decide)
    go_wp2_with (first | (go_at_call 20; refine hob.mono ?_; rintro e w' ⟨rfl, rfl⟩) | (go_at_call 12; refine (hco _ (Rd.nil _ _ 1)).mono ?_; rintro e w5 ⟨M, hM, rfl, h5, _⟩; rw [filter_nil_reach hM] at h5 ⊢; have H5 := Lib.hid h5; have hus := h5.ar.used; clear h5 hM) | (go_at_call 13; refine hus.mono ?_; rintro e w' ⟨rfl, rfl⟩))
    go_ret
    exact ⟨ret_bool (by simp [usum]), H5.out.keep⟩
  · exact absurd h (by simp [usum]; omega)
end Go.Proofs.Ytaklhkghjklkhaa
