/-
  The arena as its callers see it: objects by their numbers, each with its slots; what each method does to them. Conditions: counts below 2^19.
-/
import Derived.Test.YtaklhkghjklkhaaWAlloc
namespace Go.Proofs.Ytaklhkghjklkhaa
open Go.RowKit

abbrev Obj' := Nat × List Sl
def usum (objs : List Obj') : Nat := (objs.map fun o => o.2.length + 1).sum
def hasK (objs : List Obj') (r : Int) : Prop := ∃ o ∈ objs, (o.1 : Int) = r
instance (objs : List Obj') (r : Int) : Decidable (hasK objs r) := by unfold hasK; infer_instance
def Arena (w : World) (p : Nat) (X : Nat → Prop) (m : Int) (N : Nat) (objs : List Obj') : Prop :=
  ∃ (v : Value) (S : Ar) (O : List Ob) (fl : List Nat) (own : Nat → Nat), X = fp p v ∧ ArV w p v S ∧ Inv S F0 O fl [] own ∧ S.most = m ∧ 0 ≤ m ∧ m ≤ 9223372036854775807 ∧ S.cs.length ≤ N ∧ N ≤ 500000 ∧ objs = O.map fun o => (o.1, slotsOf S.cs o.2)
inductive ReachO (objs : List Obj') (rs : List Int) : Nat → Prop
  | root {i : Nat} : (i : Int) ∈ rs → hasK objs i → ReachO objs rs i
  | step {i j : Nat} {sl : List Sl} {s : Sl} : ReachO objs rs i → (i, sl) ∈ objs → s ∈ sl → s.ref = true → s.n = (j : Int) → hasK objs j → ReachO objs rs j

section
variable {w w' : World} {p : Nat} {X Y : Nat → Prop} {m : Int} {N : Nat} {objs : List Obj'}
theorem Arena.keep (h : Arena w p X m N objs) (k : Keep Y w w') (hd : ∀ i, X i → ¬ Y i) : Arena w' p X m N objs := by
  obtain ⟨v, S, O, fl, own, rfl, ha, r⟩ := h
  exact ⟨v, S, O, fl, own, rfl, ha.keep k hd, r⟩
theorem Arena.lt (h : Arena w p X m N objs) : ∀ i, X i → i < w.heap.size := by
  obtain ⟨v, S, O, fl, own, rfl, ha, r⟩ := h
  exact ha.lt
theorem Arena.at_p (h : Arena w p X m N objs) : X p := by
  obtain ⟨v, S, O, fl, own, rfl, ha, r⟩ := h
  exact .inl rfl
theorem Arena.le (h : Arena w p X m N objs) : N ≤ 500000 := by
  obtain ⟨v, S, O, fl, own, rfl, ha, _, _, _, _, _, h, _⟩ := h
  exact h
theorem Arena.more (h : Arena w p X m N objs) {N' : Nat} (h1 : N ≤ N') (h2 : N' ≤ 500000) : Arena w p X m N' objs := by
  obtain ⟨v, S, O, fl, own, a, b, c, d, e, f, g, _, i⟩ := h
  exact ⟨v, S, O, fl, own, a, b, c, d, e, f, Nat.le_trans g h1, h2, i⟩
theorem Arena.keys (h : Arena w p X m N objs) : (objs.map (·.1)).Nodup := by
  obtain ⟨v, S, O, fl, own, a, b, c, d, e, f, g, _, rfl⟩ := h
  simpa [List.map_map, Function.comp_def] using c.keys
theorem usum_eq {S : Ar} {O : List Ob} : usum (O.map fun o => (o.1, slotsOf S.cs o.2)) = obsum O := by
  simp [usum, obsum, List.map_map, Function.comp_def, slotsOf_length]
theorem Arena.count (h : Arena w p X m N objs) : objs.length ≤ N ∧ objs.length ≤ usum objs ∧ usum objs ≤ 250000000000 := by
  obtain ⟨v, S, O, fl, own, a, b, c, d, e, f, g, h5, rfl⟩ := h
  refine ⟨by simpa using Nat.le_trans c.obs_le g, ?_, ?_⟩
  · unfold usum
    rw [List.map_map]
    clear c
    induction O with
    | nil => simp
    | cons o O ih => simp only [List.map_cons, List.length_cons, List.sum_cons, Function.comp] at ih ⊢; omega
  · rw [usum_eq]
    exact Nat.le_trans c.obsum_le (Nat.mul_le_mul (Nat.le_trans g h5) (Nat.le_trans g h5))
theorem Arena.used (h : Arena w p X m N objs) : Calls Try.prog 13 #[.pointer (some ⟨p, 0, none⟩)] w fun e w' => e = .returned (.int .i64 (usum objs)) ∧ w = w' := by
  obtain ⟨v, S, O, fl, own, a, b, c, d, e, f, g, _, rfl⟩ := h
  have := used_any b
  rw [c.used] at this
  rw [usum_eq]
  simpa using this
theorem Arena.objects (h : Arena w p X m N objs) : Calls Try.prog 20 #[.pointer (some ⟨p, 0, none⟩)] w fun e w' => e = .returned (.int .i64 objs.length) ∧ w = w' := by
  obtain ⟨v, S, O, fl, own, a, b, c, d, e, f, g, _, rfl⟩ := h
  have := objects_any b
  rw [c.objects] at this
  simpa using this
theorem new_arena (c : Int) (hc : c ≤ 9223372036854775807) (w : World) : Calls Try.prog 10 #[.int .i64 c] w fun e w' => ∃ X, e = .returned (.pointer (some ⟨w.heap.size, 0, none⟩)) ∧ Arena w' w.heap.size X (max c 0) 0 [] ∧ Keep (fun _ => False) w w' ∧ ∀ i, X i → w.heap.size ≤ i := by
  refine (new_any c w).mono ?_
  rintro e w' ⟨rfl, rfl⟩
  refine ⟨fp w.heap.size (.slice none 0 0), rfl, ⟨.slice none 0 0, ar0 (max c 0), [], [], fun _ => 0, rfl, ⟨At.new w _ _, World.ownsRow_nil _ 0 59 5⟩, ?_, rfl, by omega, by omega, Nat.le_refl _, by omega, rfl⟩, (Keep.refl _ w).alloc _, ?_⟩
  · exact ⟨fun k c h => by simp [ar0] at h, fun k c h => by simp [ar0] at h, rfl, List.nodup_nil, (fun k hk => nomatch hk), (fun k hk => nomatch hk), (fun k hk => nomatch hk), List.nodup_nil, rfl, rfl, fun k c h => by simp [ar0] at h⟩
  · intro i hi
    rcases hi with rfl | hi
    · exact Nat.le_refl _
    · simp [Value.ownBlock] at hi
theorem hasK_iff {S : Ar} {M : Nat → Bool} {O : List Ob} {fl part : List Nat} {own : Nat → Nat} (h : Inv S M O fl part own) (r : Int) : isB S r = true ↔ hasK (O.map fun o => (o.1, slotsOf S.cs o.2)) r := by
  rw [h.isB_iff]
  constructor
  · rintro ⟨o, ho, rfl⟩
    exact ⟨_, List.mem_map.2 ⟨o, ho, rfl⟩, rfl⟩
  · rintro ⟨o, ho, rfl⟩
    obtain ⟨o', ho', rfl⟩ := List.mem_map.1 ho
    exact ⟨o', ho', rfl⟩
/-- Alloc: one of three. -/
def okSl (objs : List Obj') (s : Sl) : Prop := s.ref = true → hasK objs s.n
def AllocO (w : World) (p : Nat) (X : Nat → Prop) (m : Int) (N : Nat) (objs : List Obj') (l : List Sl) (e : Ending) (w' : World) : Prop :=
  ((¬ ∀ s ∈ l, okSl objs s) ∧ e = .returned (.tuple #[.int .i64 0, .int .i64 1]) ∧ Arena w' p X m N objs ∧ Keep (fun _ => False) w w') ∨
  ((∀ s ∈ l, okSl objs s) ∧ m - usum objs ≤ l.length ∧ e = .returned (.tuple #[.int .i64 0, .int .i64 22]) ∧ Arena w' p X m N objs ∧ Keep (fun _ => False) w w') ∨
  ((∀ s ∈ l, okSl objs s) ∧ (l.length : Int) < m - usum objs ∧ ∃ (r : Nat) (X' : Nat → Prop), e = .returned (.tuple #[.int .i64 r, .int .i64 0]) ∧ ¬ hasK objs r ∧ Arena w' p X' m (N + l.length + 1) ((r, l) :: objs) ∧ Keep X w w' ∧ ∀ i, X' i → X i ∨ w.heap.size ≤ i)
theorem Arena.alloc (h : Arena w p X m N objs) {l : List Sl} {lv : Value} {n : Nat} (hn : n = l.length) (hr : Rd w X 2 lv n (sflat l)) (hl : l.length ≤ 100000) (hN : N + l.length + 1 ≤ 500000) :
    Calls Try.prog 11 #[.pointer (some ⟨p, 0, none⟩), lv] w (AllocO w p X m N objs l) := by
  subst hn
  obtain ⟨v, S, O, fl, own, rfl, b, c, d, e, f, g, g2, rfl⟩ := h
  have hg : ∀ s, goodSl S s = true ↔ okSl (O.map fun o => (o.1, slotsOf S.cs o.2)) s := by
    intro s
    rw [okSl, ← hasK_iff c, goodSl]
    cases s.ref <;> simp
  have hall : l.all (goodSl S) = true ↔ ∀ s ∈ l, okSl (O.map fun o => (o.1, slotsOf S.cs o.2)) s := by
    rw [List.all_eq_true]
    exact ⟨fun h s hs => (hg s).1 (h s hs), fun h s hs => (hg s).2 (h s hs)⟩
  have hu := c.used
  have hu' : (usum (O.map fun o => (o.1, slotsOf S.cs o.2)) : Int) = S.used := by rw [usum_eq, hu]; simp
  refine (alloc_any b c hr (by omega) hl (by omega) (by omega)).mono ?_
  rintro e' w' (⟨h1, rfl, h3, h4⟩ | ⟨h1, h2, rfl, h3, h4⟩ | ⟨h1, h2, r, body, S', fl', own', v', rfl, hM⟩)
  · exact .inl ⟨(fun hx => by rw [hall.2 hx] at h1; cases h1), rfl, ⟨v, S, O, fl, own, rfl, h3, c, d, e, f, g, g2, rfl⟩, h4⟩
  · exact .inr (.inl ⟨hall.1 h1, by rw [hu', ← d]; exact h2, rfl, ⟨v, S, O, fl, own, rfl, h3, c, d, e, f, g, g2, rfl⟩, h4⟩)
  · refine .inr (.inr ⟨hall.1 h1, by rw [hu', ← d]; exact h2, r, fp p v', rfl, ?_, ⟨v', S', (r, body) :: O, fl', own', rfl, hM.ar, hM.inv, hM.most.trans d, e, f, ?_, hN, ?_⟩, hM.keep, hM.fps⟩)
    · rintro ⟨o, ho, he⟩
      obtain ⟨o', ho', rfl⟩ := List.mem_map.1 ho
      exact hM.ne o' ho' (by simp only at he; omega)
    · have := hM.len; omega
    · simp only [List.map_cons, hM.slots]
      congr 1
      apply List.map_congr_left
      intro o ho
      rw [hM.others o ho]
/-- Get -/
theorem Arena.get_no (h : Arena w p X m N objs) {r : Int} (hr : ¬ hasK objs r) : Calls Try.prog 19 #[.pointer (some ⟨p, 0, none⟩), .int .i64 r] w fun e w' => e = .returned (.tuple #[.slice none 0 0, .bool false]) ∧ w = w' := by
  obtain ⟨v, S, O, fl, own, rfl, b, c, d, e, f, g, g2, rfl⟩ := h
  refine Go.Proofs.Ytaklhkghjklkhaa.get_no b ?_
  cases hb : isB S r with
  | false => rfl
  | true => exact absurd ((hasK_iff c r).1 hb) hr
theorem Arena.get_yes (h : Arena w p X m N objs) {r : Nat} {l : List Sl} (hr : (r, l) ∈ objs) : Calls Try.prog 19 #[.pointer (some ⟨p, 0, none⟩), .int .i64 r] w fun e w' => ∃ lv, e = .returned (.tuple #[lv, .bool true]) ∧ w'.ownsRow 0 32 2 lv l.length (sflat l) ∧ Keep (fun _ => False) w w' ∧ ∀ i, lv.ownBlock = some i → w.heap.size ≤ i := by
  obtain ⟨v, S, O, fl, own, rfl, b, c, d, e, f, g, g2, rfl⟩ := h
  obtain ⟨o, ho, he⟩ := List.mem_map.1 hr
  simp only [Prod.mk.injEq] at he
  obtain ⟨rfl, rfl⟩ := he
  obtain ⟨⟨cc, hc, hch⟩, hnd, _⟩ := c.obj o ho
  have hle := nodup_le hnd (obj_lt c ho)
  simp only [List.length_cons] at hle
  have := Go.Proofs.Ytaklhkghjklkhaa.get_yes b hc ((c.first o.1 cc hc).2 ⟨o, ho, rfl⟩) hch (by omega)
  rw [slotsOf_length]
  exact this
/-- Collect -/
def CollectO (w : World) (p : Nat) (X : Nat → Prop) (m : Int) (N : Nat) (objs : List Obj') (rs : List Int) (e : Ending) (w' : World) : Prop :=
  ∃ M : Nat → Bool, (∀ i, M i = true ↔ ReachO objs rs i) ∧ e = .returned (.int .i64 ((usum objs : Int) - usum (objs.filter fun o => M o.1))) ∧ Arena w' p X m N (objs.filter fun o => M o.1) ∧ Keep X w w'
theorem reach_iff {S : Ar} {M : Nat → Bool} {O : List Ob} {fl part : List Nat} {own : Nat → Nat} (h : Inv S M O fl part own) (rs : List Int) (i : Nat) : Reach S (chOf O) rs i ↔ ReachO (O.map fun o => (o.1, slotsOf S.cs o.2)) rs i := by
  constructor
  · intro hr
    induction hr with
    | root h1 h2 => exact .root h1 ((hasK_iff h _).1 h2)
    | @step a j s h1 h2 h3 h4 h5 ih =>
      have hb : isB S a = true := by cases h1 <;> assumption
      obtain ⟨o, ho, he⟩ := (h.isB_iff a).1 hb
      have he' : o.1 = a := by omega
      subst he'
      rw [chOf_at h.keys ho] at h2
      exact .step ih (List.mem_map.2 ⟨o, ho, rfl⟩) h2 h3 h4 ((hasK_iff h _).1 h5)
  · intro hr
    induction hr with
    | root h1 h2 => exact .root h1 ((hasK_iff h _).2 h2)
    | @step a j sl s h1 h2 h3 h4 h5 h6 ih =>
      obtain ⟨o, ho, he⟩ := List.mem_map.1 h2
      simp only [Prod.mk.injEq] at he
      obtain ⟨rfl, rfl⟩ := he
      exact .step ih (by rw [chOf_at h.keys ho]; exact h3) h4 h5 ((hasK_iff h _).2 h6)
theorem Arena.collect (h : Arena w p X m N objs) {rs : List Int} {rv : Value} {n : Nat} (hn : n = rs.length) (hr : Rd w (fun _ => False) 1 rv n (ints rs)) (hn1 : n ≤ 500000) :
    Calls Try.prog 12 #[.pointer (some ⟨p, 0, none⟩), rv] w (CollectO w p X m N objs rs) := by
  obtain ⟨v, S, O, fl, own, rfl, b, c, d, e, f, g, g2, rfl⟩ := h
  refine (collect_any b c hr hn (by omega) hn1).mono ?_
  rintro e' w' ⟨S', fl', own', M, rfl, ha, hlen, hmost, hM, hI, hsl, hk⟩
  have e1 : (O.map fun o => ((o.1, slotsOf S.cs o.2) : Obj')).filter (fun o => M o.1) = (O.filter fun o => M o.1).map fun o => (o.1, slotsOf S'.cs o.2) := by
    rw [List.filter_map]
    apply List.map_congr_left
    intro o ho
    rw [hsl o ho]
  refine ⟨M, fun i => (hM i).trans (reach_iff c rs i), ?_, ?_, hk⟩
  · rw [e1, usum_eq, usum_eq, c.used, hI.used]
    simp
  · rw [e1]
    exact ⟨v, S', _, fl', own', rfl, ha, hI, hmost.trans d, e, f, by omega, g2, rfl⟩
end
end Go.Proofs.Ytaklhkghjklkhaa
