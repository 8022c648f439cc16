/-
  HeapAgain: the walk. Conditions: none.
-/
import Derived.Test.YtaklhkghjklkhaaOps
namespace Go.Proofs.Ytaklhkghjklkhaa
open Go.RowKit Go.ChangeShapes Go.WideShapes Go.ChangeAt

/-- What stays stays: a second Collect of the same roots. -/
theorem reach_again {objs : List Obj'} {rs : List Int} {M : Nat → Bool} (hM : ∀ i, M i = true ↔ ReachO objs rs i) : ∀ i, ReachO objs rs i → ReachO (objs.filter fun o => M o.1) rs i := by
  have hk : ∀ i : Nat, hasK objs i → M i = true → hasK (objs.filter fun o => M o.1) i := by
    rintro i ⟨o, ho, he⟩ hm
    have : o.1 = i := by omega
    exact ⟨o, List.mem_filter.2 ⟨ho, by rw [this]; exact hm⟩, he⟩
  intro i h
  induction h with
  | root h1 h2 => exact .root h1 (hk _ h2 ((hM _).2 (.root h1 h2)))
  | @step i j sl s h1 h2 h3 h4 h5 h6 ih =>
    have hi := (hM i).2 h1
    exact .step ih (List.mem_filter.2 ⟨h2, hi⟩) h3 h4 h5 (hk _ h6 ((hM _).2 (.step h1 h2 h3 h4 h5 h6)))
theorem filter_again {objs : List Obj'} {rs : List Int} {M M2 : Nat → Bool} (hM : ∀ i, M i = true ↔ ReachO objs rs i) (hM2 : ∀ i, M2 i = true ↔ ReachO (objs.filter fun o => M o.1) rs i) : (objs.filter fun o => M o.1).filter (fun o => M2 o.1) = objs.filter fun o => M o.1 := by
  refine List.filter_eq_self.2 fun o ho => (hM2 _).2 (reach_again hM _ ?_)
  exact (hM _).1 (List.mem_filter.1 ho).2
/-- Roots that are objects stay, each once. -/
theorem keep_le {objs : List Obj'} {ks : List Int} {M : Nat → Bool} (hM : ∀ i, M i = true ↔ ReachO objs ks i) (hnd : ks.Nodup) (hks : ∀ k ∈ ks, hasK objs k) : ks.length ≤ (objs.filter fun o => M o.1).length := by
  have h := List.Nodup.length_le_of_subset hnd (l₂ := (objs.filter fun o => M o.1).map fun o => (o.1 : Int)) (fun k hk => by
    obtain ⟨o, ho, rfl⟩ := hks k hk
    exact List.mem_map.2 ⟨o, List.mem_filter.2 ⟨ho, (hM _).2 (.root hk ⟨o, ho, rfl⟩)⟩, rfl⟩)
  simpa using h

structure AgR (w0 : World) (p : Nat) (m : Int) (i : Nat) (lv : Value) (rs : List Int) (X : Nat → Prop) (objs : List Obj') (wr : World) : Prop where
  st : St w0 wr X p m (41 * i) objs
  own : wr.ownsRow 0 3 1 lv rs.length (ints rs)
  keys : rs = (objs.map fun o => (o.1 : Int)).reverse
  ap : ∀ g, lv.ownBlock = some g → ¬ X g ∧ w0.heap.size ≤ g
  le : rs.length ≤ i
  fit : (usum objs : Int) ≤ m
def AgA (w0 : World) (p : Nat) (m : Int) (n : Nat) (k : Nat) (a b : Value) (wr : World) : Prop :=
  ∃ (i : Nat) (lv : Value) (rs : List Int) (X : Nat → Prop) (objs : List Obj'), a = lv ∧ b = .int .i64 i ∧ i ≤ n ∧ k = n - i ∧ AgR w0 p m i lv rs X objs wr
structure AgBR (wi : World) (rs : List Int) (j : Nat) (sv : Value) (l : List Sl) (wr : World) : Prop where
  own : wr.ownsRow 0 32 2 sv j (sflat l)
  len : l.length = j
  ok : ∀ s ∈ l, s.ref = true → s.n ∈ rs
  keep : Keep (fun _ => False) wi wr
  ap : ∀ g, sv.ownBlock = some g → wi.heap.size ≤ g
def AgB (wi : World) (rs : List Int) (ns : Nat) (k : Nat) (a b : Value) (wr : World) : Prop :=
  ∃ (j : Nat) (sv : Value) (l : List Sl), a = sv ∧ b = .int .i64 j ∧ j ≤ ns ∧ k = ns - j ∧ AgBR wi rs j sv l wr
theorem AgBR.step {wi wr w1 w2 : World} {rs : List Int} {j g cap : Nat} {sv : Value} {l : List Sl} {s : Sl} (h : AgBR wi rs j sv l wr) (hs : s.ref = true → s.n ∈ rs) (hk1 : Keep (fun _ => False) wr w1) (ho : w2.ownsRow 0 32 2 (.slice (some ⟨g, 0, none⟩) (j + 1) cap) (j + 1) (sflat l ++ [.bool s.ref, .int .i64 s.n])) (hk : Keep (fun k => sv.ownBlock = some k) w1 w2) (hg : sv.ownBlock = some g ∨ w1.heap.size ≤ g) :
    AgBR wi rs (j + 1) (.slice (some ⟨g, 0, none⟩) (j + 1) cap) (l ++ [s]) w2 := by
  refine ⟨by rw [sflat_append]; simpa [sflat, Sl.vals] using ho, by simp [h.len], fun x hx => ?_, (h.keep.trans hk1 (fun _ _ x => x)).trans hk (fun i hi hx => by have := h.ap i hx; omega), fun i hi => ?_⟩
  · rcases List.mem_append.1 hx with hx | hx
    · exact h.ok x hx
    · have : x = s := by simpa using hx
      subst this
      exact hs
  · have : g = i := by simpa [Value.ownBlock] using hi
    subst this
    rcases hg with hg | hg
    · exact h.ap _ hg
    · have := h.keep.size; have := hk1.size; omega

structure KpR (wi : World) (rs ks : List Int) (i : Nat) (kv : Value) (wr : World) : Prop where
  own : wr.ownsRow 0 3 1 kv ks.length (ints ks)
  sub : ks.Sublist (rs.take i)
  keep : Keep (fun _ => False) wi wr
  ap : ∀ g, kv.ownBlock = some g → wi.heap.size ≤ g
def KpA (wi : World) (rs : List Int) (k : Nat) (a b : Value) (wr : World) : Prop :=
  ∃ (i : Nat) (kv : Value) (ks : List Int), a = kv ∧ b = .int .i64 i ∧ i ≤ rs.length ∧ k = rs.length - i ∧ KpR wi rs ks i kv wr

theorem usum_filter (P : Obj' → Bool) (objs : List Obj') : usum (objs.filter P) ≤ usum objs := by
  induction objs with
  | nil => simp [usum]
  | cons o t ih =>
    simp only [usum] at ih ⊢
    cases h : P o <;> simp [h] <;> omega
def FillA (w0 : World) (p m n N u : Nat) (k : Nat) (b : Value) (wr : World) : Prop :=
  ∃ (i : Nat) (X : Nat → Prop) (objs : List Obj'), b = .int .i64 i ∧ i ≤ n ∧ k = n - i ∧ St w0 wr X p m (N + i) objs ∧ usum objs = u + i

set_option maxRecDepth 100000 in
set_option maxHeartbeats 1000000 in
theorem again_out (cells : Int) (A : Option Addr) (n c : Nat) (ro : Int) (l : List Ope) (w : World) (hc : cells ≤ 9223372036854775807) (hr : OpsR w (fun k => w.heap.size ≤ k) A n l) (h : fewB l = false ∨ 1000 < cells ∨ cells < 0) :
    Calls Try.prog 3 #[.int .i64 cells, .slice A n c, .int .i64 ro] w fun e w' => e = .returned (.bool true) ∧ Keep (fun _ => False) w w' := by
  have ha := awake_any w
  have hf : ∀ w1, Keep (fun _ => False) w w1 → Calls Try.prog 9 #[.slice A n c] w1 fun e w' => e = .returned (.bool (fewB l)) ∧ w1 = w' := fun w1 hk => few_any (X := fun _ => False) ⟨hr.1, fun hn => by
    obtain ⟨b, o, h1, h2, h3, h4⟩ := hr.2 hn
    exact ⟨b, o, h1, Nat.lt_of_lt_of_le h2 hk.size, fun x => x, fun i x hx => by
      obtain ⟨sv, rv, a1, a2, a3, a4, a5⟩ := h4 i x hx
      exact OpAt.keep ⟨sv, rv, a1, a2, a3, a4.mono (fun _ _ x => x.elim), a5.mono (fun _ _ x => x.elim)⟩ hk⟩⟩
  have HF := Lib.hid hf
  clear hf hr
  cases hB : fewB l with
  | false =>
    rw [hB] at HF
    clear h hB
    go_enter Try.func3, Try.ntmps3
    go_wp2_with (first | (go_at_call 8; refine ha.mono ?_; rintro e w1 ⟨rfl, hk⟩; have HK := Lib.hid hk; have hff := HF.out w1 hk; clear hk) | (go_at_call 9; refine hff.mono ?_; rintro e w' ⟨rfl, rfl⟩) | (go_at_call 10; refine (St.make cells hc HK.out).mono ?_; rintro e w2 ⟨X, rfl, hS⟩; have HS := Lib.hid hS; clear hS))
    go_ret
    exact ⟨rfl, HS.out.keep⟩
  | true =>
    rw [hB] at h
    rw [hB] at HF
    clear hB
    have h' : 1000 < cells ∨ cells < 0 := by rcases h with h | h; cases h; exact h
    clear h
    by_cases h1 : 1000 < cells
    · clear h'
      go_enter Try.func3, Try.ntmps3
      go_wp2_with (first | (go_at_call 8; refine ha.mono ?_; rintro e w1 ⟨rfl, hk⟩; have HK := Lib.hid hk; have hff := HF.out w1 hk; clear hk) | (go_at_call 9; refine hff.mono ?_; rintro e w' ⟨rfl, rfl⟩) | (go_at_call 10; refine (St.make cells hc HK.out).mono ?_; rintro e w2 ⟨X, rfl, hS⟩; have HS := Lib.hid hS; clear hS))
      go_ret
      exact ⟨rfl, HS.out.keep⟩
    · have h2 : cells < 0 := by omega
      clear h'
      go_enter Try.func3, Try.ntmps3
      go_wp2_with (first | (go_at_call 8; refine ha.mono ?_; rintro e w1 ⟨rfl, hk⟩; have HK := Lib.hid hk; have hff := HF.out w1 hk; clear hk) | (go_at_call 9; refine hff.mono ?_; rintro e w' ⟨rfl, rfl⟩) | (go_at_call 10; refine (St.make cells hc HK.out).mono ?_; rintro e w2 ⟨X, rfl, hS⟩; have HS := Lib.hid hS; clear hS))
      go_ret
      exact ⟨rfl, HS.out.keep⟩

set_option maxRecDepth 100000 in
set_option maxHeartbeats 8000000 in
theorem again_in (m : Nat) (A : Option Addr) (n c : Nat) (ro : Int) (l : List Ope) (w : World) (hm : m ≤ 1000) (hr : OpsR w (fun k => w.heap.size ≤ k) A n l) (h : fewB l = true) :
    Calls Try.prog 3 #[.int .i64 m, .slice A n c, .int .i64 ro] w fun e w' => e = .returned (.bool true) ∧ Keep (fun _ => False) w w' := by
  have ha := awake_any w
  have hop : ∀ w1, Keep (fun _ => False) w w1 → OpsR w1 (fun _ => False) A n l := fun w1 hk => ⟨hr.1, fun hn => by
    obtain ⟨b, o, h1, h2, h3, h4⟩ := hr.2 hn
    exact ⟨b, o, h1, Nat.lt_of_lt_of_le h2 hk.size, fun x => x, fun i x hx => by
      obtain ⟨sv, rv, a1, a2, a3, a4, a5⟩ := h4 i x hx
      exact OpAt.keep ⟨sv, rv, a1, a2, a3, a4.mono (fun _ _ x => x.elim), a5.mono (fun _ _ x => x.elim)⟩ hk⟩⟩
  have hf : ∀ w1, Keep (fun _ => False) w w1 → Calls Try.prog 9 #[.slice A n c] w1 fun e w' => e = .returned (.bool true) ∧ w1 = w' := fun w1 hk => by
    rw [← h]; exact few_any (hop w1 hk)
  obtain ⟨hl60, hl40⟩ := fewB_spec h
  have hn60 : n ≤ 60 := by rw [hr.1]; exact hl60
  have HOP := Lib.hid (And.intro hr.1 (And.intro hop hl40))
  have HF := Lib.hid hf
  have d1 : decide (1000 < (m : Int)) = false := by simp; omega
  have d2 : decide ((m : Int) < 0) = false := by simp
  clear hf hr hop h hl60 hl40
  go_enter Try.func3, Try.ntmps3
  go_wp2_with (first | (go_at_call 8; refine ha.mono ?_; rintro e w1 ⟨rfl, hk⟩; have HK := Lib.hid hk; have hff := HF.out w1 hk; clear hk) | (go_at_call 9; refine hff.mono ?_; rintro e w' ⟨rfl, rfl⟩) | (go_at_call 10; refine (St.make m (by omega) HK.out).mono ?_; rintro e w2 ⟨X1, rfl, hS⟩; rw [show max (m : Int) 0 = m by omega] at hS; have HS := Lib.hid hS; clear hS))
  have h0 : Hid (AgA w w1.heap.size m n n (.slice none 0 0) (.int .i64 0) w2) := ⟨0, _, [], X1, [], rfl, rfl, Nat.zero_le _, rfl, ⟨HS.out, World.ownsRow_nil w2 0 3 1, rfl, fun g hg => by simp [Value.ownBlock] at hg, Nat.le_refl _, by simp [usum]⟩⟩
  clear ha hff HF HS
  go_loopg [10, 11] n (AgA w w1.heap.size m n)
  case atStart => exact h0.out
  case round =>
    clear h0
    obtain ⟨i, lv, rs, X, objs, rfl, rfl, hi, rfl, hG⟩ := hrel
    obtain ⟨Al, cl, rfl⟩ := own_slice hG.own
    have HG := Lib.hid hG
    clear hG
    by_cases hlt : i < n
    · obtain ⟨hnl, hop, h40⟩ := HOP.out
      obtain ⟨b, o, rfl, hb, _, hcell⟩ := (hop wr HG.out.st.keep).2 (by omega)
      obtain ⟨x, hx⟩ : ∃ x, l[i]? = some x := ⟨_, List.getElem?_eq_getElem (by omega)⟩
      obtain ⟨sv0, rv0, _, x1, _, hsr, _⟩ := hcell i x hx
      have hx40 := (h40 x (List.mem_of_getElem? hx)).1
      have HSR := Lib.hid hsr
      obtain ⟨_, As, cs, rfl, _, hss⟩ := hsr
      generalize hns : x.slots.length = ns at *
      have HNS := Lib.hid hns
      have HSS := Lib.hid hss
      have HX1 := Lib.hid (And.intro x1 hb)
      clear hnl hop h40 hcell hx hss hns x1 hb
      go_wp2_with fail
      obtain ⟨wo, rfl⟩ : ∃ wo : World, wo = wr := ⟨_, rfl⟩
      have h1 : Hid (AgB wo rs ns ns (.slice none 0 0) (.int .i64 0) wo) := ⟨0, _, [], rfl, rfl, Nat.zero_le _, rfl, ⟨World.ownsRow_nil wo 0 32 2, rfl, fun s hs => (nomatch hs), Keep.refl _ _, fun g hg => by simp [Value.ownBlock] at hg⟩⟩
      go_loopg [12, 13] ns (AgB wo rs ns)
      case atStart => exact h1.out
      case round =>
        clear h1
        obtain ⟨j, sv, sl, rfl, rfl, hj, rfl, hB⟩ := hrel
        obtain ⟨Asv, csv, rfl⟩ := own_slice hB.own
        have xx := hB.keep.cell (p := ⟨b, o + i * 3 + 1, none⟩) HX1.out.1 (fun x => x)
        have hbz : b < wr.heap.size := Nat.lt_of_lt_of_le HX1.out.2 hB.keep.size
        have HB := Lib.hid hB
        clear hB
        by_cases hjl : j < ns
        · obtain ⟨b2, o2, rfl, hb2, _, hc2⟩ := HSS.out (by omega)
          obtain ⟨s, hs⟩ : ∃ s, x.slots[j]? = some s := ⟨_, List.getElem?_eq_getElem (by have := HNS.out; omega)⟩
          obtain ⟨g0, g1⟩ := sflat_get _ _ _ hs
          have c0 : wr.cell? ⟨b2, o2 + j * 2, none⟩ = some (.bool s.ref) := HB.out.keep.cell (p := ⟨b2, o2 + j * 2, none⟩) (by rw [hc2 _ (by omega)]; exact g0) (fun x => x)
          have c1 : wr.cell? ⟨b2, o2 + j * 2 + 1, none⟩ = some (.int .i64 s.n) := HB.out.keep.cell (p := ⟨b2, o2 + j * 2 + 1, none⟩) (by rw [Nat.add_assoc, hc2 _ (by omega)]; exact g1) (fun x => x)
          have hb2z : b2 < wr.heap.size := Nat.lt_of_lt_of_le hb2 HB.out.keep.size
          have hbig : j + 1 ≤ 1099511627776 := by omega
          clear hs g0 g1 hc2 hb2
          by_cases hcase : s.ref = true ∧ 0 < rs.length
          · obtain ⟨hsr, hrl⟩ := hcase
            rw [hsr] at c0
            obtain ⟨tg, ct, hv⟩ : ∃ tg ct, (Value.slice Al rs.length cl) = .slice (some ⟨tg, 0, none⟩) rs.length ct := by
              rcases own_cases HG.out.own with ⟨_, h0, _⟩ | ⟨g, cap, hv, _, _⟩
              · omega
              · exact ⟨g, cap, hv⟩
            simp only [Value.slice.injEq, true_and] at hv
            obtain ⟨rfl, rfl⟩ := hv
            have t1 := Int.lt_tmod_of_pos s.n (b := (rs.length : Int)) (by omega)
            have t2 := Int.tmod_lt_of_pos s.n (b := (rs.length : Int)) (by omega)
            obtain ⟨q, hq⟩ : ∃ q : Nat, s.n.tmod rs.length % (rs.length : Int) = q := ⟨_, (Int.toNat_of_nonneg (Int.emod_nonneg _ (by omega))).symm⟩
            have hq2 : q < rs.length := by have := Int.emod_lt_of_pos (s.n.tmod rs.length) (b := (rs.length : Int)) (by omega); omega
            obtain ⟨t, ht⟩ : ∃ t, rs[q]? = some t := ⟨_, List.getElem?_eq_getElem hq2⟩
            have ctt : wr.cell? ⟨tg, q, none⟩ = some (.int .i64 t) := HB.out.keep.cell (p := ⟨tg, q, none⟩) (by rw [HG.out.own.cellAt _ (by omega)]; simp [ints, ht]) (fun x => x)
            have htz : tg < wr.heap.size := Nat.lt_of_lt_of_le (own_lt (g := tg) HG.out.own rfl) HB.out.keep.size
            have HT := Lib.hid (List.mem_of_getElem? ht)
            have d5 : decide (0 < (rs.length : Int)) = true := by simp; omega
            have hrl2 : rs.length ≤ 60 := by have := HG.out.le; omega
            clear ht hsr
            go_wp2_with (at_builtin; refine wpList_app rfl (.tmp 100) (.tmp 102) 28 rfl E32 (.slice Asv j csv) j (sflat sl) rfl ((HB.out.own.alloc _).alloc _) (wr.heap.size + 1) 1 1 #[.bool true, .int .i64 t] rfl (At.new_at (by simp)) rfl (by simp [Value.oneCell']) (by decide) hbig (by decide) ?_)
            intro g cap w5 ho5 hk5 hg5 hgl5
            have H5 := Lib.hid (And.intro ho5 (And.intro hk5 hg5))
            clear ho5 hk5 hg5 hq
            go_wp2_with fail
            go_roundg (ns - (j + 1))
            case measure => omega
            case rel =>
              obtain ⟨ho5, hk5, hg5⟩ := H5.out
              exact ⟨j + 1, _, _, rfl, by go_num, by omega, rfl, HB.out.step (s := ⟨true, t⟩) (fun _ => HT.out) (((Keep.refl _ wr).alloc _).alloc _) ho5 hk5 (by simpa using hg5)⟩
          · cases hsr : s.ref with
            | false =>
              rw [hsr] at c0
              clear hsr hcase
              go_wp2_with (at_builtin; refine wpList_app rfl (.tmp 100) (.tmp 102) 28 rfl E32 (.slice Asv j csv) j (sflat sl) rfl ((HB.out.own.alloc _).alloc _) (wr.heap.size + 1) 1 1 #[.bool false, .int .i64 s.n] rfl (At.new_at (by simp)) rfl (by simp [Value.oneCell']) (by decide) hbig (by decide) ?_)
              intro g cap w5 ho5 hk5 hg5 hgl5
              have H5 := Lib.hid (And.intro ho5 (And.intro hk5 hg5))
              clear ho5 hk5 hg5
              go_wp2_with fail
              go_roundg (ns - (j + 1))
              case measure => omega
              case rel =>
                obtain ⟨ho5, hk5, hg5⟩ := H5.out
                exact ⟨j + 1, _, _, rfl, by go_num, by omega, rfl, HB.out.step (s := ⟨false, s.n⟩) (fun h => nomatch h) (((Keep.refl _ wr).alloc _).alloc _) ho5 hk5 (by simpa using hg5)⟩
            | true =>
              rw [hsr] at c0
              have hrz : rs.length = 0 := by
                rcases Nat.eq_zero_or_pos rs.length with h | h
                · exact h
                · exact absurd ⟨hsr, h⟩ hcase
              have d5 : decide (0 < (rs.length : Int)) = false := by rw [hrz]; rfl
              have hrz' : ¬ 0 < rs.length := by omega
              have d6 : decide (0 < rs.length) = false := by rw [hrz]; rfl
              clear hsr hcase hrz
              go_wp2_with (at_builtin; refine wpList_app rfl (.tmp 100) (.tmp 102) 28 rfl E32 (.slice Asv j csv) j (sflat sl) rfl ((HB.out.own.alloc _).alloc _) (wr.heap.size + 1) 1 1 #[.bool false, .int .i64 s.n] rfl (At.new_at (by simp)) rfl (by simp [Value.oneCell']) (by decide) hbig (by decide) ?_)
              intro g cap w5 ho5 hk5 hg5 hgl5
              have H5 := Lib.hid (And.intro ho5 (And.intro hk5 hg5))
              clear ho5 hk5 hg5
              go_wp2_with fail
              go_roundg (ns - (j + 1))
              case measure => omega
              case rel =>
                obtain ⟨ho5, hk5, hg5⟩ := H5.out
                exact ⟨j + 1, _, _, rfl, by go_num, by omega, rfl, HB.out.step (s := ⟨false, s.n⟩) (fun h => nomatch h) (((Keep.refl _ wr).alloc _).alloc _) ho5 hk5 (by simpa using hg5)⟩
        · have hje : j = ns := by omega
          subst hje
          have hG := HG.out
          have hB := HB.out
          have hst := hG.st.step hB.keep
          have hkin : ∀ t ∈ rs, hasK objs t := by
            intro t ht
            rw [hG.keys] at ht
            obtain ⟨o', ho', rfl⟩ := List.mem_map.1 (List.mem_reverse.1 ht)
            exact ⟨o', ho', rfl⟩
          have hok : ∀ s ∈ sl, okSl objs s := fun s hs hr => hkin _ (hB.ok s hs hr)
          have hX : ∀ g, Value.ownBlock (.slice Asv j csv) = some g → ¬ X g := fun g hg hx => by have h1 := hB.ap g hg; have h2 := hG.st.ar.lt g hx; omega
          have hal := hst.alloc (l := sl) (n := j) hB.len.symm (Rd.of_own hB.own hX) (by rw [hB.len]; omega) (by rw [hB.len]; omega)
          have HJ := Lib.hid (And.intro hst (And.intro hok hX))
          clear hG hB hst hkin hok hX hjl hj
          go_wp2_with fail
          refine hal.mono ?_
          rintro e w3 (⟨hbad, _⟩ | ⟨_, hfull, rfl, hS3, hk3⟩ | ⟨_, hfit, r, X', rfl, hnk, hS3, hk3, hX3⟩)
          · exact absurd HJ.out.2.1 hbad
          · have H3 := Lib.hid (And.intro hS3 hk3)
            clear hS3 hk3 hfull hal
            go_wp2_with fail
            go_roundg (n - (i + 1))
            case measure => omega
            case rel =>
              obtain ⟨hS3, hk3⟩ := H3.out
              have hG := HG.out
              have hB := HB.out
              exact ⟨i + 1, _, rs, X, objs, rfl, by go_num, by omega, rfl, ⟨St.more' hS3 (by omega) (by omega), hk3.own (hB.keep.own hG.own (fun _ _ x => x)) (fun _ _ x => x), hG.keys, hG.ap, by have := hG.le; omega, hG.fit⟩⟩
          · have hG := HG.out
            have hB := HB.out
            have hap : ∀ g, Value.ownBlock (.slice Al rs.length cl) = some g → ¬ X' g ∧ w.heap.size ≤ g := fun g hg => ⟨fun hx => by
              rcases hX3 g hx with h | h
              · exact (hG.ap g hg).1 h
              · have := own_lt hG.own hg; have := hB.keep.size; omega, (hG.ap g hg).2⟩
            have ho3 : w3.ownsRow 0 3 1 (.slice Al rs.length cl) rs.length (ints rs) := hk3.own (hB.keep.own hG.own (fun _ _ x => x)) (fun g hg => (hG.ap g hg).1)
            have hbig : rs.length + 1 ≤ 1099511627776 := by have := hG.le; omega
            have hfit' : (usum ((r, sl) :: objs) : Int) ≤ m := by
              simp only [usum, List.map_cons, List.sum_cons] at hfit ⊢
              omega
            have hlen : sl.length ≤ 40 := by rw [hB.len]; omega
            have HU := Lib.hid (And.intro hS3 (And.intro hap (And.intro ho3 (And.intro hfit' hlen))))
            clear hS3 hap ho3 hk3 hX3 hnk hfit hfit' hG hB hal hlen
            go_wp2_with (at_builtin; refine wpList_app rfl (.tmp 112) (.tmp 114) 27 rfl E3 (.slice Al rs.length cl) rs.length (ints rs) rfl (HU.out.2.2.1.alloc _) w3.heap.size 1 1 #[.int .i64 r] rfl (At.new _ _ _) rfl (by simp [Value.oneCell']) (by decide) hbig (by decide) ?_)
            intro g cap w5 ho5 hk5 hg5 hgl5
            have H5 := Lib.hid (And.intro ho5 (And.intro hk5 hg5))
            clear ho5 hk5 hg5
            go_wp2_with fail
            go_roundg (n - (i + 1))
            case measure => omega
            case rel =>
              obtain ⟨hS4, hap, ho4, hfit', hlen⟩ := HU.out
              obtain ⟨ho5, hk5, hg5⟩ := H5.out
              have hG := HG.out
              refine ⟨i + 1, _, rs ++ [(r : Int)], X', (r, sl) :: objs, rfl, by go_num, by omega, rfl, ⟨?_, ?_, ?_, ?_, ?_, hfit'⟩⟩
              · exact St.step' (St.more' (St.al hS4 _) (by omega) (by omega)) hk5 (fun j hx hy => (hap j hy).1 hx) (fun j hj => (hap j hj).2)
              · rw [ints_append, List.length_append]
                exact ho5
              · rw [List.map_cons, List.reverse_cons, ← hG.keys]
              · intro j hj
                simp only [Value.ownBlock, Option.some.injEq] at hj
                subst hj
                rcases hg5 with h | h
                · exact hap _ h
                · refine ⟨fun hx => ?_, ?_⟩
                  · have := hS4.ar.lt _ hx; first | omega | (simp at h; omega)
                  · have := hS4.keep.size; first | omega | (simp at h; omega)
              · have := hG.le
                simp
                omega
    · have hie : i = n := by omega
      subst hie
      have h3 : Hid (KpA wr rs rs.length (.slice none 0 0) (.int .i64 0) wr) := ⟨0, _, [], rfl, rfl, Nat.zero_le _, rfl, ⟨World.ownsRow_nil wr 0 3 1, by simp, Keep.refl _ _, fun g hg => by simp [Value.ownBlock] at hg⟩⟩
      clear hlt hi HOP
      obtain ⟨wo, rfl⟩ : ∃ wo : World, wo = wr := ⟨_, rfl⟩
      have hrl60 : rs.length ≤ 60 := by have := HG.out.le; omega
      go_wp2_with fail
      go_loopg [17, 18] rs.length (KpA wo rs)
      case atStart => exact h3.out
      case round =>
        clear h3
        obtain ⟨q, kv, ks, rfl, rfl, hq, rfl, hK⟩ := hrel
        obtain ⟨Ak, ck, rfl⟩ := own_slice hK.own
        have HKK := Lib.hid hK
        clear hK
        by_cases hql : q < rs.length
        · obtain ⟨t, ht⟩ : ∃ t, rs[q]? = some t := ⟨_, List.getElem?_eq_getElem hql⟩
          obtain ⟨tg, ct, hv⟩ : ∃ tg ct, (Value.slice Al rs.length cl) = .slice (some ⟨tg, 0, none⟩) rs.length ct := by
            rcases own_cases HG.out.own with ⟨_, h0, _⟩ | ⟨g, cap, hv, _, _⟩
            · omega
            · exact ⟨g, cap, hv⟩
          simp only [Value.slice.injEq, true_and] at hv
          obtain ⟨rfl, rfl⟩ := hv
          have ctt : wr.cell? ⟨tg, q, none⟩ = some (.int .i64 t) := HKK.out.keep.cell (p := ⟨tg, q, none⟩) (by rw [HG.out.own.cellAt _ (by omega)]; simp [ints, ht]) (fun x => x)
          have htz : tg < wr.heap.size := Nat.lt_of_lt_of_le (own_lt (g := tg) HG.out.own rfl) HKK.out.keep.size
          have HT := Lib.hid ht
          have hks : ks.length ≤ q := by have := HKK.out.sub.length_le; simp at this; omega
          have hbig : ks.length + 1 ≤ 1099511627776 := by omega
          clear ht
          by_cases hro : 0 < ro
          · have t1 : 0 ≤ ro.tmod 5 := Int.tmod_nonneg _ (by omega)
            have t2 : ro.tmod 5 < 5 := Int.tmod_lt_of_pos _ (by decide)
            obtain ⟨d, hd, hd5⟩ : ∃ d : Nat, ro.tmod 5 = d ∧ d < 5 := ⟨(ro.tmod 5).toNat, by omega, by omega⟩
            have dg : decide (0 < ro) = true := by simp; omega
            cases dz : ((q : Int) % ((d : Int) + 1) == 0) with
            | false =>
              go_wp2_with fail
              go_roundg (rs.length - (q + 1))
              case measure => omega
              case rel =>
                have hK := HKK.out
                exact ⟨q + 1, _, ks, rfl, by go_num, by omega, rfl, ⟨hK.own, hK.sub.trans (List.take_sublist_take_left (by omega)), hK.keep, hK.ap⟩⟩
            | true =>
              go_wp2_with (at_builtin; refine wpList_app rfl (.tmp 132) (.tmp 137) 27 rfl E3 (.slice Ak ks.length ck) ks.length (ints ks) rfl (HKK.out.own.alloc _) wr.heap.size 1 1 #[.int .i64 t] rfl (At.new _ _ _) rfl (by simp [Value.oneCell']) (by decide) hbig (by decide) ?_)
              intro g cap w5 ho5 hk5 hg5 hgl5
              have H5 := Lib.hid (And.intro ho5 (And.intro hk5 hg5))
              clear ho5 hk5 hg5
              go_wp2_with fail
              go_roundg (rs.length - (q + 1))
              case measure => omega
              case rel =>
                obtain ⟨ho5, hk5, hg5⟩ := H5.out
                have hK := HKK.out
                refine ⟨q + 1, _, ks ++ [t], rfl, by go_num, by omega, rfl, ⟨?_, ?_, ?_, ?_⟩⟩
                · rw [ints_append, List.length_append]
                  exact ho5
                · rw [List.take_add_one, HT.out]
                  exact hK.sub.append (List.Sublist.refl _)
                · exact (hK.keep.alloc _).trans hk5 (fun j hj hx => by have := hK.ap j hx; omega)
                · intro j hj
                  simp only [Value.ownBlock, Option.some.injEq] at hj
                  subst hj
                  rcases hg5 with h | h
                  · exact hK.ap _ h
                  · have := hK.keep.size; first | omega | (simp at h; omega)
          · have dg : decide (0 < ro) = false := by simp; omega
            go_wp2_with fail
            go_roundg (rs.length - (q + 1))
            case measure => omega
            case rel =>
              have hK := HKK.out
              exact ⟨q + 1, _, ks, rfl, by go_num, by omega, rfl, ⟨hK.own, hK.sub.trans (List.take_sublist_take_left (by omega)), hK.keep, hK.ap⟩⟩
        · have hG := HG.out
          have hK := HKK.out
          have hst := hG.st.step hK.keep
          have hsub : ks.Sublist rs := hK.sub.trans (List.take_sublist _ _)
          have hnd : ks.Nodup := by
            refine hsub.nodup ?_
            rw [hG.keys]
            refine List.pairwise_reverse.2 (List.pairwise_map.2 ((List.pairwise_map.1 hG.st.ar.keys).imp fun {a b} h h' => h ?_))
            omega
          have hks : ∀ k ∈ ks, hasK objs k := by
            intro k hk
            have := hsub.subset hk
            rw [hG.keys] at this
            obtain ⟨o', ho', rfl⟩ := List.mem_map.1 (List.mem_reverse.1 this)
            exact ⟨o', ho', rfl⟩
          have hkl : ks.length ≤ 60 := by have := hsub.length_le; omega
          have hapX : ∀ g, Value.ownBlock (.slice Ak ks.length ck) = some g → ¬ X g := fun g hg hx => by have h1 := hK.ap g hg; have h2 := hG.st.ar.lt g hx; omega
          have hcol := hst.collect (rs := ks) (n := ks.length) rfl (Rd.of_own hK.own (fun _ _ x => x)) (by omega)
          have hown := hK.own
          have hfit := hG.fit
          have HZ := Lib.hid (And.intro hnd (And.intro hks (And.intro hapX (And.intro hown hfit))))
          clear hG hK hst hsub hnd hks hapX hown hfit HG HKK
          go_wp2_with fail
          refine hcol.mono ?_
          rintro e w4 ⟨M, hM, rfl, hS4, hk4⟩
          obtain ⟨hnd, hks, hapX, hown, hfit⟩ := HZ.out
          have hown4 := hk4.own hown hapX
          have hcol2 := hS4.collect (rs := ks) (n := ks.length) rfl (Rd.of_own hown4 (fun _ _ x => x)) (by omega)
          have hkl4 := keep_le hM hnd hks
          have hus := usum_filter (fun o : Obj' => M o.1) objs
          generalize hfo : (objs.filter fun o => M o.1) = fo at *
          have HY := Lib.hid (And.intro hkl4 (And.intro hS4.ar.count.2.1 (And.intro hfit hus)))
          have HM := Lib.hid (And.intro hM hfo)
          clear hnd hks hapX hown hfit hown4 hkl4 hus hS4 hk4 hM hfo HZ hcol
          go_wp2_with fail
          refine hcol2.mono ?_
          rintro e w5 ⟨M2, hM2, rfl, hS5, hk5⟩
          have hfa : (fo.filter fun o => M2 o.1) = fo := by
            obtain ⟨hM, hfo⟩ := HM.out
            subst hfo
            exact filter_again hM hM2
          rw [hfa] at hS5 ⊢
          rw [Int.sub_self]
          obtain ⟨hkl4, hcnt, hfit, hus⟩ := HY.out
          have hused := hS5.ar.used
          generalize hu : usum fo = u at *
          have ku : ks.length ≤ u := by omega
          have um : u ≤ m := by omega
          obtain ⟨nn, hnn⟩ : ∃ nn : Nat, (m : Int) - (u : Int) = (nn : Int) := ⟨m - u, by omega⟩
          have hnm : m = u + nn := by omega
          have HS5 := Lib.hid (And.intro hS5 (And.intro hu hnm))
          have d8 : decide ((u : Int) < (ks.length : Int)) = false := by simp; omega
          have d9 : decide (u < ks.length) = false := by simp; omega
          clear hkl4 hcnt hfit hus hu hfa hM2 HM HY hcol2 hk5 hS5 hnm
          go_wp2_with (go_at_call 13; refine hused.mono ?_; rintro e w' ⟨rfl, rfl⟩)
          have h6 : Hid (FillA w w1.heap.size m nn (41 * i) u nn (.int .i64 0) w5) := ⟨0, X, fo, rfl, Nat.zero_le _, rfl, HS5.out.1, HS5.out.2.1⟩
          have HNM := Lib.hid HS5.out.2.2
          clear HS5 hused
          go_loopg [20] nn (fun k b wr => FillA w w1.heap.size m nn (41 * i) u k b wr)
          case atStart => exact h6.out
          case round =>
            clear h6
            obtain ⟨j, X2, ob2, rfl, hj, rfl, hS, hus⟩ := hrel
            have hnm := HNM.out
            by_cases hjl : j < nn
            · have hal := hS.fits (l := []) (n := 0) (lv := .slice none 0 0) rfl (Rd.nil _ _ 2) (by simp) (by simp; omega) (fun s hs => nomatch hs) (by rw [hus]; simp; omega)
              have HUS := Lib.hid hus
              clear hS hus hnm
              go_wp2_with (go_at_call 11; refine hal.mono ?_; rintro e w6 ⟨r, X', rfl, hnk, hS6, hk6, hX6⟩; have H6 := Lib.hid hS6; clear hS6 hk6 hX6 hnk)
              go_roundg (nn - (j + 1))
              case measure => omega
              case rel =>
                refine ⟨j + 1, X', _, by go_num, by omega, rfl, H6.out, ?_⟩
                have := HUS.out
                simp only [usum, List.map_cons, List.sum_cons, List.length_nil] at this ⊢
                omega
            · have hal := hS.alloc (l := []) (n := 0) (lv := .slice none 0 0) rfl (Rd.nil _ _ 2) (by simp) (by simp; omega)
              have hum : usum ob2 = m := by omega
              rw [hum] at hal
              have HUM := Lib.hid hum
              have dm : ((m : Int) == (m : Int)) = true := by simp
              clear hS hus hnm hum
              go_wp2_with (first | (go_at_call 11; refine hal.mono ?_; rintro e w6 (⟨hbad, _⟩ | ⟨_, hfull, rfl, hS6, hk6⟩ | ⟨_, hfit, _⟩); exact absurd (fun s hs => nomatch hs) hbad; rotate_left; (simp at hfit); have hob := hS6.ar.used; rw [HUM.out] at hob; have H6 := Lib.hid hS6; clear hS6 hk6 hfull) | (go_at_call 13; refine hob.mono ?_; rintro e w' ⟨rfl, rfl⟩))
              go_ret
              exact ⟨rfl, H6.out.keep⟩
end Go.Proofs.Ytaklhkghjklkhaa
