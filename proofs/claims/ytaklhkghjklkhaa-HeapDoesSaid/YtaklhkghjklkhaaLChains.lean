/-
  HeapChains: for all integers n and slots the law returns true; nothing that was there is changed. Conditions: none.
-/
import Derived.Test.YtaklhkghjklkhaaFrame
namespace Go.Proofs.Ytaklhkghjklkhaa
open Go.RowKit Go.ChangeShapes Go.WideShapes Go.ChangeAt

/-- A chain, its last object first: each one's last slot leads to the one behind. -/
def Lk (m : Nat) : List Obj' → Prop
  | [] => True
  | [o] => o.2.length = m ∧ ∀ s ∈ o.2, s.ref = false
  | o :: o' :: r => o.2.length = m ∧ (∃ s ∈ o.2, s.ref = true ∧ s.n = (o'.1 : Int)) ∧ Lk m (o' :: r)
theorem Lk.sum {m : Nat} : ∀ {l : List Obj'}, Lk m l → usum l = l.length * (m + 1)
  | [], _ => by simp [usum]
  | [o], h => by simp [usum, h.1]
  | o :: o' :: r, h => by
    have ih := Lk.sum h.2.2
    simp only [usum, List.map_cons, List.sum_cons, List.length_cons] at ih ⊢
    rw [h.1, ih]
    simp only [Nat.add_mul, Nat.one_mul]
    omega
theorem Lk.reach {m : Nat} {objs : List Obj'} {rs : List Int} : ∀ {l : List Obj'}, Lk m l → (∀ o ∈ l, o ∈ objs) → (∀ o, l.head? = some o → ReachO objs rs o.1) → ∀ o ∈ l, ReachO objs rs o.1
  | [], _, _, _ => fun o ho => by cases ho
  | [o], _, _, h => fun x hx => by
    have : x = o := by simpa using hx
    subst this
    exact h x rfl
  | o :: o' :: r, hL, hs, h => fun x hx => by
    rcases List.mem_cons.1 hx with rfl | hx
    · exact h x rfl
    · obtain ⟨_, ⟨s, hs1, hs2, hs3⟩, h2⟩ := hL
      refine Lk.reach h2 (fun y hy => hs y (by simp only [List.mem_cons] at hy ⊢; exact .inr hy)) (fun y hy => ?_) x hx
      simp only [List.head?_cons, Option.some.injEq] at hy
      subst hy
      exact .step (h o rfl) (sl := o.2) (hs o (by simp)) hs1 hs2 hs3 ⟨o', hs o' (by simp), rfl⟩
theorem Lk.last {m : Nat} : ∀ {l : List Obj'} {o : Obj'}, Lk m l → l.getLast? = some o → o.2.length = m ∧ ∀ s ∈ o.2, s.ref = false
  | [], _, _, h => by cases h
  | [o], x, h, hx => by
    simp only [List.getLast?_singleton, Option.some.injEq] at hx
    subst hx
    exact h
  | o :: o' :: r, x, h, hx => by
    rw [List.getLast?_cons_cons] at hx
    exact Lk.last h.2.2 hx
theorem key_eq {objs : List Obj'} (hk : (objs.map (·.1)).Nodup) {a b : Obj'} (ha : a ∈ objs) (hb : b ∈ objs) (h : a.1 = b.1) : a = b := by
  induction objs with
  | nil => cases ha
  | cons x l ih =>
    simp only [List.map_cons, List.nodup_cons, List.mem_map, not_exists, not_and] at hk
    rcases List.mem_cons.1 ha with h1 | h1 <;> rcases List.mem_cons.1 hb with h2 | h2
    · rw [h1, h2]
    · exact absurd (by rw [← h, h1]) (hk.1 b h2)
    · exact absurd (by rw [h, h2]) (hk.1 a h1)
    · exact ih hk.2 h1 h2
theorem filter_one {objs : List Obj'} {M : Nat → Bool} (hk : (objs.map (·.1)).Nodup) {f : Obj'} (hf : f ∈ objs) (hM : ∀ i, M i = true ↔ i = f.1) : (objs.filter fun o => M o.1) = [f] := by
  induction objs with
  | nil => cases hf
  | cons x l ih =>
    simp only [List.map_cons, List.nodup_cons, List.mem_map, not_exists, not_and] at hk
    rcases List.mem_cons.1 hf with rfl | hf
    · rw [List.filter_cons, if_pos ((hM _).2 rfl)]
      congr 1
      rw [List.filter_eq_nil_iff]
      intro y hy hm
      exact hk.1 y hy ((hM _).1 hm)
    · rw [List.filter_cons, if_neg (fun hm => hk.1 f hf ((hM _).1 hm).symm)]
      exact ih hk.2 hf
/-- From an object that leads nowhere nothing else is reached. -/
theorem reach_alone {objs : List Obj'} (hk : (objs.map (·.1)).Nodup) {f : Obj'} (hf : f ∈ objs) (hs : ∀ s ∈ f.2, s.ref = false) (i : Nat) : ReachO objs [(f.1 : Int)] i ↔ i = f.1 := by
  constructor
  · intro h
    induction h with
    | root h _ => simp at h; omega
    | step _ h2 h3 h4 _ _ ih =>
      subst ih
      have : (f.1, _) = f := key_eq hk h2 hf rfl
      rw [← this] at hs
      exact absurd h4 (by rw [hs _ h3]; simp)
  · rintro rfl
    exact .root (by simp) ⟨f, hf, rfl⟩

structure ChR (w0 : World) (p : Nat) (m : Int) (n sl : Nat) (i : Nat) (last first : Int) (X : Nat → Prop) (objs : List Obj') (wr : World) : Prop where
  st : St w0 wr X p m (i * (sl + 1)) objs
  len : objs.length = i
  lk : Lk sl objs
  hd : ∀ o, objs.head? = some o → last = o.1
  tl : ∀ o, objs.getLast? = some o → first = o.1
def ChI (w0 : World) (p : Nat) (m : Int) (n sl : Nat) (k : Nat) (last first c : Value) (wr : World) : Prop :=
  ∃ (i : Nat) (la fi : Int) (X : Nat → Prop) (objs : List Obj'), last = .int .i64 la ∧ first = .int .i64 fi ∧ c = .int .i64 i ∧ i ≤ n ∧ k = n - i ∧ ChR w0 p m n sl i la fi X objs wr
/-- the slots of one link -/
def link (sl i : Nat) (la : Int) : List Sl := (List.replicate sl z0).set (sl - 1) ⟨decide (0 < i), la⟩
theorem link_length (sl i : Nat) (la : Int) : (link sl i la).length = sl := by simp [link]
theorem mem_link {sl i : Nat} {la : Int} {s : Sl} (h : s ∈ link sl i la) : s = z0 ∨ s = ⟨decide (0 < i), la⟩ := by
  unfold link at h
  rcases List.mem_or_eq_of_mem_set h with h | h
  · exact .inl (List.eq_of_mem_replicate h)
  · exact .inr h
theorem ChR.step {w0 wr w' : World} {p n sl i : Nat} {m : Int} {la fi : Int} {X X' : Nat → Prop} {objs : List Obj'} {r : Nat} {N' : Nat} (h : ChR w0 p m n sl i la fi X objs wr) (hs : 0 < sl) (hN : N' = (i + 1) * (sl + 1)) (hst : St w0 w' X' p m N' ((r, link sl i la) :: objs)) :
    ChR w0 p m n sl (i + 1) r (if i = 0 then (r : Int) else fi) X' ((r, link sl i la) :: objs) w' := by
  refine ⟨by rw [← hN]; exact hst, by simp [h.len], ?_, fun o ho => by simp only [List.head?_cons, Option.some.injEq] at ho; rw [← ho], ?_⟩
  · cases ho : objs with
    | nil =>
      have hi : i = 0 := by rw [← h.len, ho]; rfl
      refine ⟨link_length _ _ _, fun s hs => ?_⟩
      rcases mem_link hs with rfl | rfl
      · rfl
      · simp [hi]
    | cons o rest =>
      have hi : 0 < i := by rw [← h.len, ho]; simp
      refine ⟨link_length _ _ _, ⟨⟨true, la⟩, ?_, rfl, h.hd o (by rw [ho]; rfl)⟩, by rw [← ho]; exact h.lk⟩
      unfold link
      have e : decide (0 < i) = true := by simp; exact hi
      rw [e]
      exact List.mem_set (by simp; omega) _
  · intro o ho
    cases he : objs with
    | nil =>
      have hi : i = 0 := by rw [← h.len, he]; rfl
      rw [he] at ho
      simp only [List.getLast?_singleton, Option.some.injEq] at ho
      rw [if_pos hi, ← ho]
    | cons x rest =>
      have hi : ¬ i = 0 := by rw [← h.len, he]; simp
      rw [if_neg hi]
      refine h.tl o ?_
      rw [he, List.getLast?_cons_cons] at ho
      rw [he]; exact ho
theorem ChR.ok {w0 wr : World} {p n sl i : Nat} {m : Int} {la fi : Int} {X : Nat → Prop} {objs : List Obj'} (h : ChR w0 p m n sl i la fi X objs wr) : ∀ s ∈ link sl i la, okSl objs s := by
  intro s hs
  rcases mem_link hs with rfl | rfl
  · intro h; cases h
  · intro hr
    have hi : 0 < i := by simpa using hr
    cases ho : objs with
    | nil => rw [← h.len, ho] at hi; cases hi
    | cons o rest => exact ⟨o, by simp, (h.hd o (by rw [ho]; rfl)).symm⟩

set_option maxHeartbeats 2000000 in
theorem chains_small (n sl : Int) (w : World) (h : n < 1 ∨ 200 < n ∨ sl < 1 ∨ 20 < sl) : Calls Try.prog 5 #[.int .i64 n, .int .i64 sl] w fun e w' => e = .returned (.bool true) ∧ Keep (fun _ => False) w w' := by
  have ha := awake_any w
  by_cases h1 : n < 1
  · go_enter Try.func5, Try.ntmps5
    go_wp2_with (go_at_call 8; refine ha.mono ?_; rintro e w' ⟨rfl, hk⟩; have HK := Lib.hid hk; clear hk)
    go_ret
    exact ⟨rfl, HK.out⟩
  by_cases h2 : 200 < n
  · go_enter Try.func5, Try.ntmps5
    go_wp2_with (go_at_call 8; refine ha.mono ?_; rintro e w' ⟨rfl, hk⟩; have HK := Lib.hid hk; clear hk)
    go_ret
    exact ⟨rfl, HK.out⟩
  by_cases h3 : sl < 1
  · go_enter Try.func5, Try.ntmps5
    go_wp2_with (go_at_call 8; refine ha.mono ?_; rintro e w' ⟨rfl, hk⟩; have HK := Lib.hid hk; clear hk)
    go_ret
    exact ⟨rfl, HK.out⟩
  · have h4 : 20 < sl := by omega
    go_enter Try.func5, Try.ntmps5
    go_wp2_with (go_at_call 8; refine ha.mono ?_; rintro e w' ⟨rfl, hk⟩; have HK := Lib.hid hk; clear hk)
    go_ret
    exact ⟨rfl, HK.out⟩

set_option maxHeartbeats 4000000 in
theorem chains_any (n sl : Nat) (w : World) (h1 : 1 ≤ n) (h2 : n ≤ 200) (h3 : 1 ≤ sl) (h4 : sl ≤ 20) : Calls Try.prog 5 #[.int .i64 n, .int .i64 sl] w fun e w' => e = .returned (.bool true) ∧ Keep (fun _ => False) w w' := by
  have ha := awake_any w
  have hmul : ((n : Int) * ((sl : Int) + 1)) = ((n * (sl + 1) : Nat) : Int) := by simp
  have hm1 : n * (sl + 1) ≤ 200 * 21 := Nat.mul_le_mul h2 (by omega)
  have hm2 : 0 ≤ (n : Int) * ((sl : Int) + 1) := by rw [hmul]; omega
  have hm3 : (n : Int) * ((sl : Int) + 1) ≤ 4200 := by rw [hmul]; omega
  have HMUL := Lib.hid (And.intro hmul hm1)
  clear hmul hm1
  have d1 : decide ((n : Int) < 1) = false := by simp; omega
  have d2 : decide (200 < (n : Int)) = false := by simp; omega
  have d3 : decide ((sl : Int) < 1) = false := by simp; omega
  have d4 : decide (20 < (sl : Int)) = false := by simp; omega
  go_enter Try.func5, Try.ntmps5
  go_wp2_with (go_at_call 8; refine ha.mono ?_; rintro e w1 ⟨rfl, hk⟩; have HK := Lib.hid hk; clear hk)
  refine (St.make _ (by omega) HK.out).mono ?_
  rintro e w2 ⟨X1, rfl, hS⟩
  have HS := Lib.hid hS
  clear hS ha
  go_wp2_with fail
  have h0 : Hid (ChI w w1.heap.size (n * (sl + 1) : Nat) n sl n (.int .i64 0) (.int .i64 0) (.int .i64 0) w2) := by
    refine ⟨0, 0, 0, X1, [], rfl, rfl, rfl, Nat.zero_le _, rfl, ⟨?_, rfl, trivial, (fun o ho => nomatch ho), (fun o ho => nomatch ho)⟩⟩
    have := HS.out
    rw [HMUL.out.1] at this
    rw [show max ((n * (sl + 1) : Nat) : Int) 0 = ((n * (sl + 1) : Nat) : Int) by omega] at this
    simpa using this
  clear d1 d2 d3 d4 hm2 hm3
  go_loopg [7, 8, 9] n (ChI w w1.heap.size (n * (sl + 1) : Nat) n sl)
  case atStart => exact h0.out
  case round =>
    clear h0
    obtain ⟨i, la, fi, X, objs, rfl, rfl, rfl, hi, rfl, hR⟩ := hrel
    have HR := Lib.hid hR
    clear hR
    by_cases hlt : i < n
    · go_wp2_with (at_make; refine wpList_mkSl rfl (.tmp 47) (.tmp 47) rfl sl sl rfl rfl rfl (by omega) ?_; intro g w3 ho hk hg hgl; have c0 : w3.cell? ⟨g, (sl - 1) * 2, none⟩ = some (.bool false) := (by rw [ho.cellAt _ (by omega)]; exact (sflat_get _ (sl - 1) z0 (by rw [List.getElem?_replicate, if_pos (by omega)])).1); have c1 : w3.cell? ⟨g, (sl - 1) * 2 + 1, none⟩ = some (.int .i64 0) := (by rw [ho.cellAt _ (by omega)]; exact (sflat_get _ (sl - 1) z0 (by rw [List.getElem?_replicate, if_pos (by omega)])).2); have fz := ho.frozenAt; have HO := Lib.hid (And.intro ho (And.intro hk hg)); clear ho hk hg)
      obtain ⟨ho, hk, rfl⟩ := HO.out
      have hR := HR.out
      have o2 := ((ho.stored ((sl - 1) * 2) (.bool (decide (0 < i)))).1.stored ((sl - 1) * 2 + 1) (.int .i64 la)).1
      rw [← sflat_set (List.replicate sl z0) (sl - 1) ⟨decide (0 < i), la⟩ z0 (by rw [List.getElem?_replicate, if_pos (by omega)])] at o2
      have hst := hR.st.step (w' := (w3.setCell ⟨wr.heap.size, (sl - 1) * 2, none⟩ (.bool (decide (0 < i)))).setCell ⟨wr.heap.size, (sl - 1) * 2 + 1, none⟩ (.int .i64 la)) ((hk.setCell (p := ⟨wr.heap.size, (sl - 1) * 2, none⟩) (.inr (Nat.le_refl _)) _).setCell (p := ⟨wr.heap.size, (sl - 1) * 2 + 1, none⟩) (.inr (Nat.le_refl _)) _)
      have hb1 : (i + 1) * (sl + 1) ≤ n * (sl + 1) := Nat.mul_le_mul_right _ (by omega)
      have hb2 := HMUL.out.2
      have hb3 : (i + 1) * (sl + 1) = i * (sl + 1) + sl + 1 := by simp only [Nat.add_mul, Nat.one_mul]; omega
      have hsum := hR.lk.sum
      rw [hR.len] at hsum
      refine (hst.alloc (l := link sl i la) (n := sl) (link_length _ _ _).symm (Rd.of_own o2 (fun g hg hx => by
        simp only [Value.ownBlock, Option.some.injEq] at hg
        subst hg
        have := hR.st.ar.lt _ hx
        omega)) (by rw [link_length]; omega) (by rw [link_length]; omega)).mono ?_
      rintro e w5 (⟨h, _⟩ | ⟨_, h, _⟩ | ⟨_, _, r, X', rfl, _, hS5, _⟩)
      · exact absurd hR.ok h
      · exfalso
        rw [link_length, hsum] at h
        omega
      have hR5 := hR.step (by omega) (by rw [link_length]; omega) hS5
      have HR5 := Lib.hid hR5
      clear hR5 hS5 hst o2 hR hb1 hb2 hb3 hsum ho hk HO HR c0 c1 fz
      cases i with
      | zero =>
        go_wp2_with fail
        go_roundg (n - 1)
        case measure => omega
        case rel =>
          exact ⟨1, r, r, X', _, rfl, rfl, rfl, by omega, rfl, by simpa using HR5.out⟩
      | succ i =>
        have hi0 : (((i : Int) + 1) == 0) = false := by simp; omega
        go_wp2_with fail
        go_roundg (n - (i + 1 + 1))
        case measure => omega
        case rel =>
          exact ⟨i + 1 + 1, r, fi, X', _, rfl, rfl, by go_num, by omega, rfl, by simpa using HR5.out⟩
    · have hie : i = n := by omega
      subst hie
      have hR := HR.out
      clear hlt hi
      cases hob : objs with
      | nil => rw [← hR.len, hob] at h1; cases h1
      | cons o rest =>
      have hla := hR.hd o (by rw [hob]; rfl)
      subst hla
      obtain ⟨f, hf⟩ : ∃ f, objs.getLast? = some f := by rw [hob]; exact ⟨_, List.getLast?_eq_some_getLast (by simp)⟩
      have hfi := hR.tl f hf
      subst hfi
      have hsum := hR.lk.sum
      rw [hR.len] at hsum
      have hkeys := hR.st.ar.keys
      have hfm : f ∈ objs := List.mem_of_getLast? hf
      obtain ⟨hf1, hf2⟩ := hR.lk.last hf
      have hall : ∀ M : Nat → Bool, (∀ i, M i = true ↔ ReachO objs [(o.1 : Int)] i) → (objs.filter fun o => M o.1) = objs := by
        intro M hM
        refine List.filter_eq_self.2 fun x hx => (hM _).2 ?_
        refine Lk.reach hR.lk (fun _ h => h) (fun y hy => ?_) x hx
        rw [hob] at hy
        simp only [List.head?_cons, Option.some.injEq] at hy
        subst hy
        exact .root (by simp) ⟨o, by rw [hob]; simp, rfl⟩
      have hone : ∀ M : Nat → Bool, (∀ i, M i = true ↔ ReachO objs [(f.1 : Int)] i) → (objs.filter fun o => M o.1) = [f] := fun M hM => filter_one hkeys hfm (fun i => (hM i).trans (reach_alone hkeys hfm hf2 i))
      have hq : (((i * (sl + 1) : Nat) : Int) - ((sl + 1 : Nat) : Int)) = ((i : Int) - 1) * ((sl : Int) + 1) := by
        rw [Int.sub_mul]; simp
      have hq2 := HMUL.out.2
      have hq3 : sl + 1 ≤ i * (sl + 1) := Nat.le_mul_of_pos_left _ (by omega)
      have hq0 : 0 ≤ ((i : Int) - 1) * ((sl : Int) + 1) := by rw [← hq]; omega
      have hq1 : ((i : Int) - 1) * ((sl : Int) + 1) ≤ 4200 := by rw [← hq]; omega
      have hw1 : usum [f] = sl + 1 := by simp [usum, hf1]
      have HQ := Lib.hid (And.intro hsum (And.intro hall (And.intro hone (And.intro hq (And.intro hw1 (And.intro hfm (And.intro hf1 (And.intro hR.st hR.len))))))))
      clear hsum hall hone hq hq2 hq3 hw1 hfm hf1 hf2 hkeys hf hob hR HR
      go_wp2_with fail
      obtain ⟨hsum, hall, hone, hq, hw1, hfm, hf1, hst, hlen⟩ := HQ.out
      refine ((hst.al (.cells #[.int .i64 (o.1 : Nat)] 3)).collect (rs := [(o.1 : Int)]) (n := 1) rfl (Rd.block (At.new _ _ _) (fun x => x) rfl) (by decide)).mono ?_
      rintro e w4 ⟨M, hM, rfl, hS4, _⟩
      rw [hall M hM] at hS4
      rw [hall M hM, Int.sub_self]
      have hO4 := hS4.ar.objects
      rw [hlen] at hO4
      have hG4 := hS4.ar.get_yes (r := f.1) (l := f.2) hfm
      rw [hf1] at hG4
      have H4 := Lib.hid hS4
      clear hsum hall hone hq hw1 hfm hf1 hst hlen hM hS4
      go_wp2_with (first | (go_at_call 20; refine hO4.mono ?_; rintro e w' ⟨rfl, rfl⟩) | (go_at_call 19; refine hG4.mono ?_; rintro e w5 ⟨lv, rfl, hlo, hk5, _⟩; obtain ⟨A5, c5, rfl⟩ := own_slice hlo; have H5 := Lib.hid (H4.out.step hk5); clear hlo hk5))
      obtain ⟨hsum, hall, hone, hq, hw1, hfm, hf1, hst, hlen⟩ := HQ.out
      refine ((H5.out.al (.cells #[.int .i64 (f.1 : Nat)] 3)).collect (rs := [(f.1 : Int)]) (n := 1) rfl (Rd.block (At.new _ _ _) (fun x => x) rfl) (by decide)).mono ?_
      rintro e w6 ⟨M, hM, rfl, hS6, _⟩
      rw [hone M hM] at hS6
      rw [hone M hM, hsum, hw1, hq]
      have H6 := Lib.hid hS6
      have hC6 := hS6.collect (rs := []) (n := 0) rfl (Rd.nil _ _ 1) (by decide)
      have HW := Lib.hid hw1
      clear hsum hall hone hq hw1 hfm hf1 hst hlen hM hS6
      go_wp2_with (first | (go_at_call 12; refine hC6.mono ?_; rintro e w7 ⟨M, hM, rfl, h7, _⟩; rw [filter_nil_reach hM] at h7 ⊢; rw [HW.out, show ((sl + 1 : Nat) : Int) - (usum [] : Nat) = (sl : Int) + 1 by simp [usum]]; have H7 := Lib.hid h7; have hus := h7.ar.used; rw [show ((usum [] : Nat) : Int) = 0 by rfl] at hus; clear h7 hM) | (go_at_call 13; refine hus.mono ?_; rintro e w' ⟨rfl, rfl⟩))
      go_ret
      exact ⟨ret_bool (by simp), H7.out.keep⟩

theorem chains_law (n sl : Int) (w : World) : Calls Try.prog 5 #[.int .i64 n, .int .i64 sl] w fun e w' => e = .returned (.bool true) ∧ Keep (fun _ => False) w w' := by
  by_cases h : n < 1 ∨ 200 < n ∨ sl < 1 ∨ 20 < sl
  · exact chains_small n sl w h
  · obtain ⟨a, rfl⟩ : ∃ a : Nat, n = a := ⟨n.toNat, by omega⟩
    obtain ⟨b, rfl⟩ : ∃ b : Nat, sl = b := ⟨sl.toNat, by omega⟩
    exact chains_any a b w (by omega) (by omega) (by omega) (by omega)

set_option maxRecDepth 100000 in
theorem chains_lifted (os : Os) (started : os.Started) (H : Type) (enc : TypeId × Value → H) :
    ReturnsInHanded {} Try.checked os 5 .any (Rows.heapChainsSpec.pre6 enc Try.prog Try.f5 Rows.heapChainsRow.domain false) (Rows.heapChainsSpec.post enc Try.prog Try.f5 false true false false) := by
  refine returnsInHanded_of_change (C := Try.checked) ownP started (by kernel_rfl) Try.func5
    (ChangeSpec.witness6 (enc := enc) (C := Try.checked) false ⟨#[], #[.int .i64 0, .int .i64 0], []⟩ 8 (by kernel_rfl) (by kernel_rfl) (by kernel_rfl) (by kernel_rfl)) ?_
  intro W base args ds gs before hval0 hW hcnd _
  have hval : ∀ (j : Nat) t v, Try.f5.params[j]? = some t → args[j]? = some v → Value.okWide Try.prog W .any base t v := hval0
  have hW' := hW
  obtain ⟨p, q, hA0, hV, rfl, hfz, hnd⟩ := hW
  have hA : DataW.TrodAll enc Try.prog W 0 (fun _ => true) true Try.f5.params.toList args.toList ds p := hA0
  rw [Try.params5] at hA hval
  obtain ⟨v0, v1, d0, d1, p0, p1, rfl, rfl, rfl, h0, h1⟩ := trodAll_two hA
  obtain ⟨rfl, rfl⟩ := trodVars_none hV
  obtain ⟨a, rfl, rfl, rfl, wa⟩ := open_int Try.underlying3 (hval 0 3 v0 rfl rfl) h0
  obtain ⟨b, rfl, rfl, rfl, wb⟩ := open_int Try.underlying3 (hval 1 3 v1 rfl rfl) h1
  refine (chains_law a b W).mono fun e W' ⟨he, hk⟩ => ?_
  exact ⟨_, he, law_post laidOut (by kernel_rfl) (by kernel_rfl) Try.underlying4 rfl hW' rfl rfl rfl hk⟩

/-- THE STATEMENT. -/
theorem heapChains_holds : Rows.HeapChainsSaid :=
  OpenClaim.holds_of_wide 5 Try.f5 rfl rfl rfl rfl rfl rfl rfl ⟨rfl, rfl, rfl, rfl, rfl⟩ rfl rfl rfl rfl rfl (by kernel_rfl) Try.func5 (by kernel_rfl)
    (of_decide_eq_true (by kernel_rfl)) (by unfold Func.isWrapper; first | (rw [if_pos (by decide +kernel)]; kernel_rfl) | (rw [if_neg (by decide +kernel)]; exact ⟨rfl, rfl⟩))
    (fun os started H enc _ => chains_lifted os started H enc)
#print axioms heapChains_holds
end Go.Proofs.Ytaklhkghjklkhaa
