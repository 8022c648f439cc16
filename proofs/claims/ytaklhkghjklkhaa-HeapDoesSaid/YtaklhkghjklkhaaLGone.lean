/-
  HeapGone: for every list of integers and every integer the law returns true; nothing that was there is changed. Conditions: none.
-/
import Derived.Test.YtaklhkghjklkhaaLOwn
namespace Go.Proofs.Ytaklhkghjklkhaa
open Go.RowKit Go.ChangeShapes Go.WideShapes Go.ChangeAt

structure GoneR (w0 : World) (p i : Nat) (lv : Value) (rs : List Int) (X : Nat → Prop) (objs : List Obj') (wr : World) : Prop where
  st : St w0 wr X p 2000 (21 * i) objs
  sum : usum objs ≤ 20 * i
  own : wr.ownsRow 0 3 1 lv i (ints rs)
  len : rs.length = i
  ap : ∀ g, lv.ownBlock = some g → ¬ X g ∧ w0.heap.size ≤ g
def GoneA (w0 : World) (p n : Nat) (k : Nat) (a b : Value) (wr : World) : Prop :=
  ∃ (i : Nat) (lv : Value) (rs : List Int) (X : Nat → Prop) (objs : List Obj'), a = lv ∧ b = .int .i64 i ∧ i ≤ n ∧ k = n - i ∧ GoneR w0 p i lv rs X objs wr
def GoneB (w0 w4 : World) (p n N : Nat) (X : Nat → Prop) (k : Nat) (b : Value) (wr : World) : Prop :=
  ∃ i : Nat, b = .int .i64 i ∧ i ≤ n ∧ k = n - i ∧ St w0 wr X p 2000 N [] ∧ Keep (fun _ => False) w4 wr
theorem St.more' {w0 w : World} {X : Nat → Prop} {p : Nat} {m : Int} {N N' : Nat} {objs : List Obj'} (h : St w0 w X p m N objs) (h1 : N ≤ N') (h2 : N' ≤ 500000) : St w0 w X p m N' objs := ⟨h.ar.more h1 h2, h.keep, h.new⟩
theorem not_hasK (r : Int) : ¬ hasK [] r := fun ⟨_, h, _⟩ => nomatch h
theorem zeros_ok (n : Nat) (objs : List Obj') : ∀ s ∈ List.replicate n z0, okSl objs s := fun s hs hr => by
  rw [List.eq_of_mem_replicate hs] at hr
  cases hr
/-- An allocation that fits, of slots that lead nowhere wrong. -/
theorem St.fits {w0 w : World} {X : Nat → Prop} {p : Nat} {m : Int} {N : Nat} {objs : List Obj'} (h : St w0 w X p m N objs) {l : List Sl} {lv : Value} {n : Nat} (hn : n = l.length) (hr : Rd w X 2 lv n (sflat l)) (hl : l.length ≤ 100000) (hN : N + l.length + 1 ≤ 500000)
    (hok : ∀ s ∈ l, okSl objs s) (hfit : (usum objs : Int) + l.length < m) :
    Calls Try.prog 11 #[.pointer (some ⟨p, 0, none⟩), lv] w fun e w' => ∃ (r : Nat) (X' : Nat → Prop), e = .returned (.tuple #[.int .i64 r, .int .i64 0]) ∧ ¬ hasK objs r ∧ St w0 w' X' p m (N + l.length + 1) ((r, l) :: objs) ∧ Keep X w w' ∧ ∀ i, X' i → X i ∨ w.heap.size ≤ i := by
  refine (h.alloc hn hr hl hN).mono ?_
  rintro e w' (⟨h1, _⟩ | ⟨_, h1, _⟩ | ⟨_, _, r, X', rfl, h1, h2, h3, h4⟩)
  · exact absurd hok h1
  · omega
  · exact ⟨r, X', rfl, h1, h2, h3, h4⟩
/-- One that leads nowhere. -/
theorem St.wrong {w0 w : World} {X : Nat → Prop} {p : Nat} {m : Int} {N : Nat} {objs : List Obj'} (h : St w0 w X p m N objs) {l : List Sl} {lv : Value} {n : Nat} (hn : n = l.length) (hr : Rd w X 2 lv n (sflat l)) (hl : l.length ≤ 100000) (hN : N + l.length + 1 ≤ 500000)
    {s : Sl} (hs : s ∈ l) (h1 : s.ref = true) (h2 : ¬ hasK objs s.n) :
    Calls Try.prog 11 #[.pointer (some ⟨p, 0, none⟩), lv] w fun e w' => e = .returned (.tuple #[.int .i64 0, .int .i64 1]) ∧ St w0 w' X p m N objs ∧ Keep (fun _ => False) w w' := by
  refine (h.alloc hn hr hl hN).mono ?_
  rintro e w' (⟨_, rfl, h3, h4⟩ | ⟨h3, _⟩ | ⟨h3, _⟩)
  · exact ⟨rfl, h3, h4⟩
  · exact absurd (h3 s hs h1) h2
  · exact absurd (h3 s hs h1) h2

set_option maxHeartbeats 400000 in
theorem gone_big (A : Option Addr) (n c : Nat) (pr : Int) (w : World) (h : 50 < n) : Calls Try.prog 7 #[.slice A n c, .int .i64 pr] w fun e w' => e = .returned (.bool true) ∧ Keep (fun _ => False) w w' := by
  have ha := awake_any w
  have hd : decide (50 < (n : Int)) = true := by simp; omega
  go_enter Try.func7, Try.ntmps7
  go_wp2_with (go_at_call 8; refine ha.mono ?_; rintro e w' ⟨rfl, hk⟩; have HK := Lib.hid hk; clear hk)
  go_ret
  exact ⟨rfl, HK.out⟩

set_option maxHeartbeats 4000000 in
theorem gone_any (A : Option Addr) (n c : Nat) (zs : List Int) (pr : Int) (w : World) (hn : n = zs.length) (h : n ≤ 50) (hr : Rd w (fun k => w.heap.size ≤ k) 1 (.slice A n c) n (ints zs)) : Calls Try.prog 7 #[.slice A n c, .int .i64 pr] w fun e w' => e = .returned (.bool true) ∧ Keep (fun _ => False) w w' := by
  have ha := awake_any w
  have hd : decide (50 < (n : Int)) = false := by simp; omega
  have HR := Lib.hid hr
  have HN := Lib.hid hn
  clear hr hn
  go_enter Try.func7, Try.ntmps7
  go_wp2_with (go_at_call 8; refine ha.mono ?_; rintro e w1 ⟨rfl, hk⟩; have HK := Lib.hid hk; clear hk)
  refine (St.make 2000 (by decide) HK.out).mono ?_
  rintro e w2 ⟨X1, rfl, hS⟩
  have h0 : Hid (GoneA w w1.heap.size n n (.slice none 0 0) (.int .i64 0) w2) := ⟨0, _, [], X1, [], rfl, rfl, Nat.zero_le _, rfl, ⟨hS, by simp [usum], World.ownsRow_nil w2 0 3 1, rfl, fun g hg => by simp [Value.ownBlock] at hg⟩⟩
  clear hS ha
  go_wp2_with fail
  go_loopg [7, 8] n (GoneA w w1.heap.size n)
  case atStart => exact h0.out
  case round =>
    clear h0
    obtain ⟨i, lv, rs, X, objs, rfl, rfl, hi, rfl, hG⟩ := hrel
    obtain ⟨Al, cl, rfl⟩ := own_slice hG.own
    have HG := Lib.hid hG
    clear hG
    by_cases hlt : i < n
    · obtain ⟨_, A', c', hv, _, hrr⟩ := HR.out
      simp only [Value.slice.injEq, true_and] at hv
      obtain ⟨rfl, rfl⟩ := hv
      obtain ⟨b, o, rfl, hb, _, hcell⟩ := hrr (by omega)
      have hnn := HN.out
      obtain ⟨z, hz⟩ : ∃ z, zs[i]? = some z := ⟨_, List.getElem?_eq_getElem (by omega)⟩
      have c0 : wr.cell? ⟨b, o + i, none⟩ = some (.int .i64 z) := HG.out.st.keep.cell (p := ⟨b, o + i, none⟩) (by rw [hcell _ (by omega)]; simp [ints, hz]) (fun x => x)
      clear hz hcell hnn hrr
      have t1 : -20 < z.tmod 20 := Int.lt_tmod_of_pos _ (by decide)
      have t2 : z.tmod 20 < 20 := Int.tmod_lt_of_pos _ (by decide)
      obtain ⟨m, hm, hm2⟩ : ∃ m : Nat, z.tmod 20 % 20 = (m : Int) ∧ m < 20 := ⟨(z.tmod 20 % 20).toNat, by omega, by omega⟩
      have HMM := Lib.hid hm
      clear hm
      go_wp2_with (at_make; refine wpList_mkSl rfl (.tmp 48) (.tmp 48) rfl ((z.tmod 20 + 20) % 20) m rfl rfl (by have := HMM.out; omega) (by omega) ?_; intro g w3 ho hk hg hgl; have HO := Lib.hid (And.intro ho (And.intro hk hg)); clear ho hk hg)
      obtain ⟨ho, hk, rfl⟩ := HO.out
      have hG := HG.out
      have hsum := hG.sum
      have hst := hG.st.step hk
      refine (hst.fits (l := List.replicate m z0) (n := m) (by simp) (Rd.of_own ho (fun g hg hx => by
        simp only [Value.ownBlock, Option.some.injEq] at hg
        subst hg
        have := hG.st.ar.lt _ hx
        omega)) (by simp; omega) (by simp; omega) (zeros_ok m _) (by simp; omega)).mono ?_
      rintro e w4 ⟨r, X', rfl, _, hS4, hk4, hX4⟩
      have hap : ∀ g, Value.ownBlock (.slice Al i cl) = some g → ¬ X' g ∧ w.heap.size ≤ g := fun g hg => ⟨fun hx => by
        rcases hX4 g hx with h | h
        · exact (hG.ap g hg).1 h
        · have := own_lt hG.own hg; have := hk.size; omega, (hG.ap g hg).2⟩
      have ho4 : w4.ownsRow 0 3 1 (.slice Al i cl) i (ints rs) := hk4.own (hk.own hG.own (fun _ _ x => x)) (fun g hg => (hG.ap g hg).1)
      have hbig : i + 1 ≤ 1099511627776 := by omega
      have HU := Lib.hid (And.intro hS4 (And.intro hap ho4))
      clear hS4 hap ho4 hk4 hX4 hst hsum hG ho hk HO t1 t2
      go_wp2_with (at_builtin; refine wpList_app rfl (.tmp 55) (.tmp 57) 27 rfl E3 (.slice Al i cl) i (ints rs) rfl (HU.out.2.2.alloc _) w4.heap.size 1 1 #[.int .i64 r] rfl (At.new _ _ _) rfl (by simp [Value.oneCell']) (by decide) hbig (by decide) ?_)
      intro g cap w5 ho5 hk5 hg5 hgl5
      have H5 := Lib.hid (And.intro ho5 (And.intro hk5 hg5))
      clear ho5 hk5 hg5
      go_wp2_with fail
      go_roundg (n - (i + 1))
      case measure => omega
      case rel =>
        obtain ⟨hS4, hap, ho4⟩ := HU.out
        obtain ⟨ho5, hk5, hg5⟩ := H5.out
        have hG := HG.out
        refine ⟨i + 1, _, rs ++ [(r : Int)], X', (r, List.replicate m z0) :: objs, rfl, by go_num, by omega, rfl, ⟨?_, ?_, ?_, by simp [hG.len], ?_⟩⟩
        · refine St.step' (St.more' (St.al hS4 _) (by simp; omega) (by omega)) hk5 (fun j hx hy => (hap j hy).1 hx) (fun j hj => (hap j hj).2)
        · have := hG.sum
          simp only [usum, List.map_cons, List.sum_cons, List.length_replicate] at this ⊢
          omega
        · rw [ints_append]
          exact ho5
        · intro j hj
          simp only [Value.ownBlock, Option.some.injEq] at hj
          subst hj
          rcases hg5 with h | h
          · exact hap _ h
          · refine ⟨fun hx => ?_, ?_⟩
            · have := hS4.ar.lt _ hx; first | omega | (simp at h; omega)
            · have := hS4.keep.size; first | omega | (simp at h; omega)
    · have hie : i = n := by omega
      subst hie
      have hcol := HG.out.st.collect (rs := []) (n := 0) rfl (Rd.nil _ _ 1) (by decide)
      go_wp2_with (go_at_call 12; refine hcol.mono ?_; rintro e w4 ⟨M, hM, rfl, hS4, hk4⟩; rw [filter_nil_reach hM] at hS4; have H4 := Lib.hid (And.intro hS4 hk4); clear hS4 hk4 hM)
      obtain ⟨hS4, hk4⟩ := H4.out
      have ho4 := hk4.own HG.out.own (fun g hg => (HG.out.ap g hg).1)
      have h4 : Hid (GoneB w w4 w1.heap.size i (21 * i) X i (.int .i64 0) w4) := ⟨0, rfl, Nat.zero_le _, rfl, hS4, Keep.refl _ _⟩
      have HO4 := Lib.hid (And.intro ho4 HG.out.len)
      clear hS4 hk4 ho4 hlt hi H4 HG hcol
      go_loopg [12] i (fun k b wr => GoneB w w4 w1.heap.size i (21 * i) X k b wr)
      case atStart => exact h4.out
      case round =>
        clear h4
        obtain ⟨j, rfl, hj, rfl, hS, hk⟩ := hrel
        by_cases hjl : j < i
        · obtain ⟨ho4, hlen⟩ := HO4.out
          obtain ⟨t, ht⟩ : ∃ t, rs[j]? = some t := ⟨_, List.getElem?_eq_getElem (by omega)⟩
          obtain ⟨sg, c5, hv⟩ : ∃ sg c5, (Value.slice Al i cl) = .slice (some ⟨sg, 0, none⟩) i c5 := by
            rcases own_cases ho4 with ⟨_, h0, _⟩ | ⟨g, cap, hv, _, _⟩
            · omega
            · exact ⟨g, cap, hv⟩
          simp only [Value.slice.injEq, true_and] at hv
          obtain ⟨rfl, rfl⟩ := hv
          have c0 : wr.cell? ⟨sg, j, none⟩ = some (.int .i64 t) := hk.cell (p := ⟨sg, j, none⟩) (by rw [ho4.cellAt _ (by omega)]; simp [ints, ht]) (fun x => x)
          have hsz : sg < wr.heap.size := Nat.lt_of_lt_of_le (own_lt (g := sg) ho4 rfl) hk.size
          have hget := hS.ar.get_no (r := t) (not_hasK t)
          have hal := (hS.al (.cells #[.bool true, .int .i64 t] 32)).wrong (l := [⟨true, t⟩]) (n := 1) rfl (Rd.block (At.new _ _ _) (fun hx => by have := hS.ar.lt _ hx; omega) rfl) (by simp) (by simp; omega) (List.mem_cons_self) rfl (not_hasK t)
          have HK := Lib.hid (And.intro hS hk)
          clear ho4 hlen ht hS hk
          go_wp2_with (first | (go_at_call 19; refine hget.mono ?_; rintro e w' ⟨rfl, rfl⟩) | (go_at_call 11; refine hal.mono ?_; rintro e w6 ⟨rfl, hS6, hk6⟩; have H6 := Lib.hid (And.intro hS6 hk6); clear hS6 hk6))
          go_roundg (i - (j + 1))
          case measure => omega
          case rel =>
            obtain ⟨hS6, hk6⟩ := H6.out
            exact ⟨j + 1, by go_num, by omega, rfl, hS6, (HK.out.2.alloc _).trans hk6 (fun _ _ x => x)⟩
        · have hget := hS.ar.get_no (r := pr) (not_hasK pr)
          have hal := (hS.al (.cells #[.bool false, .int .i64 0, .bool true, .int .i64 pr] 32)).wrong (l := [z0, ⟨true, pr⟩]) (n := 2) rfl (Rd.block (At.new _ _ _) (fun hx => by have := hS.ar.lt _ hx; omega) rfl) (by simp) (by simp; omega) (List.mem_cons_of_mem _ List.mem_cons_self) rfl (not_hasK pr)
          clear hS hk
          go_wp2_with (first | (go_at_call 19; refine hget.mono ?_; rintro e w' ⟨rfl, rfl⟩) | (go_at_call 11; refine hal.mono ?_; rintro e w6 ⟨rfl, hS6, hk6⟩; have H6 := Lib.hid hS6; have hob := hS6.ar.objects; clear hS6 hk6) | (go_at_call 20; refine hob.mono ?_; rintro e w' ⟨rfl, rfl⟩))
          go_ret
          exact ⟨rfl, H6.out.keep⟩
theorem gone_law (A : Option Addr) (n c : Nat) (zs : List Int) (pr : Int) (w : World) (hn : n = zs.length) (hr : Rd w (fun k => w.heap.size ≤ k) 1 (.slice A n c) n (ints zs)) : Calls Try.prog 7 #[.slice A n c, .int .i64 pr] w fun e w' => e = .returned (.bool true) ∧ Keep (fun _ => False) w w' := by
  by_cases h : 50 < n
  · exact gone_big A n c pr w h
  · exact gone_any A n c zs pr w hn (by omega) hr

set_option maxRecDepth 100000 in
theorem gone_lifted (os : Os) (started : os.Started) (H : Type) (enc : TypeId × Value → H) :
    ReturnsInHanded {} Try.checked os 7 .any (Rows.heapGoneSpec.pre6 enc Try.prog Try.f7 Rows.heapGoneRow.domain false) (Rows.heapGoneSpec.post enc Try.prog Try.f7 false true false false) := by
  refine returnsInHanded_of_change (C := Try.checked) ownP started (by kernel_rfl) Try.func7
    (ChangeSpec.witness6 (enc := enc) (C := Try.checked) false ⟨#[], #[.slice none 0 0, .int .i64 0], []⟩ 8 (by kernel_rfl) (by kernel_rfl) (by kernel_rfl) (by kernel_rfl)) ?_
  intro W base args ds gs before hval0 hW hcnd _
  have hval : ∀ (j : Nat) t v, Try.f7.params[j]? = some t → args[j]? = some v → Value.okWide Try.prog W .any base t v := hval0
  have hW' := hW
  obtain ⟨p, q, hA0, hV, rfl, hfz, hnd⟩ := hW
  have hA : DataW.TrodAll enc Try.prog W 0 (fun _ => true) true Try.f7.params.toList args.toList ds p := hA0
  rw [Try.params7] at hA hval
  obtain ⟨v0, v1, d0, d1, p0, p1, rfl, rfl, rfl, h0, h1⟩ := trodAll_two hA
  obtain ⟨rfl, rfl⟩ := trodVars_none hV
  obtain ⟨A, n, c, zs, rfl, hn, hr, _⟩ := open_rd (hval 0 27 v0 rfl rfl) h0 (fun x hx => hW'.lt x (by simp [hx]))
  obtain ⟨b, rfl, rfl, rfl, wb⟩ := open_int Try.underlying3 (hval 1 3 v1 rfl rfl) h1
  refine (gone_law A n c zs b W hn hr).mono fun e W' ⟨he, hk⟩ => ?_
  exact ⟨_, he, law_post laidOut (by kernel_rfl) (by kernel_rfl) Try.underlying4 rfl hW' rfl rfl rfl hk⟩

/-- THE STATEMENT. -/
theorem heapGone_holds : Rows.HeapGoneSaid :=
  OpenClaim.holds_of_wide 7 Try.f7 rfl rfl rfl rfl rfl rfl rfl ⟨rfl, rfl, rfl, rfl, rfl⟩ rfl rfl rfl rfl rfl (by kernel_rfl) Try.func7 (by kernel_rfl)
    (of_decide_eq_true (by kernel_rfl)) (by unfold Func.isWrapper; first | (rw [if_pos (by decide +kernel)]; kernel_rfl) | (rw [if_neg (by decide +kernel)]; exact ⟨rfl, rfl⟩))
    (fun os started H enc _ => gone_lifted os started H enc)
#print axioms heapGone_holds
end Go.Proofs.Ytaklhkghjklkhaa
