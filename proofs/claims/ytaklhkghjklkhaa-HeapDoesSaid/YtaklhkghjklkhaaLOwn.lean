/-
  HeapOwn: for every list of integers the law returns true; nothing that was there is changed. Conditions: none.
-/
import Derived.Test.YtaklhkghjklkhaaLChains
namespace Go.Proofs.Ytaklhkghjklkhaa
open Go.RowKit Go.ChangeShapes Go.WideShapes Go.ChangeAt

theorem St.step' {w0 w w' : World} {X Y : Nat → Prop} {p : Nat} {m : Int} {N : Nat} {objs : List Obj'} (h : St w0 w X p m N objs) (k : Keep Y w w') (h1 : ∀ i, X i → ¬ Y i) (h2 : ∀ i, Y i → w0.heap.size ≤ i) : St w0 w' X p m N objs :=
  ⟨h.ar.keep k h1, h.keep.trans k (fun i hi hy => by have := h2 i hy; omega), h.new⟩
def nums (zs : List Int) : List Sl := zs.map fun z => ⟨false, z⟩
theorem nums_length (zs : List Int) : (nums zs).length = zs.length := by simp [nums]
theorem nums_take {zs : List Int} {i : Nat} {z : Int} (h : zs[i]? = some z) : nums (zs.take (i + 1)) = nums (zs.take i) ++ [⟨false, z⟩] := by simp [nums, List.take_add_one, h]

def OwnA (w2 : World) (zs : List Int) (k : Nat) (a b : Value) (wr : World) : Prop :=
  ∃ (i : Nat) (lv : Value), a = lv ∧ b = .int .i64 i ∧ i ≤ zs.length ∧ k = zs.length - i ∧ wr.ownsRow 0 32 2 lv i (sflat (nums (zs.take i))) ∧ Keep (fun _ => False) w2 wr ∧ ∀ g, lv.ownBlock = some g → w2.heap.size ≤ g
def OwnB (w4 : World) (sv : Value) (n : Nat) (k : Nat) (b : Value) (wr : World) : Prop :=
  ∃ (i : Nat) (xs : List Value), b = .int .i64 i ∧ i ≤ n ∧ k = n - i ∧ wr.ownsRow 0 32 2 sv n xs ∧ Keep (fun k => sv.ownBlock = some k) w4 wr
def OwnC (n : Nat) (k : Nat) (b : Value) (w5 wr : World) : Prop :=
  ∃ (i : Nat), b = .int .i64 i ∧ i ≤ n ∧ k = n - i ∧ ∃ d, wr = w5.drewN d
/-- a cell of a row, whatever it holds -/
theorem own_some {w : World} {g n c j : Nat} {xs : List Value} (h : w.ownsRow 0 32 2 (.slice (some ⟨g, 0, none⟩) n c) n xs) (hj : j < n * 2) : ∃ u, w.cell? ⟨g, j, none⟩ = some u := by
  have hl := h.1
  exact ⟨xs[j], by rw [h.cellAt j hj]; exact List.getElem?_eq_getElem (by omega)⟩

set_option maxHeartbeats 400000 in
theorem own_big (A : Option Addr) (n c : Nat) (w : World) (h : 100 < n) : Calls Try.prog 6 #[.slice A n c] w fun e w' => e = .returned (.bool true) ∧ Keep (fun _ => False) w w' := by
  have ha := awake_any w
  have hd : decide (100 < (n : Int)) = true := by simp; omega
  go_enter Try.func6, Try.ntmps6
  go_wp2_with (go_at_call 8; refine ha.mono ?_; rintro e w' ⟨rfl, hk⟩; have HK := Lib.hid hk; clear hk)
  go_ret
  exact ⟨rfl, HK.out⟩

set_option maxHeartbeats 4000000 in
theorem own_any (A : Option Addr) (n c : Nat) (zs : List Int) (w : World) (hn : n = zs.length) (h : n ≤ 100) (hr : Rd w (fun k => w.heap.size ≤ k) 1 (.slice A n c) n (ints zs)) : Calls Try.prog 6 #[.slice A n c] w fun e w' => e = .returned (.bool true) ∧ Keep (fun _ => False) w w' := by
  have ha := awake_any w
  have hd : decide (100 < (n : Int)) = false := by simp; omega
  have HR := Lib.hid hr
  have HN := Lib.hid hn
  clear hr hn
  go_enter Try.func6, Try.ntmps6
  go_wp2_with (go_at_call 8; refine ha.mono ?_; rintro e w1 ⟨rfl, hk⟩; have HK := Lib.hid hk; clear hk)
  refine (St.make 1000 (by decide) HK.out).mono ?_
  rintro e w2 ⟨X1, rfl, hS⟩
  have HS := Lib.hid hS
  have hz2 := hS.keep.size
  clear hS ha
  go_wp2_with fail
  have h0 : Hid (OwnA w2 zs n (.slice none 0 0) (.int .i64 0) w2) := ⟨0, _, rfl, rfl, Nat.zero_le _, by rw [HN.out]; rfl, by simpa [nums, sflat] using World.ownsRow_nil w2 0 32 2, Keep.refl _ _, fun g hg => by simp [Value.ownBlock] at hg⟩
  go_loopg [5, 6] n (OwnA w2 zs)
  case atStart => exact h0.out
  case round =>
    clear h0
    obtain ⟨i, lv, rfl, rfl, hi, rfl, ho, hk, hf⟩ := hrel
    have hnn := HN.out
    obtain ⟨Al, cl, rfl⟩ := own_slice ho
    by_cases hlt : i < n
    · obtain ⟨_, A', c', hv, _, hrr⟩ := HR.out
      simp only [Value.slice.injEq, true_and] at hv
      obtain ⟨rfl, rfl⟩ := hv
      obtain ⟨b, o, rfl, hb, _, hcell⟩ := hrr (by omega)
      obtain ⟨z, hz⟩ : ∃ z, zs[i]? = some z := ⟨_, List.getElem?_eq_getElem (by omega)⟩
      have c0 : wr.cell? ⟨b, o + i, none⟩ = some (.int .i64 z) := (HS.out.keep.trans hk (fun _ _ x => x)).cell (p := ⟨b, o + i, none⟩) (by rw [hcell _ (by omega)]; simp [ints, hz]) (fun x => x)
      have hb2 : b < wr.heap.size := by have := hk.size; omega
      have hbig : i + 1 ≤ 1099511627776 := by omega
      have HO := Lib.hid (And.intro ho (And.intro hk (And.intro hf hz)))
      clear ho hk hf hz hcell hnn hrr
      go_wp2_with (at_builtin; refine wpList_app rfl (.tmp 34) (.tmp 40) 28 rfl E32 (.slice Al i cl) i (sflat (nums (zs.take i))) rfl (HO.out.1.alloc _) wr.heap.size 1 1 #[.bool false, .int .i64 z] rfl (At.new _ _ _) rfl (by simp [Value.oneCell']) (by decide) hbig (by decide) ?_)
      intro g cap w3 ho3 hk3 hg3 hgl3
      have HO3 := Lib.hid (And.intro ho3 (And.intro hk3 hg3))
      clear ho3 hk3 hg3
      go_wp2_with fail
      obtain ⟨ho, hk, hf, hz⟩ := HO.out
      obtain ⟨ho3, hk3, hg3⟩ := HO3.out
      have hnn := HN.out
      go_roundg (zs.length - (i + 1))
      case measure => omega
      case rel =>
        refine ⟨i + 1, _, rfl, by go_num, by omega, rfl, ?_, (hk.alloc _).trans hk3 (fun j hj hx => ?_), fun j hj => ?_⟩
        · rw [nums_take hz, sflat_append]
          simpa [sflat, Sl.vals] using ho3
        · have := hf j hx; omega
        · simp only [Value.ownBlock, Option.some.injEq] at hj
          subst hj
          rcases hg3 with h | h
          · exact hf _ h
          · have := hk.size; first | omega | (simp at h; omega)
    · have hie : i = n := by omega
      subst hie
      have hok : ∀ s ∈ nums zs, okSl [] s := by
        intro s hs hr
        obtain ⟨z, _, rfl⟩ := List.mem_map.1 hs
        cases hr
      have htk : zs.take i = zs := by rw [hnn, List.take_length]
      rw [htk] at ho
      have hst := HS.out.step hk
      have hX : ∀ g, Value.ownBlock (.slice Al i cl) = some g → ¬ X1 g := fun g hg hx => by have := hf g hg; have := HS.out.ar.lt g hx; omega
      have hal := hst.alloc (l := nums zs) (n := i) (by rw [nums_length]; exact hnn) (Rd.of_own ho hX) (by rw [nums_length]; omega) (by rw [nums_length]; omega)
      have HO := Lib.hid (And.intro ho (And.intro hk (And.intro hf (And.intro hX hok))))
      clear ho hk hf hX hok hst htk hnn
      go_wp2_with fail
      refine hal.mono ?_
      rintro e w4 (⟨h, _⟩ | ⟨_, h, _⟩ | ⟨_, _, r, X4, rfl, _, hS4, hk4, hX4⟩)
      · exact absurd HO.out.2.2.2.2 h
      · exfalso
        rw [nums_length, ← HN.out] at h
        simp only [usum, List.map_nil, List.sum_nil] at h
        omega
      obtain ⟨ho, hk, hf, hX, _⟩ := HO.out
      have ho4 := hk4.own ho hX
      have hd4 : ∀ j, X4 j → ¬ Value.ownBlock (.slice Al i cl) = some j := by
        intro j hj hx
        rcases hX4 j hj with h' | h'
        · exact hX j hx h'
        · have := own_lt ho hx; omega
      have hge : ∀ j, Value.ownBlock (.slice Al i cl) = some j → w.heap.size ≤ j := fun j hj => Nat.le_trans hz2 (hf j hj)
      have h4 : Hid (OwnB w4 (.slice Al i cl) i i (.int .i64 0) w4) := ⟨0, _, rfl, Nat.zero_le _, rfl, ho4, Keep.refl _ _⟩
      have H4 := Lib.hid (And.intro hS4 (And.intro hd4 hge))
      clear ho hk hf hX ho4 hd4 hge hS4 hk4 hX4 hal HO HS hz2
      go_wp2_with fail
      go_loopg [9] i (OwnB w4 (.slice Al i cl) i)
      case atStart => exact h4.out
      case round =>
        clear h4
        obtain ⟨j, xs, rfl, hj, rfl, ho, hk⟩ := hrel
        by_cases hjl : j < i
        · obtain ⟨sg, c5, hv⟩ : ∃ sg c5, (Value.slice Al i cl) = .slice (some ⟨sg, 0, none⟩) i c5 := by
            rcases own_cases ho with ⟨_, h0, _⟩ | ⟨g, cap, hv, _, _⟩
            · omega
            · exact ⟨g, cap, hv⟩
          simp only [Value.slice.injEq, true_and] at hv
          obtain ⟨rfl, rfl⟩ := hv
          obtain ⟨u, hu⟩ := own_some ho (j := j * 2 + 1) (by omega)
          have fz := ho.frozenAt
          have HO := Lib.hid (And.intro ho hk)
          clear ho hk
          go_wp2_with fail
          go_roundg (i - (j + 1))
          case measure => omega
          case rel =>
            obtain ⟨ho, hk⟩ := HO.out
            exact ⟨j + 1, _, by go_num, by omega, rfl, (ho.stored _ _).1, hk.setCell (p := ⟨sg, j * 2 + 1, none⟩) (.inl rfl) _⟩
        · obtain ⟨hS4, hd4, hge⟩ := H4.out
          have hS5 := hS4.step' hk (fun a ha hb => hd4 a ha hb) hge
          have hget := hS5.ar.get_yes (r := r) (l := nums zs) (by simp)
          rw [nums_length, ← HN.out] at hget
          have H5 := Lib.hid hS5
          clear hS4 hd4 hge hS5 ho hk H4
          go_wp2_with (go_at_call 19; refine hget.mono ?_; rintro e w6 ⟨xv, rfl, hxo, hxk, hxf⟩; obtain ⟨A6, c6, rfl⟩ := own_slice hxo; have H6 := Lib.hid (And.intro (H5.out.step hxk) (And.intro hxo (fun g hg hx => by have h1 := hxf g hg; have h2 := H5.out.ar.lt g hx; omega : ∀ g, Value.ownBlock (.slice A6 i c6) = some g → ¬ X4 g))); have H6f := Lib.hid (fun g hg => Nat.le_trans H5.out.keep.size (hxf g hg) : ∀ g, Value.ownBlock (.slice A6 i c6) = some g → w.heap.size ≤ g); clear hxo hxk hxf)
          obtain ⟨hS6, hxo, hxf⟩ := H6.out
          have h6 : Hid (OwnB w6 (.slice A6 i c6) i i (.int .i64 0) w6) := ⟨0, _, rfl, Nat.zero_le _, rfl, hxo, Keep.refl _ _⟩
          clear hS6 hxo hxf hjl hj
          go_loopg [12] i (OwnB w6 (.slice A6 i c6) i)
          case atStart => exact h6.out
          case round =>
            clear h6
            obtain ⟨j, xs, rfl, hj, rfl, ho, hk⟩ := hrel
            by_cases hjl : j < i
            · obtain ⟨sg, c5, hv⟩ : ∃ sg c5, (Value.slice A6 i c6) = .slice (some ⟨sg, 0, none⟩) i c5 := by
                rcases own_cases ho with ⟨_, h0, _⟩ | ⟨g, cap, hv, _, _⟩
                · omega
                · exact ⟨g, cap, hv⟩
              simp only [Value.slice.injEq, true_and] at hv
              obtain ⟨rfl, rfl⟩ := hv
              obtain ⟨u, hu⟩ := own_some ho (j := j * 2) (by omega)
              have fz := ho.frozenAt
              have HO := Lib.hid (And.intro ho hk)
              clear ho hk
              go_wp2_with fail
              go_roundg (i - (j + 1))
              case measure => omega
              case rel =>
                obtain ⟨ho, hk⟩ := HO.out
                exact ⟨j + 1, _, by go_num, by omega, rfl, (ho.stored _ _).1, hk.setCell (p := ⟨sg, j * 2, none⟩) (.inl rfl) _⟩
            · obtain ⟨hS6, hxo, hxf⟩ := H6.out
              have hS7 := hS6.step' hk (fun a ha hb => hxf a hb ha) H6f.out
              have hget := hS7.ar.get_yes (r := r) (l := nums zs) (by simp)
              rw [nums_length, ← HN.out] at hget
              have H7 := Lib.hid hS7
              clear hS6 hxo hxf hS7 ho hk H6 H6f H5
              go_wp2_with (go_at_call 19; refine hget.mono ?_; rintro e w8 ⟨yv, rfl, hyo, hyk, _⟩; obtain ⟨A8, c8, rfl⟩ := own_slice hyo; have H8 := Lib.hid (And.intro hyo (H7.out.keep.trans hyk (fun _ _ x => x))); clear hyo hyk)
              have h8 : Hid (OwnC i i (.int .i64 0) w8 w8) := ⟨0, rfl, Nat.zero_le _, rfl, 0, rfl⟩
              clear hjl hj
              go_loopg [15] i (fun k b wr => OwnC i k b w8 wr)
              case atStart => exact h8.out
              case round =>
                clear h8
                obtain ⟨j, rfl, hj, rfl, d, rfl⟩ := hrel
                by_cases hjl : j < i
                · obtain ⟨_, A', c', hv, _, hrr⟩ := HR.out
                  simp only [Value.slice.injEq, true_and] at hv
                  obtain ⟨rfl, rfl⟩ := hv
                  obtain ⟨b, o, rfl, hb, _, hcell⟩ := hrr (by omega)
                  have hnn := HN.out
                  obtain ⟨z, hz⟩ : ∃ z, zs[j]? = some z := ⟨_, List.getElem?_eq_getElem (by omega)⟩
                  have hzn : (nums zs)[j]? = some ⟨false, z⟩ := by simp [nums, hz]
                  obtain ⟨e0, e1⟩ := sflat_get _ _ _ hzn
                  obtain ⟨hyo, hkk⟩ := H8.out
                  have cl : w8.cell? ⟨b, o + j, none⟩ = some (.int .i64 z) := hkk.cell (p := ⟨b, o + j, none⟩) (by rw [hcell _ (by omega)]; simp [ints, hz]) (fun x => x)
                  obtain ⟨sg, c5, hv⟩ : ∃ sg c5, (Value.slice A8 i c8) = .slice (some ⟨sg, 0, none⟩) i c5 := by
                    rcases own_cases hyo with ⟨_, h0, _⟩ | ⟨g, cap, hv, _, _⟩
                    · omega
                    · exact ⟨g, cap, hv⟩
                  simp only [Value.slice.injEq, true_and] at hv
                  obtain ⟨rfl, rfl⟩ := hv
                  have cy0 : w8.cell? ⟨sg, j * 2, none⟩ = some (.bool false) := by rw [hyo.cellAt _ (by omega)]; exact e0
                  have cy1 : w8.cell? ⟨sg, j * 2 + 1, none⟩ = some (.int .i64 z) := by rw [hyo.cellAt _ (by omega)]; exact e1
                  clear hnn hz hzn e0 e1 hyo hkk hcell hrr
                  go_wp2_with fail
                  go_region
                  go_wp2_with fail
                  go_roundg (i - (j + 1))
                  case measure => omega
                  case rel => exact ⟨j + 1, by go_num, by omega, rfl, d + 1, rfl⟩
                · go_wp2_with fail
                  go_ret
                  exact ⟨rfl, H8.out.2.trans ⟨rfl, rfl, rfl, Nat.le_refl _, fun _ _ _ => rfl⟩ (fun _ _ (x : False) => x)⟩

/-- An argument that is a slice of ints, nil or not. -/
theorem open_rd {H : Type} {enc : TypeId × Value → H} {W : World} {base : Nat} {v : Value} {d : DataW H} {p : List MemPlace} (hv : Value.okWide Try.prog W .any base 27 v) (h : DataW.Trod enc Try.prog W 0 (fun _ => true) true 27 v d p) (hlt : ∀ x ∈ p, x.block < W.heap.size) :
    ∃ A n c zs, v = .slice A n c ∧ n = List.length zs ∧ Rd W (fun k => W.heap.size ≤ k) 1 (.slice A n c) n (ints zs) ∧ ∀ z ∈ zs, (Lit.int .i64 z).wf = true := by
  obtain ⟨a0, len, cap, rfl⟩ := okWide_slice Try.underlying27 hv
  obtain ⟨fuel, hf⟩ := h
  rcases open_ints Try.underlying27 Try.underlying3 (by kernel_rfl) hf with ⟨hcs, hx⟩ | ⟨a, len', cap', zs, hcs, _, hl, hm, hz, hx, hcell, hwz⟩
  · simp only [Value.cells, List.cons.injEq, Value.slice.injEq, and_true] at hcs
    obtain ⟨rfl, rfl, rfl⟩ := hcs
    exact ⟨none, 0, 0, [], rfl, rfl, Rd.nil _ _ 1, fun z hz => nomatch hz⟩
  · simp only [Value.cells, List.cons.injEq, Value.slice.injEq, and_true] at hcs
    obtain ⟨rfl, rfl, rfl⟩ := hcs
    simp only [Prod.mk.injEq] at hx
    obtain ⟨rfl, rfl⟩ := hx
    simp only [if_true] at hz
    refine ⟨_, _, _, zs.take len, rfl, by simp; omega, ⟨by simp [ints]; omega, _, _, rfl, hl, fun hn => ?_⟩, fun z hzz => hwz z (List.mem_of_mem_take hzz)⟩
    obtain ⟨b, off, rfl, hc⟩ := ints_at hcell (by omega)
    have hb : b < W.heap.size := hlt (.cell b off) (MemPlace.mem_row.2 ⟨0, by omega, by simp⟩)
    refine ⟨b, off, rfl, hb, by omega, fun j hj => ?_⟩
    rw [hc j (by omega)]
    have : j < zs.length := by omega
    simp [ints, show j < len by omega, List.getD, this]

theorem own_law (A : Option Addr) (n c : Nat) (zs : List Int) (w : World) (hn : n = zs.length) (hr : Rd w (fun k => w.heap.size ≤ k) 1 (.slice A n c) n (ints zs)) : Calls Try.prog 6 #[.slice A n c] w fun e w' => e = .returned (.bool true) ∧ Keep (fun _ => False) w w' := by
  by_cases h : 100 < n
  · exact own_big A n c w h
  · exact own_any A n c zs w hn (by omega) hr

set_option maxRecDepth 100000 in
theorem own_lifted (os : Os) (started : os.Started) (H : Type) (enc : TypeId × Value → H) :
    ReturnsInHanded {} Try.checked os 6 .any (Rows.heapOwnSpec.pre6 enc Try.prog Try.f6 Rows.heapOwnRow.domain false) (Rows.heapOwnSpec.post enc Try.prog Try.f6 false true false false) := by
  refine returnsInHanded_of_change (C := Try.checked) ownP started (by kernel_rfl) Try.func6
    (ChangeSpec.witness6 (enc := enc) (C := Try.checked) false ⟨#[], #[.slice none 0 0], []⟩ 8 (by kernel_rfl) (by kernel_rfl) (by kernel_rfl) (by kernel_rfl)) ?_
  intro W base args ds gs before hval0 hW hcnd _
  have hval : ∀ (j : Nat) t v, Try.f6.params[j]? = some t → args[j]? = some v → Value.okWide Try.prog W .any base t v := hval0
  have hW' := hW
  obtain ⟨p, q, hA0, hV, rfl, hfz, hnd⟩ := hW
  have hA : DataW.TrodAll enc Try.prog W 0 (fun _ => true) true Try.f6.params.toList args.toList ds p := hA0
  rw [Try.params6] at hA hval
  obtain ⟨v0, d0, rfl, rfl, h0⟩ := trodAll_one hA
  obtain ⟨rfl, rfl⟩ := trodVars_none hV
  obtain ⟨A, n, c, zs, rfl, hn, hr, _⟩ := open_rd (hval 0 27 v0 rfl rfl) h0 (fun x hx => hW'.lt x (by simp [hx]))
  refine (own_law A n c zs W hn hr).mono fun e W' ⟨he, hk⟩ => ?_
  exact ⟨_, he, law_post laidOut (by kernel_rfl) (by kernel_rfl) Try.underlying4 rfl hW' rfl rfl rfl hk⟩

/-- THE STATEMENT. -/
theorem heapOwn_holds : Rows.HeapOwnSaid :=
  OpenClaim.holds_of_wide 6 Try.f6 rfl rfl rfl rfl rfl rfl rfl ⟨rfl, rfl, rfl, rfl, rfl⟩ rfl rfl rfl rfl rfl (by kernel_rfl) Try.func6 (by kernel_rfl)
    (of_decide_eq_true (by kernel_rfl)) (by unfold Func.isWrapper; first | (rw [if_pos (by decide +kernel)]; kernel_rfl) | (rw [if_neg (by decide +kernel)]; exact ⟨rfl, rfl⟩))
    (fun os started H enc _ => own_lifted os started H enc)
#print axioms heapOwn_holds
end Go.Proofs.Ytaklhkghjklkhaa
