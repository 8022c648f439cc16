/-
  Walk: (*World).Collect. Conditions: at most 1000 objects of at most 1000 slots; what there is leads only to what there is.
-/
import Derived.Test.YtaklhkghjklkhaaWmark
namespace Go.Proofs.Ytaklhkghjklkhaa
open Go.RowKit

structure MkR (w : World) (n : Nat) (mv : Value) (M : List Bool) (wr : World) : Prop where
  own : wr.ownsRow 0 4 1 mv n (M.map Value.bool)
  keep : Keep (fun _ => False) w wr
  ap : ∀ g, mv.ownBlock = some g → w.heap.size ≤ g
section
variable {w wr : World} {n : Nat} {mv : Value} {M : List Bool}
theorem MkR.len (h : MkR w n mv M wr) : M.length = n := by have := h.own.1; simpa using this
theorem MkR.form (h : MkR w n mv M wr) (hn : 0 < n) : ∃ gm cm, mv = .slice (some ⟨gm, 0, none⟩) n cm ∧ gm < wr.heap.size ∧ (∀ j, wr.frozen? ⟨gm, j, none⟩ = false) ∧ ∀ j, j < n → wr.cell? ⟨gm, j, none⟩ = some (.bool (gB M j)) := by
  rcases own_cases h.own with ⟨_, h0, _⟩ | ⟨g, cap, rfl, hc, hg⟩
  · omega
  · refine ⟨g, cap, rfl, hg, fun j => ?_, fun j hj => ?_⟩
    · exact h.own.frozenAt j
    · have hl := h.len
      rw [h.own.cellAt j (by omega)]
      have : M[j]? = some M[j] := List.getElem?_eq_getElem (by omega)
      simp [gB, List.getD, this]
theorem MkR.set {gm cm : Nat} (h : MkR w n (.slice (some ⟨gm, 0, none⟩) n cm) M wr) (j : Nat) : MkR w n (.slice (some ⟨gm, 0, none⟩) n cm) (M.set j true) (wr.setCell ⟨gm, j, none⟩ (.bool true)) := by
  refine ⟨?_, h.keep.setCell (p := ⟨gm, j, none⟩) (.inr (h.ap gm rfl)) _, h.ap⟩
  rw [List.map_set]
  exact (h.own.stored j (.bool true)).1
end
theorem E4 : Elem Try.prog 63 4 1 1 := Elem.mk' Try.underlying63 (z := .bool false) (by kernel_rfl) rfl (by decide)
theorem made_bools (n : Nat) : (madeCells (Value.cells (.bool false)) (n * 1)).toList = (List.replicate n false).map Value.bool := by
  apply List.ext_getElem?
  intro j
  simp only [List.map_replicate, Nat.mul_one]
  by_cases hj : j < n
  · simp [madeCells, Value.cells, hj, Nat.mod_one]
  · rw [List.getElem?_eq_none (by simp [madeCells]; omega), List.getElem?_eq_none (by simp; omega)]
/-- make([]bool, n) -/
theorem wpList_mkB {w : World} {ops : Array Oper} {rest : List Oper} {o : Oper} {a : Act} {Q : Exit → Act → World → Prop} (hg : o.guard = none) (l c : Operand) (hop : o.op = Op.makeSlice 63 l c) (n : Nat) (hl : a.eval l = .int .i64 n) (hc : a.eval c = .int .i64 n) (hn : n ≤ 1000000)
    (hK : ∀ mv w', MkR w n mv (List.replicate n false) w' → wpList Try.prog ops Q rest (a.put o.dst mv) w') :
    wpList Try.prog ops Q (o :: rest) a w := by
  obtain ⟨hu, ⟨i, z, hi, hz, hsz, hb2, hzs⟩, hpos⟩ := E4
  have hz' : z = .bool false := by
    have h : (Try.prog.info? 4).map (fun i => i.zero) = some (some (.bool false)) := by kernel_rfl
    rw [hi] at h
    simp only [Option.map_some, Option.some.injEq] at h
    rw [hz] at h
    exact Option.some.inj h
  subst hz'
  refine wpList_make_full w hg l c 63 hop 0 4 i _ 1 hu hi hz hsz .i64 .i64 n n n hl hc rfl rfl (by rw [hb2]; omega) (by unfold maxLen; omega) (Nat.zero_le _) ?_
  intro w' ho hgr
  rw [made_bools] at ho
  refine hK _ w' ⟨ho, (Keep.of_grown hgr).mono (fun i _ h => by cases h), fun g hg => ?_⟩
  simp only [Value.ownBlock, Option.some.injEq] at hg
  omega

def Co1 (w : World) (ws : List Wo) (roots : List Int) (m n : Nat) (mv : Value) (k : Nat) (b : Value) (wr : World) : Prop :=
  ∃ i : Nat, b = .int .i64 i ∧ i ≤ m ∧ k = m - i ∧ MkR w n mv (rootsM ws (roots.take i) (List.replicate n false)) wr
def Co2 (w : World) (ws : List Wo) (M0 : List Bool) (n : Nat) (mv : Value) (k : Nat) (b : Value) (wr : World) : Prop :=
  ∃ t : Nat, b = .int .i64 t ∧ t ≤ n ∧ k = n - t ∧ MkR w n mv (rounds ws n t M0) wr
def Co3 (w : World) (ws : List Wo) (M0 : List Bool) (n : Nat) (mv : Value) (k : Nat) (b : Value) (wr : World) : Prop :=
  ∃ i : Nat, b = .int .i64 i ∧ i ≤ n ∧ k = n - i ∧ MkR w n mv (rndI ws i M0) wr
def Co4 (w : World) (Mi : List Bool) (g : Bool) (l : List Sl) (n m : Nat) (mv : Value) (k : Nat) (b : Value) (wr : World) : Prop :=
  ∃ j : Nat, b = .int .i64 j ∧ j ≤ m ∧ k = m - j ∧ MkR w n mv (markS Mi (l.take j)) wr ∧ (g = true ∨ j = 0)
/-- the first i places swept -/
def pre (M : List Bool) (i : Nat) (es : List (Value × Wo)) : List (Value × Wo) := es.mapIdx fun j e => if j < i then (e.1, ⟨e.2.slots, e.2.gone || !gB M j⟩) else e

theorem gone_same {a b : Bool} (h : ¬ (b = false ∧ a = false)) : (a || !b) = a := by cases a <;> cases b <;> simp_all
theorem pre_length (M : List Bool) (i : Nat) (es : List (Value × Wo)) : (pre M i es).length = es.length := by simp [pre]
theorem pre_get (M : List Bool) (i : Nat) (es : List (Value × Wo)) (j : Nat) : (pre M i es)[j]? = es[j]?.map fun e => if j < i then (e.1, ⟨e.2.slots, e.2.gone || !gB M j⟩) else e := by simp [pre]
theorem pre_zero (M : List Bool) (es : List (Value × Wo)) : pre M 0 es = es := by
  apply List.ext_getElem?
  intro j
  rw [pre_get]
  cases es[j]? <;> simp
theorem pre_same {M : List Bool} {i : Nat} {es : List (Value × Wo)} {e : Value × Wo} (he : es[i]? = some e) (h : (e.2.gone || !gB M i) = e.2.gone) : pre M (i + 1) es = pre M i es := by
  apply List.ext_getElem?
  intro j
  rw [pre_get, pre_get]
  by_cases hj : j = i
  · subst hj
    rw [he]
    simp [h]
  · have : (j < i + 1) = (j < i) := by apply propext; omega
    simp only [this]
theorem pre_set {M : List Bool} {i : Nat} {es : List (Value × Wo)} {e : Value × Wo} (he : es[i]? = some e) (h : (e.2.gone || !gB M i) = true) : pre M (i + 1) es = (pre M i es).set i (e.1, ⟨e.2.slots, true⟩) := by
  apply List.ext_getElem?
  intro j
  rw [List.getElem?_set, pre_get, pre_get, pre_length]
  by_cases hj : j = i
  · subst hj
    rw [he]
    have := (List.getElem?_eq_some_iff.1 he).1
    simp [h, this]
  · have h1 : (j < i + 1) = (j < i) := by apply propext; omega
    have h2 : ¬ i = j := fun e => hj e.symm
    simp only [h1, h2, if_false]
theorem wosum_set {ws : List Wo} {i : Nat} {o : Wo} (ho : ws[i]? = some o) (hg : o.gone = false) : wosum (ws.set i ⟨o.slots, true⟩) + (o.slots.length + 1) = wosum ws := by
  induction ws generalizing i with
  | nil => simp at ho
  | cons x t ih =>
    have e : ∀ (y : Wo) (t : List Wo), wosum (y :: t) = (if y.gone then 0 else y.slots.length + 1) + wosum t := fun y t => by simp [wosum]
    cases i with
    | zero =>
      simp only [List.getElem?_cons_zero, Option.some.injEq] at ho
      subst ho
      rw [List.set_cons_zero, e, e, hg]
      simp
      omega
    | succ i =>
      have := ih (i := i) (by simpa using ho)
      rw [List.set_cons_succ, e, e]
      omega
theorem WV.goneAt {w : World} {Z : Nat → Prop} {p g n cap : Nat} {c : Int} {es : List (Value × Wo)} (h : WV w Z p c (.slice (some ⟨g, 0, none⟩) n cap) es) {i : Nat} {e : Value × Wo} (he : es[i]? = some e) :
    WV (w.setCell ⟨g, i * 2 + 1, none⟩ (.bool true)) Z p c (.slice (some ⟨g, 0, none⟩) n cap) (es.set i (e.1, ⟨e.2.slots, true⟩)) := by
  have hn : n = es.length := by
    obtain ⟨A', c', hv⟩ := h.val
    simp only [Value.slice.injEq] at hv
    exact hv.2.1
  subst hn
  have hgp : g ≠ p := own_ne_at h.own h.head (by decide)
  have hk : Keep (fun k => k = g) w (w.setCell ⟨g, i * 2 + 1, none⟩ (.bool true)) := (Keep.refl (fun k => k = g) w).setCell (p := ⟨g, i * 2 + 1, none⟩) (.inl rfl) _
  refine ⟨h.head.far (fun e => hgp e.symm) _, ?_, ?_, by simpa using h.len, ?_⟩
  · rw [vflat_set es i e he, List.length_set]
    exact (h.own.stored (i * 2 + 1) (.bool true)).1
  · intro j x hx
    rw [List.getElem?_set] at hx
    by_cases hj : i = j
    · subst hj
      have := (List.getElem?_eq_some_iff.1 he).1
      simp only [if_true, this, Option.some.injEq] at hx
      subst hx
      exact (h.rd i e he).keep hk (fun k hk => .inl (.inr (by rw [hk]; rfl)))
    · simp only [hj, if_false] at hx
      exact (h.rd j x hx).keep hk (fun k hk => .inl (.inr (by rw [hk]; rfl)))
  · intro x hx
    rcases List.mem_or_eq_of_mem_set hx with hx | rfl
    · exact h.small x hx
    · exact h.small e (List.mem_of_getElem? he)
structure Co5R (w : World) (Z : Nat → Prop) (p : Nat) (c : Int) (lv : Value) (es : List (Value × Wo)) (Mf : List Bool) (n : Nat) (mv : Value) (i a : Nat) (wr : World) : Prop where
  wv : WV wr Z p c lv (pre Mf i es)
  sum : a + wosum (worlds (pre Mf i es)) = wosum (worlds es)
  own : wr.ownsRow 0 4 1 mv n (Mf.map Value.bool)
  keep : Keep (fp p lv) w wr
  ap : ∀ g, mv.ownBlock = some g → ¬ fp p lv g
def Co5 (w : World) (Z : Nat → Prop) (p : Nat) (c : Int) (lv : Value) (es : List (Value × Wo)) (Mf : List Bool) (n : Nat) (mv : Value) (k : Nat) (x y : Value) (wr : World) : Prop :=
  ∃ i a : Nat, x = .int .i64 a ∧ y = .int .i64 i ∧ i ≤ n ∧ k = n - i ∧ Co5R w Z p c lv es Mf n mv i a wr

section
variable {w : World} {Z : Nat → Prop} {p : Nat} {c : Int} {lv : Value} {es : List (Value × Wo)}
set_option maxRecDepth 20000 in
set_option maxHeartbeats 4000000 in
theorem wcoll_any {Y : Nat → Prop} {Ar : Option Addr} {m cr : Nat} {roots : List Int} (h : WV w Z p c lv es) (hc : ClosedW (worlds es)) (hm : m = roots.length) (hm1 : m ≤ 1000) (hr : Rd w Y 1 (.slice Ar m cr) m (ints roots)) :
    Calls Try.prog 15 #[.pointer (some ⟨p, 0, none⟩), .slice Ar m cr] w fun e w' =>
      e = .returned (.int .i64 ((wosum (worlds es) : Int) - wosum (worlds (pre (marksW (worlds es) roots) es.length es)))) ∧ WV w' Z p c lv (pre (marksW (worlds es) roots) es.length es) ∧ Keep (fp p lv) w w' := by
  obtain ⟨A, cap, rfl⟩ := h.val
  generalize hn : es.length = n at *
  have hn1 : n ≤ 1000 := by rw [← hn]; exact h.len
  have z1 : w.cell? ⟨p, 1, none⟩ = some (.slice A n cap) := h.head.cell 1
  have HW := Lib.hid (And.intro h (And.intro hn hc))
  have HR := Lib.hid (And.intro hm hr)
  clear h hn hc hm hr
  go_enter Try.func15, Try.ntmps15
  go_wp2_with (refine wpList_mkB rfl (.tmp 17) (.tmp 17) rfl n rfl rfl (by omega) ?_; intro mv w1 hM; have HM := Lib.hid hM; clear hM)
  have h1 : Hid (Co1 w (worlds es) roots m n mv m (.int .i64 0) w1) := ⟨0, rfl, Nat.zero_le _, rfl, HM.out⟩
  clear HM z1
  go_wp2_with fail
  go_loopg [6] m (fun k b wr => Co1 w (worlds es) roots m n mv k b wr)
  case atStart => exact h1.out
  case round =>
    clear h1
    obtain ⟨i, rfl, hi, rfl, hM⟩ := hrel
    have HM := Lib.hid hM
    by_cases hlt : i < m
    · obtain ⟨h, hn, hc⟩ := HW.out
      obtain ⟨hm, hr⟩ := HR.out
      obtain ⟨_, A', c', hv, _, hrr⟩ := hr
      simp only [Value.slice.injEq, true_and] at hv
      obtain ⟨rfl, rfl⟩ := hv
      obtain ⟨b, of, rfl, hb, _, hcr⟩ := hrr (by omega)
      obtain ⟨r, hrx⟩ : ∃ r, roots[i]? = some r := ⟨_, List.getElem?_eq_getElem (by omega)⟩
      have c0 : wr.cell? ⟨b, of + i, none⟩ = some (.int .i64 r) := hM.keep.cell (p := ⟨b, of + i, none⟩) (by rw [hcr _ (by omega)]; simp [ints, hrx]) (fun x => x)
      have hbz : b < wr.heap.size := Nat.lt_of_lt_of_le hb hM.keep.size
      have his := wis_any (h.step hM.keep) r
      have HRX := Lib.hid hrx
      cases hq : isW (worlds es) r with
      | false =>
        rw [hq] at his
        have HQ := Lib.hid hq
        clear h hn hc hm hrr hcr hrx hq hM hb
        go_wp2_with (go_at_call 25; refine his.mono ?_; rintro e w' ⟨rfl, rfl⟩)
        go_roundg (m - (i + 1))
        case measure => omega
        case rel => exact ⟨i + 1, by go_num, by omega, rfl, by rw [List.take_add_one, HRX.out]; show MkR w n mv (rootsM _ (List.take i roots ++ [r]) _) _; rw [rootsM_snoc, rootT, HQ.out]; exact HM.out⟩
      | true =>
        rw [hq] at his
        have HQ := Lib.hid hq
        obtain ⟨k, o, rfl, ho, _⟩ := isW_nat hq
        have hkn : k < n := by
          have := (List.getElem?_eq_some_iff.1 ho).1
          simp only [worlds, List.length_map] at this
          omega
        obtain ⟨gm, cm, rfl, hgm, fm, hcm⟩ := hM.form (by omega)
        have cmk := hcm k hkn
        clear h hn hc hm hrr hcr hrx hq hM ho hb hcm
        go_wp2_with (go_at_call 25; refine his.mono ?_; rintro e w' ⟨rfl, rfl⟩)
        go_roundg (m - (i + 1))
        case measure => omega
        case rel => exact ⟨i + 1, by go_num, by omega, rfl, by rw [List.take_add_one, HRX.out]; show MkR w n _ (rootsM _ (List.take i roots ++ [(k : Int)]) _) _; rw [rootsM_snoc, rootT, HQ.out]; exact HM.out.set k⟩
    · have hie : i = m := by omega
      subst hie
      have hM0 : MkR w n mv (rootsM (worlds es) roots (List.replicate n false)) wr := by
        rw [List.take_of_length_le (by have := HR.out.1; omega)] at hM
        exact hM
      have hsd : SoundM (worlds es) roots (rootsM (worlds es) roots (List.replicate n false)) := (sound0 n).rootsM roots (fun _ h => h)
      generalize hMM : rootsM (worlds es) roots (List.replicate n false) = M0 at *
      have hz : wr.cell? ⟨p, 1, none⟩ = some (.slice A n cap) := (HW.out.1.step hM0.keep).head.cell 1
      have h2 : Hid (Co2 w (worlds es) M0 n mv n (.int .i64 0) wr) := ⟨0, rfl, Nat.zero_le _, rfl, hM0⟩
      have HSD := Lib.hid hsd
      have HMM := Lib.hid hMM
      clear hM hM0 hsd hMM HM hlt
      go_wp2_with fail
      go_loopg [8] n (fun k b wr => Co2 w (worlds es) M0 n mv k b wr)
      case atStart => exact h2.out
      case round =>
        clear h2 hz
        obtain ⟨t, rfl, ht, rfl, hM⟩ := hrel
        have hz : wr.cell? ⟨p, 1, none⟩ = some (.slice A n cap) := (HW.out.1.step hM.keep).head.cell 1
        have HM := Lib.hid hM
        by_cases htn : t < n
        · have hsd : SoundM (worlds es) roots (rounds (worlds es) n t M0) := HSD.out.rounds HW.out.2.2 n t
          generalize hMt : rounds (worlds es) n t M0 = Mt at *
          have h3 : Hid (Co3 w (worlds es) Mt n mv n (.int .i64 0) wr) := ⟨0, rfl, Nat.zero_le _, rfl, hM⟩
          have HST := Lib.hid hsd
          have HMT := Lib.hid hMt
          clear hM HM hsd hMt
          go_wp2_with fail
          clear hz
          go_loopg [9] n (fun k b wr => Co3 w (worlds es) Mt n mv k b wr)
          case atStart => exact h3.out
          case round =>
            clear h3
            obtain ⟨i, rfl, hi, rfl, hM⟩ := hrel
            have hz : wr.cell? ⟨p, 1, none⟩ = some (.slice A n cap) := (HW.out.1.step hM.keep).head.cell 1
            have HM := Lib.hid hM
            by_cases hin : i < n
            · have hsd : SoundM (worlds es) roots (rndI (worlds es) i Mt) := HST.out.rndI HW.out.2.2 i
              generalize hMi : rndI (worlds es) i Mt = Mi at *
              obtain ⟨h, hn, hc⟩ := HW.out
              obtain ⟨e, As, cs, he, _, hv, hs, _⟩ := h.get (i := i) (by omega)
              have hew : (worlds es)[i]? = some e.2 := by simp [worlds, he]
              obtain ⟨g, cap', hvv, hg, hgp, hcl⟩ := h.form (by omega)
              rw [hn] at hvv
              simp only [Value.slice.injEq, true_and] at hvv
              obtain ⟨rfl, rfl⟩ := hvv
              have hrd := h.rd i e he
              have hcg := (hcl i e he).1
              rw [hv] at hrd hcg
              obtain ⟨_, A', c', hv', _, hrr⟩ := hrd
              generalize hll : e.2.slots = l at *
              generalize hsl : l.length = sl at *
              simp only [Value.slice.injEq, true_and] at hv'
              obtain ⟨rfl, rfl⟩ := hv'
              have hin4 : gB Mi i = true → ∀ s ∈ l, s.ref = true → isW (worlds es) s.n = true := by
                intro hgb s hs' hr'
                have hal := (hsd i hgb).alive hc
                rw [isW_at hew] at hal
                exact hc i e.2 hew (by simpa using hal) s (by rw [hll]; exact hs') hr'
              have hst : stepI (worlds es) Mi i = if gB Mi i then markS Mi l else Mi := by
                unfold stepI
                rw [hew]
                simp only [hll]
              have h4 : Hid (Co4 w Mi (gB Mi i) l n sl mv sl (.int .i64 0) wr) := ⟨0, rfl, Nat.zero_le _, rfl, hM, .inr rfl⟩
              have H4 := Lib.hid (And.intro hMi (And.intro hin4 (And.intro hst (And.intro hrr (And.intro hcg (And.intro hsl hg))))))
              clear hM HM hsd hMi h hn hc he hew hcl hv hll hsl hrr hcg hin4 hst hg hgp
              go_wp2_with fail
              clear hz
              go_loopg [10] sl (fun k b wr => Co4 w Mi (gB Mi i) l n sl mv k b wr)
              case atStart => exact h4.out
              case round =>
                clear h4
                obtain ⟨j, rfl, hj, rfl, hM, hg0⟩ := hrel
                have hz : wr.cell? ⟨p, 1, none⟩ = some (.slice (some ⟨g, 0, none⟩) n cap) := (HW.out.1.step hM.keep).head.cell 1
                obtain ⟨hMi, hin4, hst, hrr, hcg, hsl, hg⟩ := H4.out
                have hcg' := hM.keep.cell hcg (fun x => x)
                have hgz : g < wr.heap.size := Nat.lt_of_lt_of_le hg hM.keep.size
                obtain ⟨gm, cm, rfl, hgm, fm, hcm⟩ := hM.form (by omega)
                have cmi := hcm i hin
                have HM := Lib.hid hM
                by_cases hjl : j < sl
                · cases hgb : gB Mi i with
                  | true =>
                    have hgb' : gB (markS Mi (l.take j)) i = true := (markS_le Mi _).2 i hgb
                    rw [hgb'] at cmi
                    obtain ⟨b2, o2, rfl, hb2, _, hc2⟩ := hrr (by omega)
                    obtain ⟨s, hs'⟩ : ∃ s, l[j]? = some s := ⟨_, List.getElem?_eq_getElem (by omega)⟩
                    obtain ⟨g0, g1⟩ := sflat_get _ _ _ hs'
                    have c0 := hM.keep.cell (p := ⟨b2, o2 + j * 2, none⟩) (by rw [hc2 _ (by omega)]; exact g0) (fun x => x)
                    have c1 : wr.cell? ⟨b2, o2 + j * 2 + 1, none⟩ = some (.int .i64 s.n) := hM.keep.cell (p := ⟨b2, o2 + j * 2 + 1, none⟩) (by rw [Nat.add_assoc, hc2 _ (by omega)]; exact g1) (fun x => x)
                    have hb2z : b2 < wr.heap.size := Nat.lt_of_lt_of_le hb2 hM.keep.size
                    have hsw := hin4 hgb s (List.mem_of_getElem? hs')
                    have HS' := Lib.hid (And.intro hs' (And.intro hg0 hgb))
                    cases hsr : s.ref with
                    | false =>
                      rw [hsr] at c0
                      have HSR := Lib.hid hsr
                      clear hMi hin4 hst hrr hcg hsl hg hcm hM hgb hgb' hc2 hs' g0 g1 hsw hsr hg0 hb2
                      go_wp2_with fail
                      go_roundg (sl - (j + 1))
                      case measure => omega
                      case rel => exact ⟨j + 1, by go_num, by omega, rfl, by rw [List.take_add_one, HS'.out.1]; show MkR w n _ (markS Mi (List.take j l ++ [s])) _; rw [markS_snoc, setT, HSR.out]; exact HM.out, .inl HS'.out.2.2⟩
                    | true =>
                      rw [hsr] at c0
                      have HSR := Lib.hid hsr
                      obtain ⟨k, o, hk, ho, _⟩ := isW_nat (hsw hsr)
                      have hkn : k < n := by
                        have := (List.getElem?_eq_some_iff.1 ho).1
                        have := HW.out.2.1
                        simp only [worlds, List.length_map] at *
                        omega
                      rw [hk] at c1
                      have cmk := hcm k hkn
                      have HK := Lib.hid hk
                      clear hMi hin4 hst hrr hcg hsl hg hcm hM hgb hgb' hc2 hs' g0 g1 hsw hsr hg0 hb2 hk ho
                      go_wp2_with fail
                      go_roundg (sl - (j + 1))
                      case measure => omega
                      case rel => exact ⟨j + 1, by go_num, by omega, rfl, by rw [List.take_add_one, HS'.out.1]; show MkR w n _ (markS Mi (List.take j l ++ [s])) _; rw [markS_snoc, setT, HSR.out, HK.out]; exact HM.out.set k, .inl HS'.out.2.2⟩
                  | false =>
                    have hj0 : j = 0 := by
                      rcases hg0 with h' | h'
                      · rw [hgb] at h'; cases h'
                      · exact h'
                    subst hj0
                    have hm0 : markS Mi (l.take 0) = Mi := rfl
                    rw [hm0, hgb] at cmi
                    rw [hm0] at hM
                    have hfin : MkR w n (.slice (some ⟨gm, 0, none⟩) n cm) (rndI (worlds es) (i + 1) Mt) wr := by
                      show MkR w n _ (stepI (worlds es) (rndI (worlds es) i Mt) i) wr
                      rw [hMi, hst, hgb]
                      exact hM
                    have HF := Lib.hid hfin
                    clear hMi hin4 hst hrr hcg hsl hg hcm hM hgb hg0 hfin HM hm0
                    go_wp2_with fail
                    go_roundg (n - (i + 1))
                    case measure => omega
                    case rel => exact ⟨i + 1, by go_num, by omega, rfl, HF.out⟩
                · have hje : j = sl := by omega
                  subst hje
                  have hfin : MkR w n (.slice (some ⟨gm, 0, none⟩) n cm) (rndI (worlds es) (i + 1) Mt) wr := by
                    show MkR w n _ (stepI (worlds es) (rndI (worlds es) i Mt) i) wr
                    rw [hMi, hst]
                    rw [List.take_of_length_le (by omega)] at hM
                    cases hgb : gB Mi i with
                    | true => exact hM
                    | false =>
                      rcases hg0 with h' | h'
                      · rw [hgb] at h'; cases h'
                      · have : l = [] := List.eq_nil_of_length_eq_zero (by omega)
                        subst this
                        exact hM
                  have HF := Lib.hid hfin
                  clear hMi hin4 hst hrr hcg hsl hg hcm hM hg0 hfin HM
                  go_wp2_with fail
                  go_roundg (n - (i + 1))
                  case measure => omega
                  case rel => exact ⟨i + 1, by go_num, by omega, rfl, HF.out⟩
            · have hie : i = n := by omega
              subst hie
              clear hM
              go_wp2_with fail
              go_roundg (i - (t + 1))
              case measure => omega
              case rel => exact ⟨t + 1, by go_num, by omega, rfl, by show MkR w i mv (rndI (worlds es) i (rounds (worlds es) i t M0)) _; rw [HMT.out]; exact HM.out⟩
        · have hte : t = n := by omega
          subst hte
          obtain ⟨h, hn, hc⟩ := HW.out
          have hMf : rounds (worlds es) t t M0 = marksW (worlds es) roots := by
            rw [← HMM.out]
            unfold marksW
            have : (worlds es).length = t := by simp [worlds, hn]
            rw [this]
          rw [hMf] at hM
          have hlt : ∀ x, fp p (.slice A t cap) x → x < w.heap.size := h.lt
          generalize hMg : marksW (worlds es) roots = Mf at *
          have h5 : Hid (Co5 w Z p c (.slice A t cap) es Mf t mv t (.int .i64 0) (.int .i64 0) wr) := ⟨0, 0, rfl, rfl, Nat.zero_le _, rfl, ⟨by rw [pre_zero]; exact h.step hM.keep, by rw [pre_zero]; omega, hM.own, hM.keep.mono (fun _ _ x => x.elim), fun g hg hx => by have h1 := hM.ap g hg; have h2 := hlt g hx; omega⟩⟩
          have HN := Lib.hid hn
          have HMG := Lib.hid hMg
          have hwl := wosum_le (ws := worlds es) (fun o ho => by
            obtain ⟨e, he, rfl⟩ := List.mem_map.1 ho
            exact h.small e he)
          have hub : wosum (worlds es) ≤ 1001000 := by
            simp only [worlds, List.length_map] at hwl ⊢
            omega
          have HUB := Lib.hid hub
          have HSM := Lib.hid (fun e he => h.small e he)
          clear h hn hc hMf hM hlt hMg HM HW HSD HMM hwl hub
          go_wp2_with fail
          clear hz
          go_loopg [11, 12] t (Co5 w Z p c (.slice A t cap) es Mf t mv)
          case atStart => exact h5.out
          case round =>
            clear h5
            obtain ⟨i, a, rfl, rfl, hi, rfl, hR⟩ := hrel
            have hz : wr.cell? ⟨p, 1, none⟩ = some (.slice A t cap) := hR.wv.head.cell 1
            have hHR := Lib.hid hR
            by_cases hit : i < t
            · have hn := HN.out
              obtain ⟨e, he⟩ : ∃ e, es[i]? = some e := ⟨_, List.getElem?_eq_getElem (by omega)⟩
              have hp : (pre Mf i es)[i]? = some e := by rw [pre_get, he]; simp
              obtain ⟨g, cap', hvv, hg, hgp, hcl⟩ := hR.wv.form (by rw [pre_length]; omega)
              rw [pre_length, hn] at hvv
              simp only [Value.slice.injEq, true_and] at hvv
              obtain ⟨rfl, rfl⟩ := hvv
              obtain ⟨c0, c1⟩ := hcl i e hp
              obtain ⟨_, As, cs, hv, _⟩ := hR.wv.rd i e hp
              rw [hv] at c0
              have hfr : ∀ j, wr.frozen? ⟨g, j, none⟩ = false := fun j => by
                have h' := hR.wv.own
                rw [pre_length, hn] at h'
                exact h'.frozenAt j
              obtain ⟨gm, cm, rfl⟩ : ∃ gm cm, mv = .slice (some ⟨gm, 0, none⟩) t cm := by
                rcases own_cases hR.own with ⟨_, h0, _⟩ | ⟨g, cap, hv, _, _⟩
                · omega
                · exact ⟨g, cap, hv⟩
              have hgm := own_lt (g := gm) hR.own rfl
              have hMl : Mf.length = t := by have := hR.own.1; simpa using this
              have cmk : wr.cell? ⟨gm, i, none⟩ = some (.bool (gB Mf i)) := by
                rw [hR.own.cellAt i (by omega)]
                have : Mf[i]? = some Mf[i] := List.getElem?_eq_getElem (by omega)
                simp [gB, List.getD, this]
              have hgg : gm ≠ g := fun e => hR.ap gm rfl (.inr (by rw [e]; rfl))
              have hs2 := HSM.out e (List.mem_of_getElem? he)
              have hab : a ≤ 1001000 := by have := hR.sum; have := HUB.out; omega
              have hwe : (worlds (pre Mf i es))[i]? = some e.2 := by simp [worlds, hp]
              generalize hsl : e.2.slots.length = sl at *
              have HE := Lib.hid (And.intro he (And.intro hwe (And.intro hp hsl)))
              clear hn he hp hcl hv hR hMl hwe hsl
              by_cases hdrop : gB Mf i = false ∧ e.2.gone = false
              · obtain ⟨d1, d2⟩ := hdrop
                rw [d1] at cmk
                rw [d2] at c1
                have HD := Lib.hid (And.intro d1 d2)
                clear d1 d2
                go_wp2_with fail
                go_roundg (t - (i + 1))
                case measure => omega
                case rel =>
                  obtain ⟨he, hwe, hp, hsl⟩ := HE.out
                  obtain ⟨d1, d2⟩ := HD.out
                  have hR := hHR.out
                  have hps : pre Mf (i + 1) es = (pre Mf i es).set i (e.1, ⟨e.2.slots, true⟩) := pre_set he (by rw [d1]; simp)
                  refine ⟨i + 1, a + sl + 1, by go_num, by go_num, by omega, rfl, ⟨?_, ?_, ?_, ?_, hR.ap⟩⟩
                  · rw [hps]
                    exact hR.wv.goneAt hp
                  · rw [hps]
                    have h1 := wosum_set hwe d2
                    have h2 : worlds ((pre Mf i es).set i (e.1, ⟨e.2.slots, true⟩)) = (worlds (pre Mf i es)).set i ⟨e.2.slots, true⟩ := by simp [worlds, List.map_set]
                    rw [h2]
                    have := hR.sum
                    omega
                  · exact ownsRow_setCell_ne hR.own (a := ⟨g, i * 2 + 1, none⟩) (by simpa [Value.ownBlock] using hgg) _
                  · exact hR.keep.setCell (p := ⟨g, i * 2 + 1, none⟩) (.inl (.inr rfl)) _
              · have hsame : pre Mf (i + 1) es = pre Mf i es := pre_same HE.out.1 (gone_same hdrop)
                have HSA := Lib.hid hsame
                clear hsame
                cases h1 : gB Mf i with
                | true =>
                  rw [h1] at cmk
                  clear h1 hdrop
                  go_wp2_with fail
                  go_roundg (t - (i + 1))
                  case measure => omega
                  case rel =>
                    have hR := hHR.out
                    exact ⟨i + 1, a, rfl, by go_num, by omega, rfl, ⟨by rw [HSA.out]; exact hR.wv, by rw [HSA.out]; exact hR.sum, hR.own, hR.keep, hR.ap⟩⟩
                | false =>
                  have h2 : e.2.gone = true := by
                    cases h2 : e.2.gone with
                    | true => rfl
                    | false => exact absurd ⟨h1, h2⟩ hdrop
                  rw [h1] at cmk
                  rw [h2] at c1
                  clear h1 h2 hdrop
                  go_wp2_with fail
                  go_roundg (t - (i + 1))
                  case measure => omega
                  case rel =>
                    have hR := hHR.out
                    exact ⟨i + 1, a, rfl, by go_num, by omega, rfl, ⟨by rw [HSA.out]; exact hR.wv, by rw [HSA.out]; exact hR.sum, hR.own, hR.keep, hR.ap⟩⟩
            · have hie : i = t := by omega
              subst hie
              clear hR
              go_wp2_with fail
              go_ret
              have hR := hHR.out
              have := hR.sum
              rw [HMG.out]
              exact ⟨ret_int (by omega), hR.wv, hR.keep⟩
end
end Go.Proofs.Ytaklhkghjklkhaa
