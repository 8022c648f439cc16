/-
  Walk: gradusref03's record. Conditions: none beyond what it says.
-/
import Derived.Test.YtomhhpjpmlpijaaDoorRRec
import Derived.Test.YtomhhpjpmlpijaaDoorWRName
import Derived.Test.YtomhhpjpmlpijaaDoorNormB
namespace Go.Proofs.YtomhhpjpmlpijaaDoor
open Go.RowKit

/-- A row that was made since a world. -/
structure App (wb w : World) (e : TypeId) (size : Nat) (v : Value) (n : Nat) (xs : List Value) : Prop where
  own : w.ownsRow 0 e size v n xs
  keep : Keep (fun _ => False) wb w
  new : ∀ g, v.ownBlock = some g → wb.heap.size ≤ g
theorem App.next {wb w w0 w' : World} {e : TypeId} {size n m : Nat} {v v' : Value} {xs ys : List Value} (h : App wb w e size v n xs) (h0 : Keep (fun _ => False) w w0) (ho : w'.ownsRow 0 e size v' m ys) (hk : Keep (fun k => v.ownBlock = some k) w0 w') (hn : ∀ g, v'.ownBlock = some g → v.ownBlock = some g ∨ w0.heap.size ≤ g) : App wb w' e size v' m ys :=
  ⟨ho, (h.keep.trans h0 (fun _ _ x => x)).weak hk (fun i hi => h.new i hi), fun g hg => by
    rcases hn g hg with hg | hg
    · exact h.new g hg
    · have := h.keep.size; have := h0.size; omega⟩
theorem App.off {wb w w' : World} {e : TypeId} {size n : Nat} {v : Value} {xs : List Value} {X : Nat → Prop} (h : App wb w e size v n xs) (hk : Keep X w w') (hX : ∀ g, X g → wb.heap.size ≤ g) (hv : ∀ g, v.ownBlock = some g → ¬ X g) : App wb w' e size v n xs :=
  ⟨hk.own h.own hv, h.keep.weak hk hX, h.new⟩
theorem ins_strs {l : List Ft} {j : Nat} {s : ByteArray} {t : Ty} : ([] ++ (strs (l.map (·.1))).take (j * 1) ++ [.string s]) ++ (strs (l.map (·.1))).drop (j * 1) = strs ((l.take j ++ (s, t) :: l.drop j).map (·.1)) := by
  simp [strs, List.map_take, List.map_drop]
theorem tflat_take (rs : List Tv) (j : Nat) : (tflat rs).take (j * 4) = tflat (rs.take j) := by
  induction rs generalizing j with
  | nil => simp [tflat]
  | cons r rs ih =>
    cases j with
    | zero => simp [tflat]
    | succ j =>
      have e : (j + 1) * 4 = j * 4 + 1 + 1 + 1 + 1 := by omega
      rw [tflat_cons, e, List.take_succ_cons, tflat_cons, ← ih]
      simp [Tv.vals]
theorem tflat_drop (rs : List Tv) (j : Nat) : (tflat rs).drop (j * 4) = tflat (rs.drop j) := by
  induction rs generalizing j with
  | nil => simp [tflat]
  | cons r rs ih =>
    cases j with
    | zero => simp [tflat]
    | succ j =>
      have e : (j + 1) * 4 = j * 4 + 1 + 1 + 1 + 1 := by omega
      rw [tflat_cons, e, List.drop_succ_cons, ← ih]
      simp [Tv.vals]
theorem ins_kids {rs : List Tv} {j : Nat} {q : Tv} : ([] ++ (tflat rs).take (j * 4) ++ q.vals) ++ (tflat rs).drop (j * 4) = tflat (rs.take j ++ q :: rs.drop j) := by
  rw [tflat_take, tflat_drop, tflat_append, tflat_cons]
  simp
structure RrR (w1 wr : World) (Z : Nat → Prop) (names : List ByteArray) (kids : List Ty) (i tb : Nat) (l : List Ft) (A A' : Option Addr) (c c' : Nat) (rs : List Tv) : Prop where
  keep : Keep (fun g => g = tb) w1 wr
  box : At wr tb 25 #[.int .i64 5, .string ⟨#[]⟩, .slice A i c, .slice A' i c']
  nms : Rd wr Z 1 (.slice A i c) i (strs (l.map (·.1)))
  kds : Rd wr Z 4 (.slice A' i c') i (tflat rs)
  tys : TysV wr Z rs (l.map (·.2))
  inv : RecI names kids i l
def RrA (w1 : World) (Z : Nat → Prop) (names : List ByteArray) (kids : List Ty) (n tb : Nat) (k : Nat) (b : Value) (wr : World) : Prop :=
  ∃ (i : Nat) (l : List Ft) (A A' : Option Addr) (c c' : Nat) (rs : List Tv), b = .int .i64 i ∧ i ≤ n ∧ k = n - i ∧ RrR w1 wr Z names kids i tb l A A' c c' rs
theorem RrR.step {w1 wr w' : World} {Z : Nat → Prop} {names : List ByteArray} {kids : List Ty} {i tb : Nat} {l : List Ft} {A A' : Option Addr} {c c' : Nat} {rs : List Tv} (h : RrR w1 wr Z names kids i tb l A A' c c' rs) (k : Keep (fun _ => False) wr w') : RrR w1 w' Z names kids i tb l A A' c c' rs :=
  ⟨h.keep.trans k (fun _ _ x => x.elim), k.at_ h.box (fun x => x), h.nms.keep k (fun _ x => x.elim), h.kds.keep k (fun _ x => x.elim), h.tys.step k, h.inv⟩
theorem gen_w {P : Program} {c : Code} {Q : Exit → Act → World → Prop} {a : Act} {w : World} (h : ∀ W, W = w → c.wp P Q a W) : c.wp P Q a w := h w rfl
theorem At.keepN {w : World} {b : Nat} {e : TypeId} {cs : Array Value} {n : Nat} (h : At w b e cs) : At (w.drewN n) b e cs := ((Keep.refl (fun _ => False) w).drewN n).at_ h (fun x => x)
theorem Rd.none_ {w : World} {X : Nat → Prop} {size m c : Nat} {A : Option Addr} {ys : List Value} (h : m = 0) (hy : ys = []) : Rd w X size (.slice A m c) m ys := by
  subst h hy
  exact ⟨by simp, A, c, rfl, Nat.zero_le _, fun h => absurd h (by omega)⟩
theorem Rd.cutS {w : World} {X : Nat → Prop} {size n c j b o o' : Nat} {xs : List Value} (h : Rd w X size (.slice (some ⟨b, o, none⟩) n c) n xs) (hj : j < n) (ho : o' = o + j * size) : Rd w X size (.slice (some ⟨b, o', none⟩) (n - j) (c - j)) (n - j) (xs.drop (j * size)) := by
  subst ho
  have hc : n ≤ c := by obtain ⟨_, A0, c0, hv0, hc0, _⟩ := h; simp only [Value.slice.injEq, true_and] at hv0; omega
  have := h.cutR (j := j) (by omega)
  rw [if_neg (by omega)] at this
  simpa [Addr_lit] using this
theorem zero_cut {l : List Ft} {rs : List Tv} {i j : Nat} (h1 : j ≤ i) (h2 : i ≤ j) (hl : l.length = i) (hr : rs.length = i) : i - j = 0 ∧ (strs (l.map (·.1))).drop (j * 1) = [] ∧ (tflat rs).drop (j * 4) = [] :=
  ⟨by omega, List.drop_of_length_le (by rw [strs_length, List.length_map]; omega), List.drop_of_length_le (by rw [tflat_length]; omega)⟩
theorem RecI.fin' {names : List ByteArray} {kids : List Ty} {l : List Ft} {i : Nat} (h : RecI names kids i l) (hi : names.length = i) (hl : names.length = kids.length) (h16 : names.length ≤ 16) : recT names kids = some (recOf l) := by
  subst hi
  exact h.fin hl h16
def RiA (w2 : World) (l : List Ft) (s : ByteArray) (n : Nat) (k : Nat) (b : Value) (wr : World) : Prop :=
  ∃ j : Nat, b = .int .i64 j ∧ j ≤ n ∧ k = n - j ∧ (∀ (q : Nat) (y : Ft), q < j → l[q]? = some y → ltS y.1 s = true) ∧ Keep (fun _ => False) w2 wr
/-- The fields behind a round. -/
theorem RrR.put {w1 wr wb w5 w6 : World} {Z : Nat → Prop} {names : List ByteArray} {kids : List Ty} {i j tb : Nat} {l : List Ft} {A A' A3 A6 : Option Addr} {c c' c3 c6 : Nat} {rs : List Tv} {s : ByteArray} {kd : Ty} {q : Tv}
    (h : RrR w1 wr Z names kids i tb l A A' c c' rs) (hb : Keep (fun _ => False) wr wb) (hZ : ∀ g, Z g → g < w1.heap.size) (hq : TyV w1 Z q kd) (hs : names[i]? = some s) (ht : kids[i]? = some kd) (hn : nameB s = true) (hj : j ≤ l.length)
    (h1 : ∀ (q : Nat) (y : Ft), q < j → l[q]? = some y → ltS y.1 s = true) (h2 : ∀ y, l[j]? = some y → ltS y.1 s = false ∧ y.1 ≠ s) (hZt : Z tb)
    (hA : App wb w5 9 1 (.slice A3 (i + 1) c3) (i + 1) (strs ((l.take j ++ (s, kd) :: l.drop j).map (·.1)))) (hB : App wb w5 25 4 (.slice A6 (i + 1) c6) (i + 1) (tflat (rs.take j ++ q :: rs.drop j)))
    (he : w6 = (w5.setCell ⟨tb, 2, none⟩ (.slice A3 (i + 1) c3)).setCell ⟨tb, 3, none⟩ (.slice A6 (i + 1) c6)) :
    RrR w1 w6 Z names kids (i + 1) tb (l.take j ++ (s, kd) :: l.drop j) A3 A6 c3 c6 (rs.take j ++ q :: rs.drop j) := by
  have hz1 := h.keep.size
  have hz2 := hb.size
  have hkb := hb.trans hA.keep (fun _ _ x => x)
  have hst : Keep (fun g => g = tb) w5 w6 := by
    rw [he]
    exact Keep.setCell (X := fun g => g = tb) (p := ⟨tb, 3, none⟩) (Keep.setCell (X := fun g => g = tb) (p := ⟨tb, 2, none⟩) (Keep.refl _ w5) (.inl rfl) _) (.inl rfl) _
  have hk1 : Keep (fun g => g = tb) w1 w5 := h.keep.trans hkb (fun _ _ x => x.elim)
  have hk6 : Keep (fun g => g = tb) w1 w6 := hk1.trans hst (fun _ _ x => x)
  have hbx : At w6 tb 25 #[.int .i64 5, .string ⟨#[]⟩, .slice A3 (i + 1) c3, .slice A6 (i + 1) c6] := by
    rw [he]
    exact ((hkb.at_ h.box (fun x => x)).set 2 _).set 3 _
  have hnew : ∀ {g : Nat}, wb.heap.size ≤ g → ¬ Z g := fun {g} hg hz => by
    have := hZ g hz
    omega
  have hne : ∀ {g : Nat}, wb.heap.size ≤ g → ¬ g = tb := fun {g} hg e => by
    have := h.box.lt
    omega
  refine ⟨hk6, hbx, Rd.of_own (hst.own hA.own (fun g hg => hne (hA.new g hg))) (fun g hg => hnew (hA.new g hg)), Rd.of_own (hst.own hB.own (fun g hg => hne (hB.new g hg))) (fun g hg => hnew (hB.new g hg)), ?_, h.inv.step hs ht hn hj h1 h2⟩
  have e : (l.take j ++ (s, kd) :: l.drop j).map (·.2) = (l.map (·.2)).take j ++ kd :: (l.map (·.2)).drop j := by simp [List.map_take, List.map_drop]
  rw [e]
  have hty : TysV w6 Z rs (l.map (·.2)) := (h.tys.step hkb).keep hst (fun _ _ hg => by rw [hg]; exact hZt) (fun _ _ hz => hz)
  have hqq : TyV w6 Z q kd := hq.keep hk6 (fun _ _ hg => by rw [hg]; exact hZt) (fun _ _ hz => hz)
  exact (hty.take j).append ⟨hqq, hty.drop j⟩
theorem row_ne {w : World} {e e' : TypeId} {size size' n n' g : Nat} {v v' : Value} {xs ys : List Value} (h : w.ownsRow 0 e size v n xs) (h' : w.ownsRow 0 e' size' v' n' ys) (hne : e ≠ e') (hg : v.ownBlock = some g) (hg' : v'.ownBlock = some g) : False := by
  rcases own_cases h' with ⟨rfl, _, _⟩ | ⟨g', cap, rfl, _, _⟩
  · simp [Value.ownBlock] at hg'
  · simp only [Value.ownBlock, Option.some.injEq] at hg'
    subst hg'
    exact own_own h h' hne hg
set_option maxRecDepth 100000 in
set_option maxHeartbeats 16000000 in
set_option pp.deepTerms true in
set_option pp.deepTerms.threshold 100000 in
set_option pp.maxSteps 1000000 in
theorem rrec_any {w : World} {X : Nat → Prop} (hX : ∀ i, X i → i < w.heap.size) {An Ak : Option Addr} {n m cn ck : Nat} {names : List ByteArray} {kids : List Ty} {rs : List Tv} (hb : n ≤ 140737488355328) (hb' : m ≤ 140737488355328)
    (h : Rd w X 1 (.slice An n cn) n (strs names)) (h' : Rd w X 4 (.slice Ak m ck) m (tflat rs)) (hv : TysV w X rs kids) :
    Calls Tryd.prog 38 #[.slice An n cn, .slice Ak m ck] w fun e w' => OptP X (recT names kids) e w' ∧ Keep (fun _ => False) w w' := by
  have hn := h.slen
  have hm : kids.length = m := by rw [← hv.len, h'.nlen]
  have k1 : Keep (fun _ => False) w ((w.alloc (.cells #[.int .i64 0, .string ⟨#[]⟩, .slice none 0 0, .slice none 0 0] 25)).alloc (.cells #[.int .i64 5, .string ⟨#[]⟩, .slice none 0 0, .slice none 0 0] 25)) := ((Keep.refl _ w).alloc _).alloc _
  have r1 : At ((w.alloc (.cells #[.int .i64 0, .string ⟨#[]⟩, .slice none 0 0, .slice none 0 0] 25)).alloc (.cells #[.int .i64 5, .string ⟨#[]⟩, .slice none 0 0, .slice none 0 0] 25)) w.heap.size 25 #[.int .i64 0, .string ⟨#[]⟩, .slice none 0 0, .slice none 0 0] := (At.new _ _ _).alloc _
  have t1 : At ((w.alloc (.cells #[.int .i64 0, .string ⟨#[]⟩, .slice none 0 0, .slice none 0 0] 25)).alloc (.cells #[.int .i64 5, .string ⟨#[]⟩, .slice none 0 0, .slice none 0 0] 25)) (w.heap.size + 1) 25 #[.int .i64 5, .string ⟨#[]⟩, .slice none 0 0, .slice none 0 0] := At.new_at (by simp)
  have hZ : ∀ g, (X g ∨ g = w.heap.size ∨ g = w.heap.size + 1) → g < ((w.alloc (.cells #[.int .i64 0, .string ⟨#[]⟩, .slice none 0 0, .slice none 0 0] 25)).alloc (.cells #[.int .i64 5, .string ⟨#[]⟩, .slice none 0 0, .slice none 0 0] 25)).heap.size := fun g hg => by
    rcases hg with hg | rfl | rfl
    · exact Nat.lt_of_lt_of_le (hX g hg) k1.size
    · exact r1.lt
    · exact t1.lt
  have hmono : ∀ i, i < w.heap.size → (X i ∨ i = w.heap.size ∨ i = w.heap.size + 1) → X i := fun i hi hx => by
    rcases hx with hx | hx | hx
    · exact hx
    · omega
    · omega
  have hnm : Rd ((w.alloc (.cells #[.int .i64 0, .string ⟨#[]⟩, .slice none 0 0, .slice none 0 0] 25)).alloc (.cells #[.int .i64 5, .string ⟨#[]⟩, .slice none 0 0, .slice none 0 0] 25)) (fun g => X g ∨ g = w.heap.size ∨ g = w.heap.size + 1) 1 (.slice An n cn) n (strs names) := (h.mono (Y := fun g => X g ∨ g = w.heap.size ∨ g = w.heap.size + 1) hmono).keep k1 (fun _ x => x.elim)
  have hkd : Rd ((w.alloc (.cells #[.int .i64 0, .string ⟨#[]⟩, .slice none 0 0, .slice none 0 0] 25)).alloc (.cells #[.int .i64 5, .string ⟨#[]⟩, .slice none 0 0, .slice none 0 0] 25)) (fun g => X g ∨ g = w.heap.size ∨ g = w.heap.size + 1) 4 (.slice Ak m ck) m (tflat rs) := (h'.mono (Y := fun g => X g ∨ g = w.heap.size ∨ g = w.heap.size + 1) hmono).keep k1 (fun _ x => x.elim)
  have hty : TysV ((w.alloc (.cells #[.int .i64 0, .string ⟨#[]⟩, .slice none 0 0, .slice none 0 0] 25)).alloc (.cells #[.int .i64 5, .string ⟨#[]⟩, .slice none 0 0, .slice none 0 0] 25)) (fun g => X g ∨ g = w.heap.size ∨ g = w.heap.size + 1) rs kids := hv.keep k1 (fun _ _ x => x.elim) hmono
  have H := Lib.hid (And.intro k1 (And.intro r1 (And.intro t1 (And.intro hZ (And.intro hnm (And.intro hkd (And.intro hty hX)))))))
  have HN := Lib.hid (And.intro hn hm)
  clear hX h h' hv k1 r1 t1 hZ hmono hnm hkd hty
  by_cases hnm : n = m
  · subst hnm
    have d1 : ((n : Int) == (n : Int)) = true := by simp
    have d1' : ((n : Int) != (n : Int)) = false := by simp
    by_cases h16 : 16 < n
    · have d2 : decide (16 < (n : Int)) = true := by simp; omega
      have d2' : decide (16 < n) = true := by simp; omega
      have hno : recT names kids = none := recT_none (.inr (.inl (by omega)))
      have HNO := Lib.hid hno
      clear hno hn hm
      go_enter Tryd.func38, Tryd.ntmps38
      go_upto_region 3 with fail
      obtain ⟨rl, r0, r1, r2, r3⟩ := H.out.2.1.tcells
      obtain ⟨tl, t0, t1, t2, t3⟩ := H.out.2.2.1.tcells
      have rf := H.out.2.1.frozen
      have rf0 := rf 0
      have rf1 := rf 1
      have rf2 := rf 2
      have rf3 := rf 3
      clear rf
      have HF := Lib.hid (And.intro H.out.1 H.out.2.1)
      clear H
      generalize ((w.alloc (.cells #[.int .i64 0, .string ⟨#[]⟩, .slice none 0 0, .slice none 0 0] 25)).alloc (.cells #[.int .i64 5, .string ⟨#[]⟩, .slice none 0 0, .slice none 0 0] 25)) = w1 at *
      go_wp2_with fail
      (try simp only [Exit.inBlock, Exit.then])
      refine bodyPost_ret (ret_cell rfl rfl ((((HF.out.2.set 0 _).set 1 _).set 2 _).set 3 _)) rfl ?_
      exact ⟨OptP.no HNO.out ⟨5, ⟨#[]⟩, none, 0, 0, none, 0, 0⟩, Keep.set4 HF.out.1 (.inr (Nat.le_refl _)) _ _ _ _⟩
    · have d2 : decide (16 < (n : Int)) = false := by simp; omega
      have d2' : decide (16 < n) = false := by simp; omega
      have hn16 : n ≤ 16 := by omega
      clear h16
      have h0 : Hid (RrA ((w.alloc (.cells #[.int .i64 0, .string ⟨#[]⟩, .slice none 0 0, .slice none 0 0] 25)).alloc (.cells #[.int .i64 5, .string ⟨#[]⟩, .slice none 0 0, .slice none 0 0] 25)) (fun g => X g ∨ g = w.heap.size ∨ g = w.heap.size + 1) names kids n (w.heap.size + 1) n (.int .i64 0) ((w.alloc (.cells #[.int .i64 0, .string ⟨#[]⟩, .slice none 0 0, .slice none 0 0] 25)).alloc (.cells #[.int .i64 5, .string ⟨#[]⟩, .slice none 0 0, .slice none 0 0] 25))) := ⟨0, [], none, none, 0, 0, [], rfl, Nat.zero_le _, rfl, Keep.refl _ _, H.out.2.2.1, Rd.nil _ _ 1, Rd.nil _ _ 4, trivial, RecI.zero names kids⟩
      go_enter Tryd.func38, Tryd.ntmps38
      go_wp2_with fail
      generalize ((w.alloc (.cells #[.int .i64 0, .string ⟨#[]⟩, .slice none 0 0, .slice none 0 0] 25)).alloc (.cells #[.int .i64 5, .string ⟨#[]⟩, .slice none 0 0, .slice none 0 0] 25)) = w1 at *
      generalize hre : w.heap.size = rb at *
      generalize hte : rb + 1 = tb at *
      have HRE := Lib.hid (And.intro hre hte)
      clear hre hte
      go_loopg [7] n (RrA w1 (fun g => X g ∨ g = rb ∨ g = tb) names kids n tb)
      case atStart => exact h0.out
      case round =>
        clear h0
        obtain ⟨i, l, A, A', c, c', rs', rfl, hi, rfl, hR⟩ := hrel
        have hll : l.length = i := hR.inv.len (by omega) (by omega)
        have hic : i ≤ c := by obtain ⟨_, A0, c0, hv0, hc0, _⟩ := hR.nms; simp only [Value.slice.injEq, true_and] at hv0; omega
        have hic' : i ≤ c' := by obtain ⟨_, A0, c0, hv0, hc0, _⟩ := hR.kds; simp only [Value.slice.injEq, true_and] at hv0; omega
        by_cases hlt : i < n
        · obtain ⟨s, hs⟩ : ∃ s, names[i]? = some s := ⟨_, List.getElem?_eq_getElem (by omega)⟩
          obtain ⟨kd, hkd⟩ : ∃ kd, kids[i]? = some kd := ⟨_, List.getElem?_eq_getElem (by omega)⟩
          obtain ⟨⟨qk, qnm, qAn, qnn, qcn, qAk, qnk, qck⟩, hq, hqv⟩ := H.out.2.2.2.2.2.2.1.at_ hkd
          have hkw : Keep (fun _ => False) wr wr := Keep.refl _ _
          have hZtb : ∀ g, (g = tb) → (X g ∨ g = rb ∨ g = tb) := fun g hg => .inr (.inr hg)
          obtain ⟨b, o, hAn, hbz, hbX, c0⟩ := (H.out.2.2.2.2.1.keep hR.keep (fun g hg => .inr (.inr hg))).scell hlt hs
          obtain ⟨b', o', hAk, hbz', hbX', e0, e1, e2, e3⟩ := (H.out.2.2.2.2.2.1.keep hR.keep (fun g hg => .inr (.inr hg))).tcells hlt hq
          simp only at e0 e1 e2 e3
          subst hAn hAk
          have hnmc := rName_any s wr
          have HR := Lib.hid (And.intro hR (And.intro hs (And.intro hkd (And.intro hqv (And.intro hbX hbX')))))
          obtain ⟨tl, t0, t1, t2, t3⟩ := hR.box.tcells
          clear hR hs hkd hqv hq hkw hbX hbX' t0 t1 t3 tl t2
          cases hnb : nameB s with
          | false =>
            rw [hnb] at hnmc
            have HNO := Lib.hid (RecI.bad (kids := kids) HR.out.2.1 hnb)
            clear hnb
            go_wp2_with (go_at_call 47; refine hnmc.mono ?_; rintro e w2 ⟨rfl, hk2⟩; have H2 := Lib.hid hk2; clear hk2 hnmc)
            have h0 : Hid (RiA w2 l s i i (.int .i64 0) w2) := ⟨0, rfl, Nat.zero_le _, rfl, fun q y hq _ => absurd hq (by omega), Keep.refl _ _⟩
            go_loopg [9] i (RiA w2 l s i)
            case atStart => exact h0.out
            case round =>
              clear h0
              obtain ⟨j, rfl, hj, rfl, hless, hk3⟩ := hrel
              have k3 := H2.out.trans hk3 (fun _ _ x => x)
              have k3h := Lib.hid k3
              have hR3 := HR.out.1.step k3
              have hRa := Lib.hid (hR3.keep.at_ H.out.2.1 (fun e => by have := HRE.out; omega))
              have HKW := Lib.hid (H.out.1.weak hR3.keep (fun g hg => by have := HRE.out; omega))
              obtain ⟨tl, t0, t1, t2, t3⟩ := hR3.box.tcells
              have c0' := k3.cell c0 (fun x => x)
              have hbz3 := Nat.lt_of_lt_of_le hbz k3.size
              have j0 : (0 : Int) ≤ (j : Int) := by omega
              have i0 : (0 : Int) ≤ (i : Int) := by omega
              have i1 : (i : Int) < (n : Int) := by omega
              by_cases hjl : j < i
              · obtain ⟨y, hy⟩ : ∃ y, l[j]? = some y := ⟨_, List.getElem?_eq_getElem (by omega)⟩
                obtain ⟨yb, yo, hA, ybz, ybX, yc⟩ := hR3.nms.scell hjl (show (l.map (·.1))[j]? = some y.1 by simp [hy])
                subst hA
                obtain ⟨kq, hkq⟩ : ∃ kq, rs'[j]? = some kq := ⟨_, List.getElem?_eq_getElem (by have := hR3.kds.nlen; omega)⟩
                obtain ⟨kb, ko, hA', _⟩ := hR3.kds.tcells hjl hkq
                subst hA'
                clear hkq
                have HS := Lib.hid (And.intro hless (And.intro hk3 (And.intro hR3 hy)))
                have j1 : (j : Int) < (i : Int) := by omega
                have dj : decide ((j : Int) < (i : Int)) = true := by simp; omega
                have dj' : decide (j < i) = true := by simp; omega
                have hlb := ltS_bytes y.1 s
                clear hless hk3 hR3 k3 ybX hy
                obtain ⟨ys, hys⟩ : ∃ ys, y.1 = ys := ⟨_, rfl⟩
                rw [hys] at yc hlb
                have HY := Lib.hid hys
                clear hys
                cases hlts : ltS ys s with
                | true =>
                  rw [hlts] at hlb
                  have HLT := Lib.hid hlts
                  clear hlts
                  go_wp2_with fail
                  go_quiet (fail)
                  go_wp2_with fail
                  go_roundg (i - (j + 1))
                  case measure => omega
                  case rel =>
                    refine ⟨j + 1, by go_num, by omega, rfl, fun q z hq hz => ?_, HS.out.2.1.drewN _⟩
                    by_cases hqj : q < j
                    · exact HS.out.1 q z hqj hz
                    · have : q = j := by omega
                      subst this
                      have hzy : z = y := Option.some.inj (hz.symm.trans HS.out.2.2.2)
                      rw [hzy, HY.out]
                      exact HLT.out
                | false =>
                  rw [hlts] at hlb
                  have HLT := Lib.hid hlts
                  clear hlts
                  obtain ⟨rl, r0, r1, r2, r3⟩ := hRa.out.tcells
                  have rf0 := hRa.out.frozen 0
                  have rf1 := hRa.out.frozen 1
                  have rf2 := hRa.out.frozen 2
                  have rf3 := hRa.out.frozen 3
                  go_wp2_with fail
                  go_quiet (fail)
                  go_wp2_with fail
                  go_quiet (fail)
                  go_wp2_with fail
                  (try simp only [Exit.inBlock, Exit.then])
                  refine bodyPost_ret (ret_cell rfl rfl (((((At.keepN hRa.out).set 0 _).set 1 _).set 2 _).set 3 _)) rfl ?_
                  exact ⟨OptP.no HNO.out ⟨5, ⟨#[]⟩, _, _, _, _, _, _⟩, Keep.set4 (HKW.out.drewN _) (.inr (by have := HRE.out; omega)) _ _ _ _⟩
              · have hje : j = i := by omega
                have HS := Lib.hid (And.intro hless (And.intro hk3 (And.intro hR3 hje)))
                have dj : decide ((j : Int) < (i : Int)) = false := by simp; omega
                have dj' : decide (j < i) = false := by simp; omega
                clear hless hk3 hR3 k3 hje
                obtain ⟨rl, r0, r1, r2, r3⟩ := hRa.out.tcells
                have rf0 := hRa.out.frozen 0
                have rf1 := hRa.out.frozen 1
                have rf2 := hRa.out.frozen 2
                have rf3 := hRa.out.frozen 3
                go_wp2_with fail
                go_quiet (fail)
                go_wp2_with fail
                go_quiet (fail)
                go_wp2_with fail
                (try simp only [Exit.inBlock, Exit.then])
                refine bodyPost_ret (ret_cell rfl rfl (((((At.keepN hRa.out).set 0 _).set 1 _).set 2 _).set 3 _)) rfl ?_
                exact ⟨OptP.no HNO.out ⟨5, ⟨#[]⟩, _, _, _, _, _, _⟩, Keep.set4 (HKW.out.drewN _) (.inr (by have := HRE.out; omega)) _ _ _ _⟩
          | true =>
            rw [hnb] at hnmc
            have HNB := Lib.hid hnb
            clear hnb
            go_wp2_with (go_at_call 47; refine hnmc.mono ?_; rintro e w2 ⟨rfl, hk2⟩; have H2 := Lib.hid hk2; clear hk2 hnmc)
            have h0 : Hid (RiA w2 l s i i (.int .i64 0) w2) := ⟨0, rfl, Nat.zero_le _, rfl, fun q y hq _ => absurd hq (by omega), Keep.refl _ _⟩
            go_loopg [9] i (RiA w2 l s i)
            case atStart => exact h0.out
            case round =>
              clear h0
              obtain ⟨j, rfl, hj, rfl, hless, hk3⟩ := hrel
              have k3 := H2.out.trans hk3 (fun _ _ x => x)
              have k3h := Lib.hid k3
              have hR3 := HR.out.1.step k3
              have hRa := Lib.hid (hR3.keep.at_ H.out.2.1 (fun e => by have := HRE.out; omega))
              have HKW := Lib.hid (H.out.1.weak hR3.keep (fun g hg => by have := HRE.out; omega))
              obtain ⟨tl, t0, t1, t2, t3⟩ := hR3.box.tcells
              have c0' := k3.cell c0 (fun x => x)
              have hbz3 := Nat.lt_of_lt_of_le hbz k3.size
              have j0 : (0 : Int) ≤ (j : Int) := by omega
              have i0 : (0 : Int) ≤ (i : Int) := by omega
              have i1 : (i : Int) < (n : Int) := by omega
              by_cases hjl : j < i
              · obtain ⟨y, hy⟩ : ∃ y, l[j]? = some y := ⟨_, List.getElem?_eq_getElem (by omega)⟩
                obtain ⟨yb, yo, hA, ybz, ybX, yc⟩ := hR3.nms.scell hjl (show (l.map (·.1))[j]? = some y.1 by simp [hy])
                subst hA
                obtain ⟨kq, hkq⟩ : ∃ kq, rs'[j]? = some kq := ⟨_, List.getElem?_eq_getElem (by have := hR3.kds.nlen; omega)⟩
                obtain ⟨kb, ko, hA', _⟩ := hR3.kds.tcells hjl hkq
                subst hA'
                clear hkq
                have HS := Lib.hid (And.intro hless (And.intro hk3 (And.intro hR3 hy)))
                have j1 : (j : Int) < (i : Int) := by omega
                have dj : decide ((j : Int) < (i : Int)) = true := by simp; omega
                have dj' : decide (j < i) = true := by simp; omega
                have hlb := ltS_bytes y.1 s
                clear hless hk3 hR3 k3 ybX hy
                obtain ⟨ys, hys⟩ : ∃ ys, y.1 = ys := ⟨_, rfl⟩
                rw [hys] at yc hlb
                have HY := Lib.hid hys
                clear hys
                cases hlts : ltS ys s with
                | true =>
                  rw [hlts] at hlb
                  have HLT := Lib.hid hlts
                  clear hlts
                  go_wp2_with fail
                  go_quiet (fail)
                  go_wp2_with fail
                  go_roundg (i - (j + 1))
                  case measure => omega
                  case rel =>
                    refine ⟨j + 1, by go_num, by omega, rfl, fun q z hq hz => ?_, HS.out.2.1.drewN _⟩
                    by_cases hqj : q < j
                    · exact HS.out.1 q z hqj hz
                    · have : q = j := by omega
                      subst this
                      have hzy : z = y := Option.some.inj (hz.symm.trans HS.out.2.2.2)
                      rw [hzy, HY.out]
                      exact HLT.out
                | false =>
                  rw [hlts] at hlb
                  have HLT := Lib.hid hlts
                  clear hlts
                  by_cases he : ys = s
                  · subst he
                    have hd := str_beq ys
                    have HNO := Lib.hid (HR.out.1.inv.dup (List.mem_of_getElem? HS.out.2.2.2) HR.out.2.1 HY.out)
                    obtain ⟨rl, r0, r1, r2, r3⟩ := hRa.out.tcells
                    have rf0 := hRa.out.frozen 0
                    have rf1 := hRa.out.frozen 1
                    have rf2 := hRa.out.frozen 2
                    have rf3 := hRa.out.frozen 3
                    go_wp2_with fail
                    go_quiet (fail)
                    go_wp2_with fail
                    go_quiet (fail)
                    go_wp2_with fail
                    (try simp only [Exit.inBlock, Exit.then])
                    refine bodyPost_ret (ret_cell rfl rfl (((((At.keepN hRa.out).set 0 _).set 1 _).set 2 _).set 3 _)) rfl ?_
                    exact ⟨OptP.no HNO.out ⟨5, ⟨#[]⟩, _, _, _, _, _, _⟩, Keep.set4 (HKW.out.drewN _) (.inr (by have := HRE.out; omega)) _ _ _ _⟩
                  · have hd := str_bne he
                    have HNE := Lib.hid he
                    clear he
                    go_wp2_with fail
                    go_quiet (fail)
                    go_wp2_with fail
                    go_quiet (fail)
                    go_upto_region 13 with fail
                    refine gen_w ?_
                    intro wq hwq
                    have kq : Keep (fun _ => False) wr wq := by rw [hwq]; repeat (first | exact Keep.refl _ _ | refine Keep.drewN ?_ _ | refine Keep.drew ?_)
                    clear hwq
                    have HI := Lib.hid (And.intro (HS.out.2.2.1.step kq) (And.intro (kq.cell c0' (fun x => x)) (And.intro (Nat.lt_of_lt_of_le hbz3 kq.size) (And.intro ((k3h.out.trans kq (fun _ _ x => x)).cell e0 (fun x => x)) (And.intro ((k3h.out.trans kq (fun _ _ x => x)).cell e1 (fun x => x)) (And.intro ((k3h.out.trans kq (fun _ _ x => x)).cell e2 (fun x => x)) (And.intro ((k3h.out.trans kq (fun _ _ x => x)).cell e3 (fun x => x)) (Nat.lt_of_lt_of_le hbz' (k3h.out.trans kq (fun _ _ x => x)).size))))))))
                    have HKQ := Lib.hid kq
                    obtain ⟨xl, x0, x1, x2, x3⟩ := HI.out.1.box.tcells
                    clear kq
                    go_wp2_with (first
                      | (at_builtin; refine wpList_app_rd rfl (.const (.slice none 0 0)) (.tmp 79) 22 rfl E9 (.slice none 0 0) 0 [] rfl (World.ownsRow_nil _ 0 9 1) (.slice (some ⟨yb, yo, none⟩) j c) j ((strs (l.map (·.1))).take (j * 1)) rfl (HI.out.1.nms.cutL (Nat.le_of_lt hjl)) (fun u hu => strs_one _ u (List.mem_of_mem_take hu)) (by omega) (by decide) ?_; intro v1 w1' ho hk hn; rw [show 0 + j = j by omega] at ho; have A1 := App.next (w := wq) ⟨World.ownsRow_nil _ 0 9 1, Keep.refl _ _, fun g hg => by simp [Value.ownBlock] at hg⟩ (Keep.refl _ _) ho hk hn; have n1 := A1.keep.cell HI.out.2.1 (fun x => x); have nl := Nat.lt_of_lt_of_le HI.out.2.2.1 A1.keep.size; have A1 := Lib.hid A1; clear ho hk hn xl x0 x1 x2 x3)
                      | (at_builtin; refine wpList_app_rd rfl (.tmp 81) (.tmp 86) 22 rfl E9 v1 j ([] ++ (strs (l.map (·.1))).take (j * 1)) rfl (A1.out.own.alloc _) (.slice (some ⟨w1'.heap.size, 0, none⟩) 1 1) 1 [.string s] rfl (Rd.of_at (X := fun _ => False) (At.new w1' 9 #[.string s]) (fun x => x) rfl (Nat.le_refl _)) (by simp [Value.oneCell']) (by omega) (by decide) ?_; intro v2 w2' ho hk hn; have A2 := App.next A1.out ((Keep.refl _ w1').alloc _) ho hk hn; obtain ⟨xl, x0, x1, x2, x3⟩ := (A2.keep.at_ HI.out.1.box (fun x => x)).tcells; have A2 := Lib.hid A2; clear ho hk hn n1 nl)
                      | (at_builtin; refine wpList_app_rd rfl (.tmp 88) (.tmp 92) 22 rfl E9 v2 (j + 1) ([] ++ (strs (l.map (·.1))).take (j * 1) ++ [.string s]) rfl A2.out.own (.slice (some ⟨yb, yo + j, none⟩) (i - j) (c - j)) (i - j) ((strs (l.map (·.1))).drop (j * 1)) (by rfl) ((HI.out.1.nms.cutS (o' := yo + j) hjl (by omega)).keep (Y := fun _ => False) A2.out.keep (fun _ x => x.elim)) (fun u hu => strs_one _ u (List.mem_of_mem_drop hu)) (by omega) (by decide) ?_; intro v3 w3' ho hk hn; rw [show j + 1 + (i - j) = i + 1 by omega, ins_strs (t := kd)] at ho; have A3 := App.next A2.out (Keep.refl _ _) ho hk hn; obtain ⟨N3, c3, rfl⟩ := own_slice A3.own; obtain ⟨xl, x0, x1, x2, x3⟩ := (A3.keep.at_ HI.out.1.box (fun x => x)).tcells; have A3 := Lib.hid A3; clear ho hk hn)
                      | (at_builtin; refine wpList_app_rd rfl (.const (.slice none 0 0)) (.tmp 97) 23 rfl E25 (.slice none 0 0) 0 [] rfl (World.ownsRow_nil _ 0 25 4) (.slice (some ⟨kb, ko, none⟩) j c') j ((tflat rs').take (j * 4)) rfl ((HI.out.1.kds.cutL (Nat.le_of_lt hjl)).keep (Y := fun _ => False) A3.out.keep (fun _ x => x.elim)) (fun u hu => tflat_one _ u (List.mem_of_mem_take hu)) (by omega) (by decide) ?_; intro v4 w4' ho hk hn; rw [show 0 + j = j by omega] at ho; have B4 := App.next (wb := wq) (w := w3') ⟨World.ownsRow_nil _ 0 25 4, A3.out.keep, fun g hg => by simp [Value.ownBlock] at hg⟩ (Keep.refl _ _) ho hk hn; have A4 := Lib.hid (A3.out.off (hk.mono (Y := fun _ => False) (fun _ _ hx => by simp [Value.ownBlock] at hx)) (fun _ x => x.elim) (fun _ _ x => x)); have n0 := B4.keep.cell HI.out.2.2.2.1 (fun x => x); have n1 := B4.keep.cell HI.out.2.2.2.2.1 (fun x => x); have n2 := B4.keep.cell HI.out.2.2.2.2.2.1 (fun x => x); have n3 := B4.keep.cell HI.out.2.2.2.2.2.2.1 (fun x => x); have nl := Nat.lt_of_lt_of_le HI.out.2.2.2.2.2.2.2 B4.keep.size; have B4 := Lib.hid B4; clear ho hk hn xl x0 x1 x2 x3)
                      | (at_builtin; refine wpList_app_rd rfl (.tmp 99) (.tmp 104) 23 rfl E25 v4 j ([] ++ (tflat rs').take (j * 4)) rfl (B4.out.own.alloc _) (.slice (some ⟨w4'.heap.size, 0, none⟩) 1 1) 1 [.int .i64 qk, .string qnm, .slice qAn qnn qcn, .slice qAk qnk qck] rfl (Rd.of_at (X := fun _ => False) (At.new w4' 25 #[.int .i64 qk, .string qnm, .slice qAn qnn qcn, .slice qAk qnk qck]) (fun x => x) rfl (Nat.le_refl _)) (by simp [Value.oneCell']) (by omega) (by decide) ?_; intro v5 w5' ho hk hn; have B5 := App.next B4.out ((Keep.refl _ w4').alloc _) ho hk hn; have A5 := Lib.hid ((A4.out.off ((Keep.refl (fun _ => False) w4').alloc (.cells #[.int .i64 qk, .string qnm, .slice qAn qnn qcn, .slice qAk qnk qck] 25)) (fun _ x => x.elim) (fun _ _ x => x)).off hk (fun g hg => B4.out.new g hg) (fun g hg hx => row_ne A4.out.own B4.out.own (by decide) hg hx)); obtain ⟨xl, x0, x1, x2, x3⟩ := (B5.keep.at_ HI.out.1.box (fun x => x)).tcells; have B5 := Lib.hid B5; clear ho hk hn n0 n1 n2 n3 nl)
                      | (at_builtin; refine wpList_app_rd rfl (.tmp 106) (.tmp 110) 23 rfl E25 v5 (j + 1) ([] ++ (tflat rs').take (j * 4) ++ [.int .i64 qk, .string qnm, .slice qAn qnn qcn, .slice qAk qnk qck]) rfl B5.out.own (.slice (some ⟨kb, ko + j * 4, none⟩) (i - j) (c' - j)) (i - j) ((tflat rs').drop (j * 4)) (by rfl) ((HI.out.1.kds.cutS (o' := ko + j * 4) hjl rfl).keep (Y := fun _ => False) B5.out.keep (fun _ x => x.elim)) (fun u hu => tflat_one _ u (List.mem_of_mem_drop hu)) (by omega) (by decide) ?_; intro v6 w6' ho hk hn; rw [show j + 1 + (i - j) = i + 1 by omega, show ([.int .i64 qk, .string qnm, .slice qAn qnn qcn, .slice qAk qnk qck] : List Value) = Tv.vals ⟨qk, qnm, qAn, qnn, qcn, qAk, qnk, qck⟩ from rfl, ins_kids] at ho; have B6 := App.next B5.out (Keep.refl _ _) ho hk hn; have A6 := Lib.hid (A5.out.off hk (fun g hg => B5.out.new g hg) (fun g hg hx => row_ne A5.out.own B5.out.own (by decide) hg hx)); obtain ⟨N6, c6, rfl⟩ := own_slice B6.own; clear xl x0 x1 x2 x3; have bx := B6.keep.at_ HI.out.1.box (fun x => x); obtain ⟨xl, x0, x1, x2, x3⟩ := bx.tcells; have f2 := bx.frozen 2; have f3 := bx.frozen 3; have B6 := Lib.hid B6; clear ho hk hn bx))
                    go_roundg (n - (i + 1))
                    case measure => omega
                    case rel =>
                      exact ⟨i + 1, _, N3, N6, c3, c6, _, by go_num, by omega, rfl, HR.out.1.put ((k3h.out).trans HKQ.out (fun _ _ x => x)) H.out.2.2.2.1 HR.out.2.2.2.1 HR.out.2.1 HR.out.2.2.1 HNB.out (by omega) HS.out.1 (fun z hz => by have hzy : z = y := Option.some.inj (hz.symm.trans HS.out.2.2.2); rw [hzy, HY.out]; exact ⟨HLT.out, HNE.out⟩) (.inr (.inr rfl)) A6.out B6.out rfl⟩
              · have hje : j = i := by omega
                have HS := Lib.hid (And.intro hless (And.intro hk3 (And.intro hR3 hje)))
                have dj : decide ((j : Int) < (i : Int)) = false := by simp; omega
                have dj' : decide (j < i) = false := by simp; omega
                clear hless hk3 hR3 k3 hje
                by_cases hcj : c = j
                · obtain rfl : j = c := hcj.symm
                  by_cases hcj' : c' = j
                  · obtain rfl : j = c' := hcj'.symm
                    have hjle : j ≤ i := by omega
                    have HM0 := Lib.hid (zero_cut (l := l) (rs := rs') hjle (show i ≤ j by omega) hll (show rs'.length = i from HS.out.2.2.1.kds.nlen))
                    go_wp2_with fail
                    go_quiet (fail)
                    go_wp2_with fail
                    go_quiet (fail)
                    go_upto_region 13 with fail
                    refine gen_w ?_
                    intro wq hwq
                    have kq : Keep (fun _ => False) wr wq := by rw [hwq]; repeat (first | exact Keep.refl _ _ | refine Keep.drewN ?_ _ | refine Keep.drew ?_)
                    clear hwq
                    have HI := Lib.hid (And.intro (HS.out.2.2.1.step kq) (And.intro (kq.cell c0' (fun x => x)) (And.intro (Nat.lt_of_lt_of_le hbz3 kq.size) (And.intro ((k3h.out.trans kq (fun _ _ x => x)).cell e0 (fun x => x)) (And.intro ((k3h.out.trans kq (fun _ _ x => x)).cell e1 (fun x => x)) (And.intro ((k3h.out.trans kq (fun _ _ x => x)).cell e2 (fun x => x)) (And.intro ((k3h.out.trans kq (fun _ _ x => x)).cell e3 (fun x => x)) (Nat.lt_of_lt_of_le hbz' (k3h.out.trans kq (fun _ _ x => x)).size))))))))
                    have HKQ := Lib.hid kq
                    obtain ⟨xl, x0, x1, x2, x3⟩ := HI.out.1.box.tcells
                    clear kq
                    go_wp2_with (first
                      | (at_builtin; refine wpList_app_rd rfl (.const (.slice none 0 0)) (.tmp 79) 22 rfl E9 (.slice none 0 0) 0 [] rfl (World.ownsRow_nil _ 0 9 1) (.slice A j j) j ((strs (l.map (·.1))).take (j * 1)) rfl (HI.out.1.nms.cutL hjle) (fun u hu => strs_one _ u (List.mem_of_mem_take hu)) (by omega) (by decide) ?_; intro v1 w1' ho hk hn; rw [show 0 + j = j by omega] at ho; have A1 := App.next (w := wq) ⟨World.ownsRow_nil _ 0 9 1, Keep.refl _ _, fun g hg => by simp [Value.ownBlock] at hg⟩ (Keep.refl _ _) ho hk hn; have n1 := A1.keep.cell HI.out.2.1 (fun x => x); have nl := Nat.lt_of_lt_of_le HI.out.2.2.1 A1.keep.size; have A1 := Lib.hid A1; clear ho hk hn xl x0 x1 x2 x3)
                      | (at_builtin; refine wpList_app_rd rfl (.tmp 81) (.tmp 86) 22 rfl E9 v1 j ([] ++ (strs (l.map (·.1))).take (j * 1)) rfl (A1.out.own.alloc _) (.slice (some ⟨w1'.heap.size, 0, none⟩) 1 1) 1 [.string s] rfl (Rd.of_at (X := fun _ => False) (At.new w1' 9 #[.string s]) (fun x => x) rfl (Nat.le_refl _)) (by simp [Value.oneCell']) (by omega) (by decide) ?_; intro v2 w2' ho hk hn; have A2 := App.next A1.out ((Keep.refl _ w1').alloc _) ho hk hn; obtain ⟨xl, x0, x1, x2, x3⟩ := (A2.keep.at_ HI.out.1.box (fun x => x)).tcells; have A2 := Lib.hid A2; clear ho hk hn n1 nl)
                      | (at_builtin; refine wpList_app_rd rfl (.tmp 88) (.tmp 92) 22 rfl E9 v2 (j + 1) ([] ++ (strs (l.map (·.1))).take (j * 1) ++ [.string s]) rfl A2.out.own (.slice A 0 0) 0 ((strs (l.map (·.1))).drop (j * 1)) (by rfl) (Rd.none_ (X := fun _ => False) rfl HM0.out.2.1) (fun u hu => strs_one _ u (List.mem_of_mem_drop hu)) (by omega) (by decide) ?_; intro v3 w3' ho hk hn; rw [show j + 1 + 0 = i + 1 by omega, ins_strs (t := kd)] at ho; have A3 := App.next A2.out (Keep.refl _ _) ho hk hn; obtain ⟨N3, c3, rfl⟩ := own_slice A3.own; obtain ⟨xl, x0, x1, x2, x3⟩ := (A3.keep.at_ HI.out.1.box (fun x => x)).tcells; have A3 := Lib.hid A3; clear ho hk hn)
                      | (at_builtin; refine wpList_app_rd rfl (.const (.slice none 0 0)) (.tmp 97) 23 rfl E25 (.slice none 0 0) 0 [] rfl (World.ownsRow_nil _ 0 25 4) (.slice A' j j) j ((tflat rs').take (j * 4)) rfl ((HI.out.1.kds.cutL hjle).keep (Y := fun _ => False) A3.out.keep (fun _ x => x.elim)) (fun u hu => tflat_one _ u (List.mem_of_mem_take hu)) (by omega) (by decide) ?_; intro v4 w4' ho hk hn; rw [show 0 + j = j by omega] at ho; have B4 := App.next (wb := wq) (w := w3') ⟨World.ownsRow_nil _ 0 25 4, A3.out.keep, fun g hg => by simp [Value.ownBlock] at hg⟩ (Keep.refl _ _) ho hk hn; have A4 := Lib.hid (A3.out.off (hk.mono (Y := fun _ => False) (fun _ _ hx => by simp [Value.ownBlock] at hx)) (fun _ x => x.elim) (fun _ _ x => x)); have n0 := B4.keep.cell HI.out.2.2.2.1 (fun x => x); have n1 := B4.keep.cell HI.out.2.2.2.2.1 (fun x => x); have n2 := B4.keep.cell HI.out.2.2.2.2.2.1 (fun x => x); have n3 := B4.keep.cell HI.out.2.2.2.2.2.2.1 (fun x => x); have nl := Nat.lt_of_lt_of_le HI.out.2.2.2.2.2.2.2 B4.keep.size; have B4 := Lib.hid B4; clear ho hk hn xl x0 x1 x2 x3)
                      | (at_builtin; refine wpList_app_rd rfl (.tmp 99) (.tmp 104) 23 rfl E25 v4 j ([] ++ (tflat rs').take (j * 4)) rfl (B4.out.own.alloc _) (.slice (some ⟨w4'.heap.size, 0, none⟩) 1 1) 1 [.int .i64 qk, .string qnm, .slice qAn qnn qcn, .slice qAk qnk qck] rfl (Rd.of_at (X := fun _ => False) (At.new w4' 25 #[.int .i64 qk, .string qnm, .slice qAn qnn qcn, .slice qAk qnk qck]) (fun x => x) rfl (Nat.le_refl _)) (by simp [Value.oneCell']) (by omega) (by decide) ?_; intro v5 w5' ho hk hn; have B5 := App.next B4.out ((Keep.refl _ w4').alloc _) ho hk hn; have A5 := Lib.hid ((A4.out.off ((Keep.refl (fun _ => False) w4').alloc (.cells #[.int .i64 qk, .string qnm, .slice qAn qnn qcn, .slice qAk qnk qck] 25)) (fun _ x => x.elim) (fun _ _ x => x)).off hk (fun g hg => B4.out.new g hg) (fun g hg hx => row_ne A4.out.own B4.out.own (by decide) hg hx)); obtain ⟨xl, x0, x1, x2, x3⟩ := (B5.keep.at_ HI.out.1.box (fun x => x)).tcells; have B5 := Lib.hid B5; clear ho hk hn n0 n1 n2 n3 nl)
                      | (at_builtin; refine wpList_app_rd rfl (.tmp 106) (.tmp 110) 23 rfl E25 v5 (j + 1) ([] ++ (tflat rs').take (j * 4) ++ [.int .i64 qk, .string qnm, .slice qAn qnn qcn, .slice qAk qnk qck]) rfl B5.out.own (.slice A' 0 0) 0 ((tflat rs').drop (j * 4)) (by rfl) (Rd.none_ (X := fun _ => False) rfl HM0.out.2.2) (fun u hu => tflat_one _ u (List.mem_of_mem_drop hu)) (by omega) (by decide) ?_; intro v6 w6' ho hk hn; rw [show j + 1 + 0 = i + 1 by omega, show ([.int .i64 qk, .string qnm, .slice qAn qnn qcn, .slice qAk qnk qck] : List Value) = Tv.vals ⟨qk, qnm, qAn, qnn, qcn, qAk, qnk, qck⟩ from rfl, ins_kids] at ho; have B6 := App.next B5.out (Keep.refl _ _) ho hk hn; have A6 := Lib.hid (A5.out.off hk (fun g hg => B5.out.new g hg) (fun g hg hx => row_ne A5.out.own B5.out.own (by decide) hg hx)); obtain ⟨N6, c6, rfl⟩ := own_slice B6.own; clear xl x0 x1 x2 x3; have bx := B6.keep.at_ HI.out.1.box (fun x => x); obtain ⟨xl, x0, x1, x2, x3⟩ := bx.tcells; have f2 := bx.frozen 2; have f3 := bx.frozen 3; have B6 := Lib.hid B6; clear ho hk hn bx))
                    go_roundg (n - (i + 1))
                    case measure => omega
                    case rel =>
                      exact ⟨i + 1, _, N3, N6, c3, c6, _, by go_num, by omega, rfl, HR.out.1.put ((k3h.out).trans HKQ.out (fun _ _ x => x)) H.out.2.2.2.1 HR.out.2.2.2.1 HR.out.2.1 HR.out.2.2.1 HNB.out (by omega) HS.out.1 (fun z hz => by have := (List.getElem?_eq_some_iff.1 hz).1; have := HS.out.2.2.2; omega) (.inr (.inr rfl)) A6.out B6.out rfl⟩
                  · skip
                    have hjle : j ≤ i := by omega
                    have HM0 := Lib.hid (zero_cut (l := l) (rs := rs') hjle (show i ≤ j by omega) hll (show rs'.length = i from HS.out.2.2.1.kds.nlen))
                    go_wp2_with fail
                    go_quiet (fail)
                    go_wp2_with fail
                    go_quiet (fail)
                    go_upto_region 13 with fail
                    refine gen_w ?_
                    intro wq hwq
                    have kq : Keep (fun _ => False) wr wq := by rw [hwq]; repeat (first | exact Keep.refl _ _ | refine Keep.drewN ?_ _ | refine Keep.drew ?_)
                    clear hwq
                    have HI := Lib.hid (And.intro (HS.out.2.2.1.step kq) (And.intro (kq.cell c0' (fun x => x)) (And.intro (Nat.lt_of_lt_of_le hbz3 kq.size) (And.intro ((k3h.out.trans kq (fun _ _ x => x)).cell e0 (fun x => x)) (And.intro ((k3h.out.trans kq (fun _ _ x => x)).cell e1 (fun x => x)) (And.intro ((k3h.out.trans kq (fun _ _ x => x)).cell e2 (fun x => x)) (And.intro ((k3h.out.trans kq (fun _ _ x => x)).cell e3 (fun x => x)) (Nat.lt_of_lt_of_le hbz' (k3h.out.trans kq (fun _ _ x => x)).size))))))))
                    have HKQ := Lib.hid kq
                    obtain ⟨xl, x0, x1, x2, x3⟩ := HI.out.1.box.tcells
                    clear kq
                    go_wp2_with (first
                      | (at_builtin; refine wpList_app_rd rfl (.const (.slice none 0 0)) (.tmp 79) 22 rfl E9 (.slice none 0 0) 0 [] rfl (World.ownsRow_nil _ 0 9 1) (.slice A j j) j ((strs (l.map (·.1))).take (j * 1)) rfl (HI.out.1.nms.cutL hjle) (fun u hu => strs_one _ u (List.mem_of_mem_take hu)) (by omega) (by decide) ?_; intro v1 w1' ho hk hn; rw [show 0 + j = j by omega] at ho; have A1 := App.next (w := wq) ⟨World.ownsRow_nil _ 0 9 1, Keep.refl _ _, fun g hg => by simp [Value.ownBlock] at hg⟩ (Keep.refl _ _) ho hk hn; have n1 := A1.keep.cell HI.out.2.1 (fun x => x); have nl := Nat.lt_of_lt_of_le HI.out.2.2.1 A1.keep.size; have A1 := Lib.hid A1; clear ho hk hn xl x0 x1 x2 x3)
                      | (at_builtin; refine wpList_app_rd rfl (.tmp 81) (.tmp 86) 22 rfl E9 v1 j ([] ++ (strs (l.map (·.1))).take (j * 1)) rfl (A1.out.own.alloc _) (.slice (some ⟨w1'.heap.size, 0, none⟩) 1 1) 1 [.string s] rfl (Rd.of_at (X := fun _ => False) (At.new w1' 9 #[.string s]) (fun x => x) rfl (Nat.le_refl _)) (by simp [Value.oneCell']) (by omega) (by decide) ?_; intro v2 w2' ho hk hn; have A2 := App.next A1.out ((Keep.refl _ w1').alloc _) ho hk hn; obtain ⟨xl, x0, x1, x2, x3⟩ := (A2.keep.at_ HI.out.1.box (fun x => x)).tcells; have A2 := Lib.hid A2; clear ho hk hn n1 nl)
                      | (at_builtin; refine wpList_app_rd rfl (.tmp 88) (.tmp 92) 22 rfl E9 v2 (j + 1) ([] ++ (strs (l.map (·.1))).take (j * 1) ++ [.string s]) rfl A2.out.own (.slice A 0 0) 0 ((strs (l.map (·.1))).drop (j * 1)) (by rfl) (Rd.none_ (X := fun _ => False) rfl HM0.out.2.1) (fun u hu => strs_one _ u (List.mem_of_mem_drop hu)) (by omega) (by decide) ?_; intro v3 w3' ho hk hn; rw [show j + 1 + 0 = i + 1 by omega, ins_strs (t := kd)] at ho; have A3 := App.next A2.out (Keep.refl _ _) ho hk hn; obtain ⟨N3, c3, rfl⟩ := own_slice A3.own; obtain ⟨xl, x0, x1, x2, x3⟩ := (A3.keep.at_ HI.out.1.box (fun x => x)).tcells; have A3 := Lib.hid A3; clear ho hk hn)
                      | (at_builtin; refine wpList_app_rd rfl (.const (.slice none 0 0)) (.tmp 97) 23 rfl E25 (.slice none 0 0) 0 [] rfl (World.ownsRow_nil _ 0 25 4) (.slice A' j c') j ((tflat rs').take (j * 4)) rfl ((HI.out.1.kds.cutL hjle).keep (Y := fun _ => False) A3.out.keep (fun _ x => x.elim)) (fun u hu => tflat_one _ u (List.mem_of_mem_take hu)) (by omega) (by decide) ?_; intro v4 w4' ho hk hn; rw [show 0 + j = j by omega] at ho; have B4 := App.next (wb := wq) (w := w3') ⟨World.ownsRow_nil _ 0 25 4, A3.out.keep, fun g hg => by simp [Value.ownBlock] at hg⟩ (Keep.refl _ _) ho hk hn; have A4 := Lib.hid (A3.out.off (hk.mono (Y := fun _ => False) (fun _ _ hx => by simp [Value.ownBlock] at hx)) (fun _ x => x.elim) (fun _ _ x => x)); have n0 := B4.keep.cell HI.out.2.2.2.1 (fun x => x); have n1 := B4.keep.cell HI.out.2.2.2.2.1 (fun x => x); have n2 := B4.keep.cell HI.out.2.2.2.2.2.1 (fun x => x); have n3 := B4.keep.cell HI.out.2.2.2.2.2.2.1 (fun x => x); have nl := Nat.lt_of_lt_of_le HI.out.2.2.2.2.2.2.2 B4.keep.size; have B4 := Lib.hid B4; clear ho hk hn xl x0 x1 x2 x3)
                      | (at_builtin; refine wpList_app_rd rfl (.tmp 99) (.tmp 104) 23 rfl E25 v4 j ([] ++ (tflat rs').take (j * 4)) rfl (B4.out.own.alloc _) (.slice (some ⟨w4'.heap.size, 0, none⟩) 1 1) 1 [.int .i64 qk, .string qnm, .slice qAn qnn qcn, .slice qAk qnk qck] rfl (Rd.of_at (X := fun _ => False) (At.new w4' 25 #[.int .i64 qk, .string qnm, .slice qAn qnn qcn, .slice qAk qnk qck]) (fun x => x) rfl (Nat.le_refl _)) (by simp [Value.oneCell']) (by omega) (by decide) ?_; intro v5 w5' ho hk hn; have B5 := App.next B4.out ((Keep.refl _ w4').alloc _) ho hk hn; have A5 := Lib.hid ((A4.out.off ((Keep.refl (fun _ => False) w4').alloc (.cells #[.int .i64 qk, .string qnm, .slice qAn qnn qcn, .slice qAk qnk qck] 25)) (fun _ x => x.elim) (fun _ _ x => x)).off hk (fun g hg => B4.out.new g hg) (fun g hg hx => row_ne A4.out.own B4.out.own (by decide) hg hx)); obtain ⟨xl, x0, x1, x2, x3⟩ := (B5.keep.at_ HI.out.1.box (fun x => x)).tcells; have B5 := Lib.hid B5; clear ho hk hn n0 n1 n2 n3 nl)
                      | (at_builtin; refine wpList_app_rd rfl (.tmp 106) (.tmp 110) 23 rfl E25 v5 (j + 1) ([] ++ (tflat rs').take (j * 4) ++ [.int .i64 qk, .string qnm, .slice qAn qnn qcn, .slice qAk qnk qck]) rfl B5.out.own (.slice (Option.map (fun x => x.add (j * 4)) A') 0 (c' - j)) 0 ((tflat rs').drop (j * 4)) (by rfl) (Rd.none_ (X := fun _ => False) rfl HM0.out.2.2) (fun u hu => tflat_one _ u (List.mem_of_mem_drop hu)) (by omega) (by decide) ?_; intro v6 w6' ho hk hn; rw [show j + 1 + 0 = i + 1 by omega, show ([.int .i64 qk, .string qnm, .slice qAn qnn qcn, .slice qAk qnk qck] : List Value) = Tv.vals ⟨qk, qnm, qAn, qnn, qcn, qAk, qnk, qck⟩ from rfl, ins_kids] at ho; have B6 := App.next B5.out (Keep.refl _ _) ho hk hn; have A6 := Lib.hid (A5.out.off hk (fun g hg => B5.out.new g hg) (fun g hg hx => row_ne A5.out.own B5.out.own (by decide) hg hx)); obtain ⟨N6, c6, rfl⟩ := own_slice B6.own; clear xl x0 x1 x2 x3; have bx := B6.keep.at_ HI.out.1.box (fun x => x); obtain ⟨xl, x0, x1, x2, x3⟩ := bx.tcells; have f2 := bx.frozen 2; have f3 := bx.frozen 3; have B6 := Lib.hid B6; clear ho hk hn bx))
                    go_roundg (n - (i + 1))
                    case measure => omega
                    case rel =>
                      exact ⟨i + 1, _, N3, N6, c3, c6, _, by go_num, by omega, rfl, HR.out.1.put ((k3h.out).trans HKQ.out (fun _ _ x => x)) H.out.2.2.2.1 HR.out.2.2.2.1 HR.out.2.1 HR.out.2.2.1 HNB.out (by omega) HS.out.1 (fun z hz => by have := (List.getElem?_eq_some_iff.1 hz).1; have := HS.out.2.2.2; omega) (.inr (.inr rfl)) A6.out B6.out rfl⟩
                · skip
                  by_cases hcj' : c' = j
                  · obtain rfl : j = c' := hcj'.symm
                    have hjle : j ≤ i := by omega
                    have HM0 := Lib.hid (zero_cut (l := l) (rs := rs') hjle (show i ≤ j by omega) hll (show rs'.length = i from HS.out.2.2.1.kds.nlen))
                    go_wp2_with fail
                    go_quiet (fail)
                    go_wp2_with fail
                    go_quiet (fail)
                    go_upto_region 13 with fail
                    refine gen_w ?_
                    intro wq hwq
                    have kq : Keep (fun _ => False) wr wq := by rw [hwq]; repeat (first | exact Keep.refl _ _ | refine Keep.drewN ?_ _ | refine Keep.drew ?_)
                    clear hwq
                    have HI := Lib.hid (And.intro (HS.out.2.2.1.step kq) (And.intro (kq.cell c0' (fun x => x)) (And.intro (Nat.lt_of_lt_of_le hbz3 kq.size) (And.intro ((k3h.out.trans kq (fun _ _ x => x)).cell e0 (fun x => x)) (And.intro ((k3h.out.trans kq (fun _ _ x => x)).cell e1 (fun x => x)) (And.intro ((k3h.out.trans kq (fun _ _ x => x)).cell e2 (fun x => x)) (And.intro ((k3h.out.trans kq (fun _ _ x => x)).cell e3 (fun x => x)) (Nat.lt_of_lt_of_le hbz' (k3h.out.trans kq (fun _ _ x => x)).size))))))))
                    have HKQ := Lib.hid kq
                    obtain ⟨xl, x0, x1, x2, x3⟩ := HI.out.1.box.tcells
                    clear kq
                    go_wp2_with (first
                      | (at_builtin; refine wpList_app_rd rfl (.const (.slice none 0 0)) (.tmp 79) 22 rfl E9 (.slice none 0 0) 0 [] rfl (World.ownsRow_nil _ 0 9 1) (.slice A j c) j ((strs (l.map (·.1))).take (j * 1)) rfl (HI.out.1.nms.cutL hjle) (fun u hu => strs_one _ u (List.mem_of_mem_take hu)) (by omega) (by decide) ?_; intro v1 w1' ho hk hn; rw [show 0 + j = j by omega] at ho; have A1 := App.next (w := wq) ⟨World.ownsRow_nil _ 0 9 1, Keep.refl _ _, fun g hg => by simp [Value.ownBlock] at hg⟩ (Keep.refl _ _) ho hk hn; have n1 := A1.keep.cell HI.out.2.1 (fun x => x); have nl := Nat.lt_of_lt_of_le HI.out.2.2.1 A1.keep.size; have A1 := Lib.hid A1; clear ho hk hn xl x0 x1 x2 x3)
                      | (at_builtin; refine wpList_app_rd rfl (.tmp 81) (.tmp 86) 22 rfl E9 v1 j ([] ++ (strs (l.map (·.1))).take (j * 1)) rfl (A1.out.own.alloc _) (.slice (some ⟨w1'.heap.size, 0, none⟩) 1 1) 1 [.string s] rfl (Rd.of_at (X := fun _ => False) (At.new w1' 9 #[.string s]) (fun x => x) rfl (Nat.le_refl _)) (by simp [Value.oneCell']) (by omega) (by decide) ?_; intro v2 w2' ho hk hn; have A2 := App.next A1.out ((Keep.refl _ w1').alloc _) ho hk hn; obtain ⟨xl, x0, x1, x2, x3⟩ := (A2.keep.at_ HI.out.1.box (fun x => x)).tcells; have A2 := Lib.hid A2; clear ho hk hn n1 nl)
                      | (at_builtin; refine wpList_app_rd rfl (.tmp 88) (.tmp 92) 22 rfl E9 v2 (j + 1) ([] ++ (strs (l.map (·.1))).take (j * 1) ++ [.string s]) rfl A2.out.own (.slice (Option.map (fun x => x.add j) A) 0 (c - j)) 0 ((strs (l.map (·.1))).drop (j * 1)) (by rfl) (Rd.none_ (X := fun _ => False) rfl HM0.out.2.1) (fun u hu => strs_one _ u (List.mem_of_mem_drop hu)) (by omega) (by decide) ?_; intro v3 w3' ho hk hn; rw [show j + 1 + 0 = i + 1 by omega, ins_strs (t := kd)] at ho; have A3 := App.next A2.out (Keep.refl _ _) ho hk hn; obtain ⟨N3, c3, rfl⟩ := own_slice A3.own; obtain ⟨xl, x0, x1, x2, x3⟩ := (A3.keep.at_ HI.out.1.box (fun x => x)).tcells; have A3 := Lib.hid A3; clear ho hk hn)
                      | (at_builtin; refine wpList_app_rd rfl (.const (.slice none 0 0)) (.tmp 97) 23 rfl E25 (.slice none 0 0) 0 [] rfl (World.ownsRow_nil _ 0 25 4) (.slice A' j j) j ((tflat rs').take (j * 4)) rfl ((HI.out.1.kds.cutL hjle).keep (Y := fun _ => False) A3.out.keep (fun _ x => x.elim)) (fun u hu => tflat_one _ u (List.mem_of_mem_take hu)) (by omega) (by decide) ?_; intro v4 w4' ho hk hn; rw [show 0 + j = j by omega] at ho; have B4 := App.next (wb := wq) (w := w3') ⟨World.ownsRow_nil _ 0 25 4, A3.out.keep, fun g hg => by simp [Value.ownBlock] at hg⟩ (Keep.refl _ _) ho hk hn; have A4 := Lib.hid (A3.out.off (hk.mono (Y := fun _ => False) (fun _ _ hx => by simp [Value.ownBlock] at hx)) (fun _ x => x.elim) (fun _ _ x => x)); have n0 := B4.keep.cell HI.out.2.2.2.1 (fun x => x); have n1 := B4.keep.cell HI.out.2.2.2.2.1 (fun x => x); have n2 := B4.keep.cell HI.out.2.2.2.2.2.1 (fun x => x); have n3 := B4.keep.cell HI.out.2.2.2.2.2.2.1 (fun x => x); have nl := Nat.lt_of_lt_of_le HI.out.2.2.2.2.2.2.2 B4.keep.size; have B4 := Lib.hid B4; clear ho hk hn xl x0 x1 x2 x3)
                      | (at_builtin; refine wpList_app_rd rfl (.tmp 99) (.tmp 104) 23 rfl E25 v4 j ([] ++ (tflat rs').take (j * 4)) rfl (B4.out.own.alloc _) (.slice (some ⟨w4'.heap.size, 0, none⟩) 1 1) 1 [.int .i64 qk, .string qnm, .slice qAn qnn qcn, .slice qAk qnk qck] rfl (Rd.of_at (X := fun _ => False) (At.new w4' 25 #[.int .i64 qk, .string qnm, .slice qAn qnn qcn, .slice qAk qnk qck]) (fun x => x) rfl (Nat.le_refl _)) (by simp [Value.oneCell']) (by omega) (by decide) ?_; intro v5 w5' ho hk hn; have B5 := App.next B4.out ((Keep.refl _ w4').alloc _) ho hk hn; have A5 := Lib.hid ((A4.out.off ((Keep.refl (fun _ => False) w4').alloc (.cells #[.int .i64 qk, .string qnm, .slice qAn qnn qcn, .slice qAk qnk qck] 25)) (fun _ x => x.elim) (fun _ _ x => x)).off hk (fun g hg => B4.out.new g hg) (fun g hg hx => row_ne A4.out.own B4.out.own (by decide) hg hx)); obtain ⟨xl, x0, x1, x2, x3⟩ := (B5.keep.at_ HI.out.1.box (fun x => x)).tcells; have B5 := Lib.hid B5; clear ho hk hn n0 n1 n2 n3 nl)
                      | (at_builtin; refine wpList_app_rd rfl (.tmp 106) (.tmp 110) 23 rfl E25 v5 (j + 1) ([] ++ (tflat rs').take (j * 4) ++ [.int .i64 qk, .string qnm, .slice qAn qnn qcn, .slice qAk qnk qck]) rfl B5.out.own (.slice A' 0 0) 0 ((tflat rs').drop (j * 4)) (by rfl) (Rd.none_ (X := fun _ => False) rfl HM0.out.2.2) (fun u hu => tflat_one _ u (List.mem_of_mem_drop hu)) (by omega) (by decide) ?_; intro v6 w6' ho hk hn; rw [show j + 1 + 0 = i + 1 by omega, show ([.int .i64 qk, .string qnm, .slice qAn qnn qcn, .slice qAk qnk qck] : List Value) = Tv.vals ⟨qk, qnm, qAn, qnn, qcn, qAk, qnk, qck⟩ from rfl, ins_kids] at ho; have B6 := App.next B5.out (Keep.refl _ _) ho hk hn; have A6 := Lib.hid (A5.out.off hk (fun g hg => B5.out.new g hg) (fun g hg hx => row_ne A5.out.own B5.out.own (by decide) hg hx)); obtain ⟨N6, c6, rfl⟩ := own_slice B6.own; clear xl x0 x1 x2 x3; have bx := B6.keep.at_ HI.out.1.box (fun x => x); obtain ⟨xl, x0, x1, x2, x3⟩ := bx.tcells; have f2 := bx.frozen 2; have f3 := bx.frozen 3; have B6 := Lib.hid B6; clear ho hk hn bx))
                    go_roundg (n - (i + 1))
                    case measure => omega
                    case rel =>
                      exact ⟨i + 1, _, N3, N6, c3, c6, _, by go_num, by omega, rfl, HR.out.1.put ((k3h.out).trans HKQ.out (fun _ _ x => x)) H.out.2.2.2.1 HR.out.2.2.2.1 HR.out.2.1 HR.out.2.2.1 HNB.out (by omega) HS.out.1 (fun z hz => by have := (List.getElem?_eq_some_iff.1 hz).1; have := HS.out.2.2.2; omega) (.inr (.inr rfl)) A6.out B6.out rfl⟩
                  · skip
                    have hjle : j ≤ i := by omega
                    have HM0 := Lib.hid (zero_cut (l := l) (rs := rs') hjle (show i ≤ j by omega) hll (show rs'.length = i from HS.out.2.2.1.kds.nlen))
                    go_wp2_with fail
                    go_quiet (fail)
                    go_wp2_with fail
                    go_quiet (fail)
                    go_upto_region 13 with fail
                    refine gen_w ?_
                    intro wq hwq
                    have kq : Keep (fun _ => False) wr wq := by rw [hwq]; repeat (first | exact Keep.refl _ _ | refine Keep.drewN ?_ _ | refine Keep.drew ?_)
                    clear hwq
                    have HI := Lib.hid (And.intro (HS.out.2.2.1.step kq) (And.intro (kq.cell c0' (fun x => x)) (And.intro (Nat.lt_of_lt_of_le hbz3 kq.size) (And.intro ((k3h.out.trans kq (fun _ _ x => x)).cell e0 (fun x => x)) (And.intro ((k3h.out.trans kq (fun _ _ x => x)).cell e1 (fun x => x)) (And.intro ((k3h.out.trans kq (fun _ _ x => x)).cell e2 (fun x => x)) (And.intro ((k3h.out.trans kq (fun _ _ x => x)).cell e3 (fun x => x)) (Nat.lt_of_lt_of_le hbz' (k3h.out.trans kq (fun _ _ x => x)).size))))))))
                    have HKQ := Lib.hid kq
                    obtain ⟨xl, x0, x1, x2, x3⟩ := HI.out.1.box.tcells
                    clear kq
                    go_wp2_with (first
                      | (at_builtin; refine wpList_app_rd rfl (.const (.slice none 0 0)) (.tmp 79) 22 rfl E9 (.slice none 0 0) 0 [] rfl (World.ownsRow_nil _ 0 9 1) (.slice A j c) j ((strs (l.map (·.1))).take (j * 1)) rfl (HI.out.1.nms.cutL hjle) (fun u hu => strs_one _ u (List.mem_of_mem_take hu)) (by omega) (by decide) ?_; intro v1 w1' ho hk hn; rw [show 0 + j = j by omega] at ho; have A1 := App.next (w := wq) ⟨World.ownsRow_nil _ 0 9 1, Keep.refl _ _, fun g hg => by simp [Value.ownBlock] at hg⟩ (Keep.refl _ _) ho hk hn; have n1 := A1.keep.cell HI.out.2.1 (fun x => x); have nl := Nat.lt_of_lt_of_le HI.out.2.2.1 A1.keep.size; have A1 := Lib.hid A1; clear ho hk hn xl x0 x1 x2 x3)
                      | (at_builtin; refine wpList_app_rd rfl (.tmp 81) (.tmp 86) 22 rfl E9 v1 j ([] ++ (strs (l.map (·.1))).take (j * 1)) rfl (A1.out.own.alloc _) (.slice (some ⟨w1'.heap.size, 0, none⟩) 1 1) 1 [.string s] rfl (Rd.of_at (X := fun _ => False) (At.new w1' 9 #[.string s]) (fun x => x) rfl (Nat.le_refl _)) (by simp [Value.oneCell']) (by omega) (by decide) ?_; intro v2 w2' ho hk hn; have A2 := App.next A1.out ((Keep.refl _ w1').alloc _) ho hk hn; obtain ⟨xl, x0, x1, x2, x3⟩ := (A2.keep.at_ HI.out.1.box (fun x => x)).tcells; have A2 := Lib.hid A2; clear ho hk hn n1 nl)
                      | (at_builtin; refine wpList_app_rd rfl (.tmp 88) (.tmp 92) 22 rfl E9 v2 (j + 1) ([] ++ (strs (l.map (·.1))).take (j * 1) ++ [.string s]) rfl A2.out.own (.slice (Option.map (fun x => x.add j) A) (i - j) (c - j)) (i - j) ((strs (l.map (·.1))).drop (j * 1)) (by rfl) (Rd.none_ (X := fun _ => False) HM0.out.1 HM0.out.2.1) (fun u hu => strs_one _ u (List.mem_of_mem_drop hu)) (by omega) (by decide) ?_; intro v3 w3' ho hk hn; rw [show j + 1 + (i - j) = i + 1 by omega, ins_strs (t := kd)] at ho; have A3 := App.next A2.out (Keep.refl _ _) ho hk hn; obtain ⟨N3, c3, rfl⟩ := own_slice A3.own; obtain ⟨xl, x0, x1, x2, x3⟩ := (A3.keep.at_ HI.out.1.box (fun x => x)).tcells; have A3 := Lib.hid A3; clear ho hk hn)
                      | (at_builtin; refine wpList_app_rd rfl (.const (.slice none 0 0)) (.tmp 97) 23 rfl E25 (.slice none 0 0) 0 [] rfl (World.ownsRow_nil _ 0 25 4) (.slice A' j c') j ((tflat rs').take (j * 4)) rfl ((HI.out.1.kds.cutL hjle).keep (Y := fun _ => False) A3.out.keep (fun _ x => x.elim)) (fun u hu => tflat_one _ u (List.mem_of_mem_take hu)) (by omega) (by decide) ?_; intro v4 w4' ho hk hn; rw [show 0 + j = j by omega] at ho; have B4 := App.next (wb := wq) (w := w3') ⟨World.ownsRow_nil _ 0 25 4, A3.out.keep, fun g hg => by simp [Value.ownBlock] at hg⟩ (Keep.refl _ _) ho hk hn; have A4 := Lib.hid (A3.out.off (hk.mono (Y := fun _ => False) (fun _ _ hx => by simp [Value.ownBlock] at hx)) (fun _ x => x.elim) (fun _ _ x => x)); have n0 := B4.keep.cell HI.out.2.2.2.1 (fun x => x); have n1 := B4.keep.cell HI.out.2.2.2.2.1 (fun x => x); have n2 := B4.keep.cell HI.out.2.2.2.2.2.1 (fun x => x); have n3 := B4.keep.cell HI.out.2.2.2.2.2.2.1 (fun x => x); have nl := Nat.lt_of_lt_of_le HI.out.2.2.2.2.2.2.2 B4.keep.size; have B4 := Lib.hid B4; clear ho hk hn xl x0 x1 x2 x3)
                      | (at_builtin; refine wpList_app_rd rfl (.tmp 99) (.tmp 104) 23 rfl E25 v4 j ([] ++ (tflat rs').take (j * 4)) rfl (B4.out.own.alloc _) (.slice (some ⟨w4'.heap.size, 0, none⟩) 1 1) 1 [.int .i64 qk, .string qnm, .slice qAn qnn qcn, .slice qAk qnk qck] rfl (Rd.of_at (X := fun _ => False) (At.new w4' 25 #[.int .i64 qk, .string qnm, .slice qAn qnn qcn, .slice qAk qnk qck]) (fun x => x) rfl (Nat.le_refl _)) (by simp [Value.oneCell']) (by omega) (by decide) ?_; intro v5 w5' ho hk hn; have B5 := App.next B4.out ((Keep.refl _ w4').alloc _) ho hk hn; have A5 := Lib.hid ((A4.out.off ((Keep.refl (fun _ => False) w4').alloc (.cells #[.int .i64 qk, .string qnm, .slice qAn qnn qcn, .slice qAk qnk qck] 25)) (fun _ x => x.elim) (fun _ _ x => x)).off hk (fun g hg => B4.out.new g hg) (fun g hg hx => row_ne A4.out.own B4.out.own (by decide) hg hx)); obtain ⟨xl, x0, x1, x2, x3⟩ := (B5.keep.at_ HI.out.1.box (fun x => x)).tcells; have B5 := Lib.hid B5; clear ho hk hn n0 n1 n2 n3 nl)
                      | (at_builtin; refine wpList_app_rd rfl (.tmp 106) (.tmp 110) 23 rfl E25 v5 (j + 1) ([] ++ (tflat rs').take (j * 4) ++ [.int .i64 qk, .string qnm, .slice qAn qnn qcn, .slice qAk qnk qck]) rfl B5.out.own (.slice (Option.map (fun x => x.add (j * 4)) A') (i - j) (c' - j)) (i - j) ((tflat rs').drop (j * 4)) (by rfl) (Rd.none_ (X := fun _ => False) HM0.out.1 HM0.out.2.2) (fun u hu => tflat_one _ u (List.mem_of_mem_drop hu)) (by omega) (by decide) ?_; intro v6 w6' ho hk hn; rw [show j + 1 + (i - j) = i + 1 by omega, show ([.int .i64 qk, .string qnm, .slice qAn qnn qcn, .slice qAk qnk qck] : List Value) = Tv.vals ⟨qk, qnm, qAn, qnn, qcn, qAk, qnk, qck⟩ from rfl, ins_kids] at ho; have B6 := App.next B5.out (Keep.refl _ _) ho hk hn; have A6 := Lib.hid (A5.out.off hk (fun g hg => B5.out.new g hg) (fun g hg hx => row_ne A5.out.own B5.out.own (by decide) hg hx)); obtain ⟨N6, c6, rfl⟩ := own_slice B6.own; clear xl x0 x1 x2 x3; have bx := B6.keep.at_ HI.out.1.box (fun x => x); obtain ⟨xl, x0, x1, x2, x3⟩ := bx.tcells; have f2 := bx.frozen 2; have f3 := bx.frozen 3; have B6 := Lib.hid B6; clear ho hk hn bx))
                    go_roundg (n - (i + 1))
                    case measure => omega
                    case rel =>
                      exact ⟨i + 1, _, N3, N6, c3, c6, _, by go_num, by omega, rfl, HR.out.1.put ((k3h.out).trans HKQ.out (fun _ _ x => x)) H.out.2.2.2.1 HR.out.2.2.2.1 HR.out.2.1 HR.out.2.2.1 HNB.out (by omega) HS.out.1 (fun z hz => by have := (List.getElem?_eq_some_iff.1 hz).1; have := HS.out.2.2.2; omega) (.inr (.inr rfl)) A6.out B6.out rfl⟩
        · have hie : i = n := by omega
          subst hie
          have HF := Lib.hid (And.intro hR (And.intro (hR.keep.at_ H.out.2.1 (fun e => by have := HRE.out; omega)) (H.out.1.weak hR.keep (fun g hg => by have := HRE.out; omega))))
          obtain ⟨tl, t0, t1, t2, t3⟩ := hR.box.tcells
          obtain ⟨rl, r0, r1, r2, r3⟩ := HF.out.2.1.tcells
          have rf0 := HF.out.2.1.frozen 0
          have rf1 := HF.out.2.1.frozen 1
          have rf2 := HF.out.2.1.frozen 2
          have rf3 := HF.out.2.1.frozen 3
          clear hR
          go_wp2_with fail
          (try simp only [Exit.inBlock, Exit.then])
          refine bodyPost_ret (ret_cell rfl rfl ((((HF.out.2.1.set 0 _).set 1 _).set 2 _).set 3 _)) rfl ?_
          have hs4 := Keep.set4 (Keep.refl (fun g => g = rb) wr) (.inl rfl) (.int .i64 5) (.string ⟨#[]⟩) (.slice A i c) (.slice A' i c')
          have hnb16 : i ≤ 140737488355328 := by omega
          have hl2 : (l.map (·.1)).length = i := by simp [hll]
          have hl3 : (l.map (·.2)).length = i := by simp [hll]
          have hty : TyV _ X ⟨5, ⟨#[]⟩, A, i, c, A', i, c'⟩ (recOf l) := (TyV.mk (t := recOf l) (X := (fun g => X g ∨ g = rb ∨ g = tb)) ⟨rfl, hnb16, hnb16⟩ rfl hl2.symm HF.out.1.nms hl3.symm HF.out.1.kds HF.out.1.tys).keep hs4 (fun _ _ hg => by rw [hg]; exact .inr (.inl rfl)) (fun _ _ hx => .inl hx)
          exact ⟨OptP.yes (HF.out.1.inv.fin' (by omega) (by omega) (by omega)) hty, HF.out.2.2.weak hs4 (fun g hg => by have := HRE.out; omega)⟩
  · have d1 : ((n : Int) == (m : Int)) = false := by rw [beq_eq_false_iff_ne]; omega
    have d1' : ((n : Int) != (m : Int)) = true := by simp [bne, d1]
    have hno : recT names kids = none := recT_none (.inl (by omega))
    have HNO := Lib.hid hno
    clear hno hn hm
    go_enter Tryd.func38, Tryd.ntmps38
    go_upto_region 3 with fail
    obtain ⟨rl, r0, r1, r2, r3⟩ := H.out.2.1.tcells
    obtain ⟨tl, t0, t1, t2, t3⟩ := H.out.2.2.1.tcells
    have rf := H.out.2.1.frozen
    have rf0 := rf 0
    have rf1 := rf 1
    have rf2 := rf 2
    have rf3 := rf 3
    clear rf
    have HF := Lib.hid (And.intro H.out.1 H.out.2.1)
    clear H
    generalize ((w.alloc (.cells #[.int .i64 0, .string ⟨#[]⟩, .slice none 0 0, .slice none 0 0] 25)).alloc (.cells #[.int .i64 5, .string ⟨#[]⟩, .slice none 0 0, .slice none 0 0] 25)) = w1 at *
    go_wp2_with fail
    (try simp only [Exit.inBlock, Exit.then])
    refine bodyPost_ret (ret_cell rfl rfl ((((HF.out.2.set 0 _).set 1 _).set 2 _).set 3 _)) rfl ?_
    exact ⟨OptP.no HNO.out ⟨5, ⟨#[]⟩, none, 0, 0, none, 0, 0⟩, Keep.set4 HF.out.1 (.inr (Nat.le_refl _)) _ _ _ _⟩
end Go.Proofs.YtomhhpjpmlpijaaDoor
