/-
  Walk: graduslaw08.awake. Conditions: the table strings.asciiSpace lies as the program lays it.
-/
import Derived.Test.YtbanpohholnkaaaDoorWMap
import Derived.Test.YtbanpohholnkaaaDoorNormB
import Derived.Test.YtbanpohholnkaaaDoorWords
import Derived.Laws.Cover3
import Derived.Test.YtbanpohholnkaaaDoorNormT
import Derived.Test.YtbanpohholnkaaaDoorWUnion
import Derived.Test.YtbanpohholnkaaaDoorWNormF
import Derived.Test.YtbanpohholnkaaaDoorLitsR
import Derived.Test.YtbanpohholnkaaaDoorWFew
import Derived.Test.YtbanpohholnkaaaDoorWRSame
namespace Go.Proofs.YtbanpohholnkaaaDoor
open Go.RowKit

theorem own_set {w : World} {e : TypeId} {size n c g j : Nat} {xs : List Value} (h : w.ownsRow 0 e size (.slice (some ⟨g, 0, none⟩) n c) n xs) (_ : j < n * size) (u : Value) : (w.setCell ⟨g, j, none⟩ u).ownsRow 0 e size (.slice (some ⟨g, 0, none⟩) n c) n (xs.set j u) := by
  obtain ⟨hl, h⟩ := h
  refine ⟨by simpa using hl, ?_⟩
  rcases h with ⟨h1, _⟩ | ⟨g', cap, cur, h1, h2, h3, h4, h5, h6, h7⟩
  · cases h1
  · simp only [Value.slice.injEq, Option.some.injEq, Addr.mk.injEq, and_true, true_and] at h1
    obtain ⟨rfl, rfl⟩ := h1
    refine .inr ⟨g, c, cur.setIfInBounds j u, rfl, h2, ?_, h4, h5, by simpa using h6, ?_⟩
    · have : At (w.setCell ⟨g, j, none⟩ u) g e (cur.setIfInBounds j u) := At.set (show At w g e cur from h3) j u
      exact this
    · rw [← h7]
      simp only [Array.toList_setIfInBounds]
      rw [List.take_set]
theorem tflat_set {rs : List Tv} {i : Nat} (hi : i < rs.length) (q : Tv) : tflat (rs.set i q) = ((((tflat rs).set (i * 4) (.int .i64 q.k)).set (i * 4 + 1) (.string q.nm)).set (i * 4 + 2) (.slice q.An q.nn q.cn)).set (i * 4 + 3) (.slice q.Ak q.nk q.ck) := by
  induction rs generalizing i with
  | nil => simp at hi
  | cons r rs ih =>
    cases i with
    | zero => simp [tflat, Tv.vals]
    | succ i =>
      have := ih (i := i) (by simpa using hi)
      have e0 : (i + 1) * 4 = i * 4 + 1 + 1 + 1 + 1 := by omega
      simp only [List.set_cons_succ, tflat, List.flatMap_cons] at this ⊢
      rw [this]
      simp [Tv.vals, e0]
theorem own_set4 {w : World} {e : TypeId} {n c g i : Nat} {rs : List Tv} (h : w.ownsRow 0 e 4 (.slice (some ⟨g, 0, none⟩) n c) n (tflat rs)) (hi : i < n) (q : Tv) :
    ((((w.setCell ⟨g, i * 4, none⟩ (.int .i64 q.k)).setCell ⟨g, i * 4 + 1, none⟩ (.string q.nm)).setCell ⟨g, i * 4 + 2, none⟩ (.slice q.An q.nn q.cn)).setCell ⟨g, i * 4 + 3, none⟩ (.slice q.Ak q.nk q.ck)).ownsRow 0 e 4 (.slice (some ⟨g, 0, none⟩) n c) n (tflat (rs.set i q)) := by
  have hl : rs.length = n := by
    have := h.1
    rw [tflat_length] at this
    omega
  rw [tflat_set (by omega)]
  exact own_set (own_set (own_set (own_set h (by omega) _) (by omega) _) (by omega) _) (by omega) _
theorem Keep.sets4 {X : Nat → Prop} {a w : World} {b o : Nat} (h : Keep X a w) (hp : X b ∨ a.heap.size ≤ b) (v0 v1 v2 v3 : Value) : Keep X a ((((w.setCell ⟨b, o, none⟩ v0).setCell ⟨b, o + 1, none⟩ v1).setCell ⟨b, o + 2, none⟩ v2).setCell ⟨b, o + 3, none⟩ v3) :=
  Keep.setCell (X := X) (Keep.setCell (X := X) (Keep.setCell (X := X) (Keep.setCell (X := X) h hp _) hp _) hp _) hp _
theorem tflat_cells {rs : List Tv} : ∀ u ∈ tflat rs, u.oneCell' = true := fun u hu => by
  unfold tflat at hu
  obtain ⟨r, _, hr⟩ := List.mem_flatMap.1 hu
  simp only [Tv.vals, List.mem_cons, List.not_mem_nil, or_false] at hr
  rcases hr with rfl | rfl | rfl | rfl <;> rfl
theorem run_eql_slice_nil {P : Program} (w : World) (t e : TypeId) (a : Option Addr) (l c : Nat) (h : P.underlying t = some (.slice e)) : (binOp .eql t (.slice a l c) (.slice none 0 0)).run P w = .ok (.bool a.isNone) w := by
  simp only [binOp]
  simp [run_equal_slice_nil w t e a l c h]
set_option maxRecDepth 100000 in
set_option maxHeartbeats 2000000 in
theorem clone_any {w : World} {X : Nat → Prop} {A : Option Addr} {n c : Nat} {rs : List Tv} (hn : n ≤ 1099511627776) (h : Rd w X 4 (.slice A n c) n (tflat rs)) :
    Calls Tryd.prog 63 #[.slice A n c] w fun e w' => (∃ (Al : Option Addr) (cl : Nat), e = .returned (.slice Al n cl) ∧ w'.ownsRow 0 25 4 (.slice Al n cl) n (tflat rs) ∧ ∀ g, (Value.slice Al n cl).ownBlock = some g → w.heap.size ≤ g) ∧ Keep (fun _ => False) w w' := by
  rcases A with _ | ad
  · have hn0 : n = 0 := by
      obtain ⟨_, A, cap, hv, _, hr⟩ := h
      rcases Nat.eq_zero_or_pos n with h0 | h0
      · exact h0
      · obtain ⟨b, o, hA, _⟩ := hr h0
        simp only [Value.slice.injEq] at hv
        rw [← hv.1] at hA
        cases hA
    subst hn0
    have hxs : tflat rs = [] := List.eq_nil_of_length_eq_zero (by simpa using h.1)
    rw [hxs]
    clear h hxs
    have hq := fun w' => run_eql_slice_nil w' _ _ none 0 c Tryd.underlying23
    simp only [Option.isNone_none] at hq
    go_enter Tryd.func63, Tryd.ntmps63
    go_wp2
    go_ret
    exact ⟨⟨none, 0, rfl, World.ownsRow_nil _ 0 _ 4, fun g hg => by simp [Value.ownBlock] at hg⟩, Keep.refl _ _⟩
  · have hk : Keep (fun _ => False) w (w.alloc (.cells #[] 25)) := (Keep.refl _ w).alloc _
    have hr := h.keep hk (fun _ x => x.elim)
    have hown : (w.alloc (.cells #[] 25)).ownsRow 0 25 4 (.slice (some ⟨w.heap.size, 0, none⟩) 0 0) 0 [] := ⟨by simp, .inr ⟨w.heap.size, 0, #[], rfl, Nat.zero_le _, At.new w 25 #[], Nat.le_refl _, Nat.zero_le _, by simp, by simp⟩⟩
    have HH := Lib.hid (And.intro hk (And.intro hr hown))
    have hbig : 0 + n ≤ 1099511627776 := by omega
    clear h hk hr hown
    have hq := fun w' => run_eql_slice_nil w' _ _ (some ad) n c Tryd.underlying23
    simp only [Option.isNone_some] at hq
    go_enter Tryd.func63, Tryd.ntmps63
    go_wp2_with (at_builtin; refine wpList_app_rd rfl (.tmp 5) (.tmp 6) 23 rfl E25 (.slice (some ⟨w.heap.size, 0, none⟩) 0 0) 0 [] rfl HH.out.2.2 (X := X) (.slice (some ad) n c) n (tflat rs) rfl HH.out.2.1 tflat_cells hbig (by decide) ?_)
    intro v' w5 ho hk5 hg5
    have H5 := Lib.hid (And.intro ho (And.intro hk5 hg5))
    clear ho hk5 hg5
    go_wp2_with fail
    go_ret
    obtain ⟨ho, hk5, hg5⟩ := H5.out
    obtain ⟨Al, cl, rfl⟩ := own_slice ho
    refine ⟨⟨Al, cl, rfl, ho, fun g hg => ?_⟩, HH.out.1.weak hk5 (fun i hi => by simp only [Value.ownBlock, Option.some.injEq] at hi; omega)⟩
    rcases hg5 g hg with e | e
    · simp only [Value.ownBlock, Option.some.injEq] at e
      omega
    · omega
end Go.Proofs.YtbanpohholnkaaaDoor

namespace Go.Proofs.YtbanpohholnkaaaDoor

mutual
/-- A type with what f says in the place of its variables. -/
def replT (f : ByteArray → Option Ty) : Ty → Option Ty
  | .mk k nm ns ks => if k = 8 then (if ns.length + ks.length = 0 then f nm else none) else (replL f ks).map fun l => .mk k nm ns l
def replL (f : ByteArray → Option Ty) : List Ty → Option (List Ty)
  | [] => some []
  | t :: ts => (replT f t).bind fun u => (replL f ts).map fun l => u :: l
end
theorem replT_eq (f : ByteArray → Option Ty) (t : Ty) : replT f t = if t.kind = 8 then (if t.names.length + t.kids.length = 0 then f t.name else none) else (replL f t.kids).map fun l => .mk t.kind t.name t.names l := by
  cases t with
  | mk k nm ns ks =>
    rw [replT]
    rfl
theorem replL_append (f : ByteArray → Option Ty) (a b : List Ty) : replL f (a ++ b) = (replL f a).bind fun l => (replL f b).map fun m => l ++ m := by
  induction a with
  | nil => simp [replL]
  | cons t a ih =>
    simp only [List.cons_append, replL, ih]
    cases replT f t with
    | none => rfl
    | some u =>
      cases replL f a with
      | none => rfl
      | some l => cases replL f b <;> rfl
theorem replL_snoc (f : ByteArray → Option Ty) (a : List Ty) (t : Ty) : replL f (a ++ [t]) = (replL f a).bind fun l => (replT f t).map fun u => l ++ [u] := by
  rw [replL_append]
  simp only [replL, Option.map_some]
  cases replL f a with
  | none => rfl
  | some l => cases replT f t <;> rfl
theorem replL_none {f : ByteArray → Option Ty} {l : List Ty} {i : Nat} {t : Ty} (h : l[i]? = some t) (hn : replT f t = none) : replL f l = none := by
  induction l generalizing i with
  | nil => simp at h
  | cons x l ih =>
    cases i with
    | zero =>
      simp only [List.getElem?_cons_zero, Option.some.injEq] at h
      subst h
      simp only [replL, hn]
      rfl
    | succ i =>
      simp only [List.getElem?_cons_succ] at h
      simp only [replL, ih h]
      cases replT f x <;> rfl
theorem replL_length {f : ByteArray → Option Ty} {l m : List Ty} (h : replL f l = some m) : m.length = l.length := by
  induction l generalizing m with
  | nil =>
    simp only [replL, Option.some.injEq] at h
    subst h
    rfl
  | cons x l ih =>
    simp only [replL] at h
    cases hx : replT f x with
    | none => rw [hx] at h; cases h
    | some u =>
      rw [hx] at h
      cases hl : replL f l with
      | none => rw [hl] at h; cases h
      | some r =>
        rw [hl] at h
        simp only [Option.bind_some, Option.map_some, Option.some.injEq] at h
        subst h
        simp [ih hl]
theorem replL_take {f : ByteArray → Option Ty} {l m : List Ty} {i : Nat} {t u : Ty} (h : replL f (l.take i) = some m) (ht : l[i]? = some t) (hu : replT f t = some u) : replL f (l.take (i + 1)) = some (m ++ [u]) := by
  rw [List.take_add_one, ht]
  simp only [Option.toList_some]
  rw [replL_snoc, h, hu]
  rfl
/-- What stands for a variable. -/
def lookT (vs : List ByteArray) (ws : List Ty) (s : ByteArray) : Option Ty := ((vs.zip ws).find? fun p => decide (p.1 = s)).map (·.2)
/-- A written type with types in the place of its variables: the type, and the error. -/
noncomputable def resolveT (vs : List ByteArray) (ws : List Ty) (t : Ty) : Option Ty × Int :=
  if vs.length ≠ ws.length then (none, 1)
  else if 200 < t.size ∨ 16 < t.ht then (none, 9)
  else match replT (lookT vs ws) t with
    | none => (none, 9)
    | some r => match NormT r with
      | none => (none, 9)
      | some n => (some n, 0)
end Go.Proofs.YtbanpohholnkaaaDoor

namespace Go.Proofs.YtbanpohholnkaaaDoor
open Go.RowKit

/-- Block b is a map of types, in which f finds. -/
structure MapT (w : World) (X : Nat → Prop) (b : Nat) (f : ByteArray → Option Ty) (l : List (ByteArray × Tv × Ty)) : Prop where
  map : MapS w b (l.map fun p => (p.1, p.2.1.val))
  tys : ∀ p ∈ l, TyV w X p.2.1 p.2.2
  eq : ∀ s, (l.find? fun p => decide (p.1 = s)).map (·.2.2) = f s
theorem MapT.step {w w' : World} {X : Nat → Prop} {b : Nat} {f : ByteArray → Option Ty} {l : List (ByteArray × Tv × Ty)} (h : MapT w X b f l) (k : Keep (fun _ => False) w w') : MapT w' X b f l := ⟨h.map.step k, fun p hp => (h.tys p hp).step k, h.eq⟩
theorem MapT.keep {w w' : World} {X Y Z : Nat → Prop} {b : Nat} {f : ByteArray → Option Ty} {l : List (ByteArray × Tv × Ty)} (h : MapT w X b f l) (k : Keep Y w w') (hb : ¬ Y b) (hY : ∀ i, i < w.heap.size → Y i → X i) (hZ : ∀ i, i < w.heap.size → Z i → X i) : MapT w' Z b f l :=
  ⟨h.map.keep k hb, fun p hp => (h.tys p hp).keep k hY hZ, h.eq⟩
theorem zeroT (w : World) : (zeroValue 25).run Tryd.prog w = .ok (.agg #[.int .i64 0, .string ⟨#[]⟩, .slice none 0 0, .slice none 0 0]) w := by kernel_rfl
theorem MapT.look {w : World} {X : Nat → Prop} {b : Nat} {f : ByteArray → Option Ty} {l : List (ByteArray × Tv × Ty)} (h : MapT w X b f l) (s : ByteArray) :
    (f s = none ∧ ∀ w', MapS w' b (l.map fun p => (p.1, p.2.1.val)) → (Instr.lookup 55 (.map (some b)) (.string s) true).run Tryd.prog w' = .ok (.tuple #[.agg #[.int .i64 0, .string ⟨#[]⟩, .slice none 0 0, .slice none 0 0], .bool false]) w') ∨
    ∃ (q : Tv) (u : Ty), f s = some u ∧ TyV w X q u ∧ ∀ w', MapS w' b (l.map fun p => (p.1, p.2.1.val)) → (Instr.lookup 55 (.map (some b)) (.string s) true).run Tryd.prog w' = .ok (.tuple #[q.val, .bool true]) w' := by
  have hf := h.eq s
  have hfind : ((l.map fun p => (p.1, p.2.1.val)).find? fun p => decide (p.1 = s)) = (l.find? fun p => decide (p.1 = s)).map fun p => (p.1, p.2.1.val) := by
    rw [List.find?_map]
    rfl
  have hrun := fun (w' : World) (hm : MapS w' b (l.map fun p => (p.1, p.2.1.val))) => run_lookS hm Tryd.underlying55 Tryd.underlying9 (zeroT w') s
  cases hc : (l.find? fun p => decide (p.1 = s)) with
  | none =>
    rw [hc] at hf hfind
    refine .inl ⟨hf.symm, fun w' hm => ?_⟩
    rw [hrun w' hm, hfind]
    rfl
  | some p =>
    rw [hc] at hf hfind
    refine .inr ⟨p.2.1, p.2.2, hf.symm, h.tys p (List.mem_of_find?_eq_some hc), fun w' hm => ?_⟩
    rw [hrun w' hm, hfind]
    rfl
/-- What may be written while a type's kids are replaced. -/
def RpX (X : Nat → Prop) (lv : Value) (bx rb : Nat) : Nat → Prop := fun j => X j ∨ lv.ownBlock = some j ∨ j = bx ∨ j = rb
/-- The loop over the kids: some are replaced already. -/
structure RpR (w1 wr : World) (X : Nat → Prop) (f : ByteArray → Option Ty) (ks : List Ty) (rs : List Tv) (lv : Value) (n i bx rb : Nat) (rc : List Tv) (l : List Ty) : Prop where
  keep : Keep (fun j => lv.ownBlock = some j) w1 wr
  own : wr.ownsRow 0 25 4 lv n (tflat rc)
  len : rc.length = rs.length
  rest : ∀ j, i ≤ j → rc[j]? = rs[j]?
  tys : TysV wr (RpX X lv bx rb) (rc.take i) l
  eq : replL f (ks.take i) = some l
def RpA (w1 : World) (X : Nat → Prop) (f : ByteArray → Option Ty) (ks : List Ty) (rs : List Tv) (lv : Value) (n bx rb : Nat) (k : Nat) (b : Value) (wr : World) : Prop :=
  ∃ (i : Nat) (rc : List Tv) (l : List Ty), b = .int .i64 i ∧ i ≤ n ∧ k = n - i ∧ RpR w1 wr X f ks rs lv n i bx rb rc l
theorem RpR.next {w1 wr w2 : World} {X : Nat → Prop} {f : ByteArray → Option Ty} {ks : List Ty} {rs : List Tv} {g n c i bx rb : Nat} {rc : List Tv} {l : List Ty} {s u : Ty} {p : Tv} {o : Obj} (h : RpR w1 wr X f ks rs (.slice (some ⟨g, 0, none⟩) n c) n i bx rb rc l) (hi : i < n) (hn : rs.length = n)
    (hk : Keep (fun _ => False) wr w2) (hs : ks[i]? = some s) (hu : replT f s = some u) (hp : TyV w2 (RpX X (.slice (some ⟨g, 0, none⟩) n c) bx rb) p u) :
    RpR w1 (((((w2.setCell ⟨g, i * 4, none⟩ (.int .i64 p.k)).setCell ⟨g, i * 4 + 1, none⟩ (.string p.nm)).setCell ⟨g, i * 4 + 2, none⟩ (.slice p.An p.nn p.cn)).setCell ⟨g, i * 4 + 3, none⟩ (.slice p.Ak p.nk p.ck)).alloc o) X f ks rs (.slice (some ⟨g, 0, none⟩) n c) n (i + 1) bx rb (rc.set i p) (l ++ [u]) := by
  have hs4 := Keep.sets4 (o := i * 4) (Keep.refl (fun j => j = g) w2) (.inl rfl) (.int .i64 p.k) (.string p.nm) (.slice p.An p.nn p.cn) (.slice p.Ak p.nk p.ck)
  have hal := hs4.alloc o
  refine ⟨?_, ?_, by simp [h.len], fun j hj => ?_, ?_, replL_take h.eq hs hu⟩
  · refine (h.keep.trans hk (fun _ _ x => x.elim)).trans hal (fun j _ hj => ?_)
    subst hj
    rfl
  · exact (own_set4 (hk.own h.own (fun _ _ x => x)) hi p).alloc o
  · rw [List.getElem?_set]
    rw [if_neg (by omega)]
    exact h.rest j (by omega)
  · have hlen : rc.length = n := by rw [h.len]; exact hn
    have e : (rc.set i p).take (i + 1) = rc.take i ++ [p] := by
      rw [List.take_add_one, List.getElem?_set_self (by omega), List.take_set_of_le (Nat.le_refl _)]
      rfl
    rw [e]
    exact ((h.tys.step hk).snoc hp).keep hal (fun j _ hj => .inr (.inl (by subst hj; rfl))) (fun _ _ hx => hx)
theorem own_cur {w : World} {e : TypeId} {size n c g : Nat} {xs : List Value} (h : w.ownsRow 0 e size (.slice (some ⟨g, 0, none⟩) n c) n xs) : ∃ cur, At w g e cur := by
  rcases h.2 with ⟨h1, _⟩ | ⟨g', cap, cur, h1, _, h3, _⟩
  · cases h1
  · simp only [Value.slice.injEq, Option.some.injEq, Addr.mk.injEq, and_true, true_and] at h1
    obtain ⟨rfl, rfl⟩ := h1
    exact ⟨cur, h3⟩
theorem rw_sum (a b : Nat) (ha : a ≤ 140737488355328) (hb : b ≤ 140737488355328) : wrap64 ((a : Int) + (b : Int)) = (a : Int) + (b : Int) := by unfold wrap64; omega
theorem rw_sum' (a b : Nat) (ha : a ≤ 140737488355328) (hb : b ≤ 140737488355328) : IntKind.i64.wrap ((a : Int) + (b : Int)) = (a : Int) + (b : Int) := by rw [IntKind.wrap_i64]; omega
theorem OptP.any {X : Nat → Prop} {o : Option Ty} {w : World} {q : Tv} {bl : Bool} (h : match o with | none => bl = false | some u => bl = true ∧ TyV w X q u) : OptP X o (.returned (.tuple #[q.val, .bool bl])) w := by
  cases o with
  | none =>
    simp only at h
    subst h
    exact OptP.no rfl q
  | some u =>
    obtain ⟨rfl, h2⟩ := h
    exact OptP.yes rfl h2
set_option maxRecDepth 100000 in
set_option maxHeartbeats 8000000 in
/-- A variable. -/
theorem repl_var {f : ByteArray → Option Ty} {t : Ty} {w : World} {X : Nat → Prop} {r : Tv} {mb : Nat} {l : List (ByteArray × Tv × Ty)} (_ : ∀ i, X i → i < w.heap.size) (_ : t.size ≤ 1000) (h8 : t.kind = 8) (hm : MapT w X mb f l) (h : TyV w X r t) :
    Calls Tryd.prog 41 #[r.val, .map (some mb)] w fun e w' => OptP X (replT f t) e w' ∧ Keep (fun _ => False) w w' := by
  have hres : replT f t = if t.names.length + t.kids.length = 0 then f t.name else none := by rw [replT_eq, if_pos h8]
  have hnn : r.nn = t.names.length := h.out.2.2.1
  have hnk : r.nk = t.kids.length := by obtain ⟨_, _, _, _, rs, h5, _⟩ := h.out; exact h5
  have hnb : r.nn ≤ 140737488355328 := h.out.1.2.1
  have hkb : r.nk ≤ 140737488355328 := h.out.1.2.2
  have hkk := h.knd
  have hnmE : r.nm = t.name := h.out.2.1
  obtain ⟨k, nm, An, nn, cn, Ak, nk, ck⟩ := r
  simp only at hnn hnk hnb hkb hkk hnmE
  rw [← hnn, ← hnk, ← hnmE] at hres
  obtain rfl : k = 8 := hkk.trans h8
  clear hnn hnk hkk hnmE
  have kw : Keep (fun _ => False) w ((w.alloc (.cells #[.int .i64 8, .string nm, .slice An nn cn, .slice Ak nk ck] 25)).alloc (.cells #[.int .i64 0, .string ⟨#[]⟩, .slice none 0 0, .slice none 0 0] 25)) := ((Keep.refl _ w).alloc _).alloc _
  have hmm := hm.map.step kw
  have a1 : At ((w.alloc (.cells #[.int .i64 8, .string nm, .slice An nn cn, .slice Ak nk ck] 25)).alloc (.cells #[.int .i64 0, .string ⟨#[]⟩, .slice none 0 0, .slice none 0 0] 25)) (w.heap.size + 1) 25 #[.int .i64 0, .string ⟨#[]⟩, .slice none 0 0, .slice none 0 0] := At.new_at (by simp)
  rcases hm.look nm with ⟨hf, hrun⟩ | ⟨⟨qk, qnm, qAn, qnn, qcn, qAk, qnk, qck⟩, u, hf, hq, hrun⟩
  · have hrun := hrun _ hmm
    have hout : replT f t = none := by rw [hres, hf]; split <;> rfl
    have HO := Lib.hid (And.intro hout (And.intro kw a1))
    unfold Tv.val
    simp only
    clear hf hres h hm hmm hout kw a1 hnb hkb
    go_enter Tryd.func41, Tryd.ntmps41
    go_upto_region 3 with fail
    refine gen_world ?_
    intro W2 hW2
    have k2 : Keep (fun _ => False) ((w.alloc (.cells #[.int .i64 8, .string nm, .slice An nn cn, .slice Ak nk ck] 25)).alloc (.cells #[.int .i64 0, .string ⟨#[]⟩, .slice none 0 0, .slice none 0 0] 25)) W2 := by rw [hW2]; exact (Keep.refl _ _).alloc _
    have b0 : At W2 w.heap.size 25 #[.int .i64 8, .string nm, .slice An nn cn, .slice Ak nk ck] := by rw [hW2]; exact ((At.new_at (by simp)).alloc _).alloc _
    have b2 : At W2 (w.heap.size + 1 + 1) 25 #[.int .i64 0, .string ⟨#[]⟩, .slice none 0 0, .slice none 0 0] := by rw [hW2]; exact At.new_at (by simp)
    clear hW2 hrun
    have b1 := k2.at_ HO.out.2.2 (fun x => x)
    have hn1 : ¬ w.heap.size = w.heap.size + 1 := by omega
    have hn2 : ¬ w.heap.size + 1 + 1 = w.heap.size + 1 := by omega
    have HK := Lib.hid (And.intro (HO.out.2.1.trans k2 (fun _ _ x => x)) b1)
    obtain ⟨x0l, x00, x01, x02, x03⟩ := b0.tcells
    obtain ⟨x1l, x10, x11, x12, x13⟩ := b1.tcells
    obtain ⟨x2l, x20, x21, x22, x23⟩ := b2.tcells
    have f0 := b1.frozen 0
    have f1 := b1.frozen 1
    have f2 := b1.frozen 2
    have f3 := b1.frozen 3
    clear b0 b1 b2 k2
    generalize hrb : w.heap.size + 1 = rb at *
    generalize rb + 1 = zb at *
    generalize hbx : w.heap.size = bx at *
    have HRE := Lib.hid (show w.heap.size ≤ rb by omega)
    clear hbx hrb
    go_region
    go_wp2_with fail
    (try simp only [Exit.inBlock, Exit.then])
    refine bodyPost_ret (ret_cell rfl rfl (((((HK.out.2.set 0 _).set 1 _).set 2 _).set 3 _).drew)) rfl ?_
    exact ⟨OptP.no HO.out.1 tv0, (HK.out.1.weak (Keep.set4 (Keep.refl (fun j => j = rb) W2) (.inl rfl) (.int .i64 0) (.string ⟨#[]⟩) (.slice none 0 0) (.slice none 0 0)) (fun j hj => by rw [hj]; exact HRE.out)).drew⟩
  · have hrun := hrun _ hmm
    unfold Tv.val at hrun
    simp only at hrun
    by_cases hz : nn + nk = 0
    · have hout : replT f t = some u := by rw [hres, if_pos hz, hf]
      have e0 := rw_sum nn nk hnb hkb
      have e1 := rw_sum' nn nk hnb hkb
      have e2 : ((nn : Int) + (nk : Int) == 0) = true := by rw [beq_iff_eq]; omega
      have HO := Lib.hid (And.intro hout (And.intro kw a1))
      have HQ := Lib.hid hq
      unfold Tv.val
      simp only
      clear hf hres h hm hmm hout kw a1 hq hnb hkb hz
      go_enter Tryd.func41, Tryd.ntmps41
      go_upto_region 3 with fail
      refine gen_world ?_
      intro W2 hW2
      have k2 : Keep (fun _ => False) ((w.alloc (.cells #[.int .i64 8, .string nm, .slice An nn cn, .slice Ak nk ck] 25)).alloc (.cells #[.int .i64 0, .string ⟨#[]⟩, .slice none 0 0, .slice none 0 0] 25)) W2 := by rw [hW2]; exact (Keep.refl _ _).alloc _
      have b0 : At W2 w.heap.size 25 #[.int .i64 8, .string nm, .slice An nn cn, .slice Ak nk ck] := by rw [hW2]; exact ((At.new_at (by simp)).alloc _).alloc _
      have b2 : At W2 (w.heap.size + 1 + 1) 25 #[.int .i64 qk, .string qnm, .slice qAn qnn qcn, .slice qAk qnk qck] := by rw [hW2]; exact At.new_at (by simp)
      clear hW2 hrun
      have b1 := k2.at_ HO.out.2.2 (fun x => x)
      have hn1 : ¬ w.heap.size = w.heap.size + 1 := by omega
      have hn2 : ¬ w.heap.size + 1 + 1 = w.heap.size + 1 := by omega
      have HK := Lib.hid (And.intro (HO.out.2.1.trans k2 (fun _ _ x => x)) b1)
      obtain ⟨x0l, x00, x01, x02, x03⟩ := b0.tcells
      obtain ⟨x1l, x10, x11, x12, x13⟩ := b1.tcells
      obtain ⟨x2l, x20, x21, x22, x23⟩ := b2.tcells
      have f0 := b1.frozen 0
      have f1 := b1.frozen 1
      have f2 := b1.frozen 2
      have f3 := b1.frozen 3
      clear b0 b1 b2 k2
      generalize hrb : w.heap.size + 1 = rb at *
      generalize rb + 1 = zb at *
      generalize hbx : w.heap.size = bx at *
      have HRE := Lib.hid (show w.heap.size ≤ rb by omega)
      clear hbx hrb
      have hkf := (HK.out.1.weak (Keep.set4 (Keep.refl (fun j => j = rb) W2) (.inl rfl) (.int .i64 qk) (.string qnm) (.slice qAn qnn qcn) (.slice qAk qnk qck)) (fun j hj => by rw [hj]; exact HRE.out)).drew
      have HKF := Lib.hid hkf
      clear hkf
      go_region
      go_wp2_with fail
      (try simp only [Exit.inBlock, Exit.then])
      refine bodyPost_ret (ret_cell rfl rfl (((((HK.out.2.set 0 _).set 1 _).set 2 _).set 3 _).drew)) rfl ?_
      exact ⟨OptP.yes (r := ⟨qk, qnm, qAn, qnn, qcn, qAk, qnk, qck⟩) HO.out.1 (HQ.out.step HKF.out), HKF.out⟩
    · have hout : replT f t = none := by rw [hres, if_neg hz]
      have HO := Lib.hid (And.intro hout (And.intro kw a1))
      have e0 := rw_sum nn nk hnb hkb
      have e1 := rw_sum' nn nk hnb hkb
      have e2 : ((nn : Int) + (nk : Int) == 0) = false := by rw [beq_eq_false_iff_ne]; omega
      unfold Tv.val
      simp only
      clear hf hres h hm hmm hout kw a1 hq hnb hkb hz
      go_enter Tryd.func41, Tryd.ntmps41
      go_upto_region 3 with fail
      refine gen_world ?_
      intro W2 hW2
      have k2 : Keep (fun _ => False) ((w.alloc (.cells #[.int .i64 8, .string nm, .slice An nn cn, .slice Ak nk ck] 25)).alloc (.cells #[.int .i64 0, .string ⟨#[]⟩, .slice none 0 0, .slice none 0 0] 25)) W2 := by rw [hW2]; exact (Keep.refl _ _).alloc _
      have b0 : At W2 w.heap.size 25 #[.int .i64 8, .string nm, .slice An nn cn, .slice Ak nk ck] := by rw [hW2]; exact ((At.new_at (by simp)).alloc _).alloc _
      have b2 : At W2 (w.heap.size + 1 + 1) 25 #[.int .i64 qk, .string qnm, .slice qAn qnn qcn, .slice qAk qnk qck] := by rw [hW2]; exact At.new_at (by simp)
      clear hW2 hrun
      have b1 := k2.at_ HO.out.2.2 (fun x => x)
      have hn1 : ¬ w.heap.size = w.heap.size + 1 := by omega
      have hn2 : ¬ w.heap.size + 1 + 1 = w.heap.size + 1 := by omega
      have HK := Lib.hid (And.intro (HO.out.2.1.trans k2 (fun _ _ x => x)) b1)
      obtain ⟨x0l, x00, x01, x02, x03⟩ := b0.tcells
      obtain ⟨x1l, x10, x11, x12, x13⟩ := b1.tcells
      obtain ⟨x2l, x20, x21, x22, x23⟩ := b2.tcells
      have f0 := b1.frozen 0
      have f1 := b1.frozen 1
      have f2 := b1.frozen 2
      have f3 := b1.frozen 3
      clear b0 b1 b2 k2
      generalize hrb : w.heap.size + 1 = rb at *
      generalize rb + 1 = zb at *
      generalize hbx : w.heap.size = bx at *
      have HRE := Lib.hid (show w.heap.size ≤ rb by omega)
      clear hbx hrb
      go_region
      go_wp2_with fail
      (try simp only [Exit.inBlock, Exit.then])
      refine bodyPost_ret (ret_cell rfl rfl (((((HK.out.2.set 0 _).set 1 _).set 2 _).set 3 _).drew)) rfl ?_
      exact ⟨OptP.no HO.out.1 ⟨qk, qnm, qAn, qnn, qcn, qAk, qnk, qck⟩, (HK.out.1.weak (Keep.set4 (Keep.refl (fun j => j = rb) W2) (.inl rfl) (.int .i64 qk) (.string qnm) (.slice qAn qnn qcn) (.slice qAk qnk qck)) (fun j hj => by rw [hj]; exact HRE.out)).drew⟩
set_option maxRecDepth 100000 in
set_option maxHeartbeats 8000000 in
theorem repl_any {f : ByteArray → Option Ty} (t : Ty) : ∀ (w : World) (X : Nat → Prop) (r : Tv) (mb : Nat) (l : List (ByteArray × Tv × Ty)), (∀ i, X i → i < w.heap.size) → t.size ≤ 1000 → MapT w X mb f l → TyV w X r t →
    Calls Tryd.prog 41 #[r.val, .map (some mb)] w fun e w' => OptP X (replT f t) e w' ∧ Keep (fun _ => False) w w' := by
  induction t using Ty.ind with
  | h t ih =>
    intro w X r mb lm hX hsz hm h
    by_cases h8 : t.kind = 8
    · exact repl_var hX hsz h8 hm h
    obtain ⟨k, nm, An, nn, cn, Ak, nk, ck⟩ := r
    obtain ⟨rs, hnk, hnkb, hrd, hv⟩ := h.kds
    have hkk := h.knd
    have hnm := h.out.2.1
    have hnn := h.out.2.2.1
    have hnr := h.out.2.2.2.1
    have hnb := h.out.1.2.1
    simp only at hnk hnkb hrd hkk hnn hnb hnm hnr
    have hlen : t.kids.length ≤ 1000 := by
      have := length_le_sizeL t.kids
      have := t.size_eq
      omega
    have hnk' : nk = t.kids.length := hnk
    have hrl : rs.length = nk := by rw [hv.len, hnk]
    have d8 : (k == 8) = false := by rw [beq_eq_false_iff_ne, hkk]; exact h8
    have hres : replT f t = (replL f t.kids).map fun l => .mk t.kind t.name t.names l := by rw [replT_eq, if_neg h8]
    have kw : Keep (fun _ => False) w ((w.alloc (.cells #[.int .i64 k, .string nm, .slice An nn cn, .slice Ak nk ck] 25)).alloc (.cells #[.int .i64 0, .string ⟨#[]⟩, .slice none 0 0, .slice none 0 0] 25)) := ((Keep.refl _ w).alloc _).alloc _
    have ax : At ((w.alloc (.cells #[.int .i64 k, .string nm, .slice An nn cn, .slice Ak nk ck] 25)).alloc (.cells #[.int .i64 0, .string ⟨#[]⟩, .slice none 0 0, .slice none 0 0] 25)) w.heap.size 25 #[.int .i64 k, .string nm, .slice An nn cn, .slice Ak nk ck] := (At.new _ _ _).alloc _
    have ar : At ((w.alloc (.cells #[.int .i64 k, .string nm, .slice An nn cn, .slice Ak nk ck] 25)).alloc (.cells #[.int .i64 0, .string ⟨#[]⟩, .slice none 0 0, .slice none 0 0] 25)) (w.heap.size + 1) 25 #[.int .i64 0, .string ⟨#[]⟩, .slice none 0 0, .slice none 0 0] := At.new_at (by simp)
    have hcl := clone_any (X := X) (rs := rs) (by omega) (hrd.keep kw (fun _ x => x.elim))
    have H := Lib.hid (And.intro hX (And.intro hm (And.intro hrd (And.intro hv (And.intro ih (And.intro hres (And.intro hsz (And.intro hnm hnr))))))))
    have HN := Lib.hid (And.intro hnk (And.intro hlen (And.intro hrl (And.intro hkk hnn))))
    have HW := Lib.hid (And.intro kw (And.intro ax ar))
    unfold Tv.val
    simp only
    clear h hX hsz hm h8 hrd hv hkk hnm hnn hnr hnk hnk' hrl hres kw ax ar ih
    go_enter Tryd.func41, Tryd.ntmps41
    go_upto_region 5 with (go_at_call 63; refine hcl.mono ?_; rintro e w2 ⟨⟨Al, cl, rfl, hown, hnew⟩, hk2⟩; have ax2 := hk2.at_ HW.out.2.1 (fun x => x); obtain ⟨x0l, x00, x01, x02, x03⟩ := ax2.tcells; have xf := ax2.frozen 3; have HO := Lib.hid (And.intro hown (And.intro hnew (And.intro hk2 ax2))); clear hown hnew hk2 hcl ax2)
    refine gen_world ?_
    intro w1 hw1
    have kx : Keep (fun j => j = w.heap.size) w2 w1 := by rw [hw1]; exact Keep.setCell (X := fun j => j = w.heap.size) (Keep.refl _ w2) (.inl rfl) _
    have ax1 : At w1 w.heap.size 25 #[.int .i64 k, .string nm, .slice An nn cn, .slice Al nk cl] := by rw [hw1]; exact HO.out.2.2.2.set 3 _
    have hnw : ∀ g, (Value.slice Al nk cl).ownBlock = some g → w.heap.size + 2 ≤ g := fun g hg => by
      have h1 := HO.out.2.1 g hg
      simp at h1
      omega
    have k01 : Keep (fun _ => False) w w1 := (HW.out.1.trans HO.out.2.2.1 (fun _ _ x => x)).weak kx (fun j hj => Nat.le_of_eq hj.symm)
    have ar1 : At w1 (w.heap.size + 1) 25 #[.int .i64 0, .string ⟨#[]⟩, .slice none 0 0, .slice none 0 0] := kx.at_ (HO.out.2.2.1.at_ HW.out.2.2 (fun x => x)) (by omega)
    have hown : w1.ownsRow 0 25 4 (.slice Al nk cl) nk (tflat rs) := kx.own HO.out.1 (fun g hg e => by have := hnw g hg; omega)
    have h0 : Hid (RpA w1 X f t.kids rs (.slice Al nk cl) nk w.heap.size (w.heap.size + 1) nk (.int .i64 0) w1) := ⟨0, rs, [], rfl, Nat.zero_le _, rfl, ⟨Keep.refl _ _, hown, rfl, fun _ _ => rfl, by simp [TysV], by simp [replL]⟩⟩
    have HB := Lib.hid (And.intro k01 (And.intro ax1 (And.intro ar1 hnw)))
    clear hw1 kx hnw k01 ar1 hown HO HW x0l x00 x01 x02 x03 xf
    generalize hre : w.heap.size + 1 = rb at *
    generalize hbe : w.heap.size = bx at *
    have HRE := Lib.hid (And.intro hre hbe)
    clear hre hbe
    obtain ⟨x0l, x00, x01, x02, x03⟩ := ax1.tcells
    clear ax1
    go_wp2_with fail
    clear x0l x00 x01 x02 x03
    go_loopg [41] nk (RpA w1 X f t.kids rs (.slice Al nk cl) nk bx rb)
    case atStart => exact h0.out
    case round =>
      clear h0
      obtain ⟨i, rc, l, rfl, hi, rfl, hR⟩ := hrel
      have hwr : Keep (fun _ => False) w wr := HB.out.1.weak hR.keep (fun j hj => by have h1 := HB.out.2.2.2 j hj; have h2 := HRE.out; omega)
      have axr := hR.keep.at_ HB.out.2.1 (fun hj => by have h1 := HB.out.2.2.2 bx hj; have h2 := HRE.out; omega)
      have arr := hR.keep.at_ HB.out.2.2.1 (fun hj => by have h1 := HB.out.2.2.2 rb hj; have h2 := HRE.out; omega)
      by_cases hlt : i < nk
      · have hAl : ∃ g, Al = some ⟨g, 0, none⟩ := by
          rcases own_cases hR.own with ⟨h1, h2, _⟩ | ⟨g, cap, h1, _⟩
          · omega
          · simp only [Value.slice.injEq] at h1
            exact ⟨g, h1.1⟩
        obtain ⟨g, rfl⟩ := hAl
        obtain ⟨s, hs⟩ : ∃ s, t.kids[i]? = some s := ⟨_, List.getElem?_eq_getElem (by have := HN.out.1; omega)⟩
        obtain ⟨⟨qk, qnm, qAn, qnn, qcn, qAk, qnk, qck⟩, hq, hqv⟩ := H.out.2.2.2.1.at_ hs
        have hqc : rc[i]? = some ⟨qk, qnm, qAn, qnn, qcn, qAk, qnk, qck⟩ := by rw [hR.rest i (Nat.le_refl _)]; exact hq
        obtain ⟨gb, go, hgA, hgl, _, c0, c1, c2, c3⟩ := (Rd.of_own (X := nX) hR.own (fun _ _ x => x)).tcells hlt hqc
        simp only [Option.some.injEq, Addr.mk.injEq, and_true] at hgA
        obtain ⟨rfl, rfl⟩ := hgA
        simp only [Nat.zero_add] at c0 c1 c2 c3
        have hXl : ∀ j, RpX X (.slice (some ⟨g, 0, none⟩) nk cl) bx rb j → j < wr.heap.size := fun j hj => by
          rcases hj with hj | hj | hj | hj
          · have h1 := H.out.1 j hj; have h2 := hwr.size; have h3 := HRE.out; omega
          · exact own_lt hR.own hj
          · rw [hj]; exact axr.lt
          · rw [hj]; exact arr.lt
        have hXM : ∀ j, j < w.heap.size → RpX X (.slice (some ⟨g, 0, none⟩) nk cl) bx rb j → X j := fun j hjl hj => by
          rcases hj with hj | hj | hj | hj
          · exact hj
          · have h1 := HB.out.2.2.2 j hj; have h2 := HRE.out; omega
          · have h2 := HRE.out; omega
          · have h2 := HRE.out; omega
        have kal : Keep (fun _ => False) wr (wr.alloc (.cells #[.int .i64 qk, .string qnm, .slice qAn qnn qcn, .slice qAk qnk qck] 25)) := (Keep.refl _ wr).alloc _
        have hcr := H.out.2.2.2.2.1 s (Ty.kid_lt (List.mem_of_getElem? hs)) (wr.alloc (.cells #[.int .i64 qk, .string qnm, .slice qAn qnn qcn, .slice qAk qnk qck] 25)) (RpX X (.slice (some ⟨g, 0, none⟩) nk cl) bx rb) ⟨qk, qnm, qAn, qnn, qcn, qAk, qnk, qck⟩ mb lm
          (fun j hj => by have h1 := hXl j hj; have h2 := kal.size; omega)
          (by have h1 := size_mem (List.mem_of_getElem? hs); have h2 := t.size_eq; have h3 := H.out.2.2.2.2.2.2.1; omega)
          (H.out.2.1.keep (hwr.trans kal (fun _ _ x => x)) (fun x => x) (fun _ _ x => x.elim) hXM) (hqv.keep (hwr.trans kal (fun _ _ x => x)) (fun _ _ x => x.elim) hXM)
        unfold Tv.val at hcr
        simp only at hcr
        have axw := kal.at_ axr (fun x => x)
        have HQ := Lib.hid (And.intro hR (And.intro hs (And.intro kal (And.intro axw (And.intro (kal.at_ arr (fun x => x)) (hwr.trans kal (fun _ _ x => x)))))))
        have i0 : (0 : Int) ≤ (i : Int) := by omega
        have i1 : (i : Int) < (nk : Int) := by omega
        clear hR hs hq hqv hqc hXl hXM kal axr arr hwr axw
        cases ho : replT f s with
        | none =>
          rw [ho] at hcr
          have hnone : replT f t = none := by rw [H.out.2.2.2.2.2.1, replL_none HQ.out.2.1 ho]; rfl
          have HO := Lib.hid hnone
          clear ho hnone
          go_wp2_with (go_at_call 41; refine hcr.mono ?_; rintro e w2 ⟨⟨⟨pk, pnm, pAn, pnn, pcn, pAk, pnk, pck⟩, he⟩, hk2⟩; simp only [Tv.val] at he; subst he; have K2 := Lib.hid hk2; have ra := hk2.at_ HQ.out.2.2.2.2.1 (fun x => x); obtain ⟨x1l, x10, x11, x12, x13⟩ := ra.tcells; have rf0 := ra.frozen 0; have rf1 := ra.frozen 1; have rf2 := ra.frozen 2; have rf3 := ra.frozen 3; obtain ⟨x0l, x00, x01, x02, x03⟩ := (hk2.at_ HQ.out.2.2.2.1 (fun x => x)).tcells; clear hk2 hcr ra)
          (try simp only [Exit.inBlock, Exit.then])
          have ra := K2.out.at_ HQ.out.2.2.2.2.1 (fun x => x)
          have hkw := HQ.out.2.2.2.2.2.trans K2.out (fun _ _ x => x)
          have hkf := (hkw.weak (Keep.set4 (Keep.refl (fun j => j = rb) w2) (.inl rfl) (.int .i64 k) (.string nm) (.slice An nn cn) (.slice (some ⟨g, 0, none⟩) nk cl)) (fun j hj => by have h1 := HRE.out; omega)).alloc (.cells #[.int .i64 pk, .string pnm, .slice pAn pnn pcn, .slice pAk pnk pck] 25)
          refine bodyPost_ret (ret_cell rfl rfl (((((ra.set 0 _).set 1 _).set 2 _).set 3 _).alloc _)) rfl ?_
          exact ⟨OptP.no HO.out ⟨k, nm, An, nn, cn, some ⟨g, 0, none⟩, nk, cl⟩, hkf⟩
        | some u =>
          rw [ho] at hcr
          have HO := Lib.hid ho
          clear ho
          go_wp2_with (go_at_call 41; refine hcr.mono ?_; rintro e w2 ⟨⟨⟨pk, pnm, pAn, pnn, pcn, pAk, pnk, pck⟩, he, hpv⟩, hk2⟩; simp only [Tv.val] at he; subst he; have K2 := Lib.hid (And.intro hk2 hpv); have hrw := (hk2.own (HQ.out.2.2.1.own HQ.out.1.own (fun _ _ x => x)) (fun _ _ x => x)); obtain ⟨x0l, x00, x01, x02, x03⟩ := (hk2.at_ HQ.out.2.2.2.1 (fun x => x)).tcells; have s0 := hk2.cell (HQ.out.2.2.1.cell c0 (fun x => x)) (fun x => x); have s1 := hk2.cell (HQ.out.2.2.1.cell c1 (fun x => x)) (fun x => x); have s2 := hk2.cell (HQ.out.2.2.1.cell c2 (fun x => x)) (fun x => x); have s3 := hk2.cell (HQ.out.2.2.1.cell c3 (fun x => x)) (fun x => x); clear c0 c1 c2 c3; obtain ⟨cur, hcur⟩ := own_cur hrw; have gl := hcur.lt; have gf0 := hcur.frozen (i * 4); have gf1 := hcur.frozen (i * 4 + 1); have gf2 := hcur.frozen (i * 4 + 2); have gf3 := hcur.frozen (i * 4 + 3); clear hk2 hcr hpv hrw hcur)
          go_roundg (nk - (i + 1))
          case measure => omega
          case rel => exact ⟨i + 1, _, _, by go_num, by omega, rfl, HQ.out.1.next (p := ⟨pk, pnm, pAn, pnn, pcn, pAk, pnk, pck⟩) hlt HN.out.2.2.1 (HQ.out.2.2.1.trans K2.out.1 (fun _ _ x => x)) HQ.out.2.1 HO.out K2.out.2⟩
      · obtain rfl : i = nk := by omega
        have htk : t.kids.take i = t.kids := List.take_of_length_le (by have := HN.out.1; omega)
        have hrl : replL f t.kids = some l := by have := hR.eq; rw [htk] at this; exact this
        have hrk : rc.take i = rc := List.take_of_length_le (by have h1 := hR.len; have h2 := HN.out.2.2.1; omega)
        have hll : i = l.length := by rw [replL_length hrl]; exact HN.out.1
        have hres : replT f t = some (.mk t.kind t.name t.names l) := by rw [H.out.2.2.2.2.2.1, hrl]; rfl
        have hs4 := Keep.set4 (Keep.refl (fun j => j = rb) wr) (.inl rfl) (.int .i64 k) (.string nm) (.slice An nn cn) (.slice Al i cl)
        have kf := hwr.weak hs4 (fun j hj => by have h1 := HRE.out; omega)
        have hty : TyV ((((wr.setCell ⟨rb, 0, none⟩ (.int .i64 k)).setCell ⟨rb, 1, none⟩ (.string nm)).setCell ⟨rb, 2, none⟩ (.slice An nn cn)).setCell ⟨rb, 3, none⟩ (.slice Al i cl)) X ⟨k, nm, An, nn, cn, Al, i, cl⟩ (.mk t.kind t.name t.names l) := by
          refine TyV.mk (t := .mk t.kind t.name t.names l) (rs := rc) ⟨HN.out.2.2.2.1, hnb, hnkb⟩ H.out.2.2.2.2.2.2.2.1 HN.out.2.2.2.2 (H.out.2.2.2.2.2.2.2.2.keep kf (fun _ x => x.elim)) hll ?_ ?_
          · refine Rd.of_own (hs4.own hR.own (fun g hg e => by have h1 := HB.out.2.2.2 g hg; have h2 := HRE.out; omega)) (fun g hg hx => by have h1 := HB.out.2.2.2 g hg; have h2 := HRE.out; have h3 := H.out.1 g hx; omega)
          · have h2 := hR.tys
            rw [hrk] at h2
            exact h2.keep hs4 (fun j _ hj => .inr (.inr (.inr hj))) (fun j _ hx => .inl hx)
        obtain ⟨x0l, x00, x01, x02, x03⟩ := axr.tcells
        obtain ⟨x1l, x10, x11, x12, x13⟩ := arr.tcells
        have rf0 := arr.frozen 0
        have rf1 := arr.frozen 1
        have rf2 := arr.frozen 2
        have rf3 := arr.frozen 3
        have HF := Lib.hid (And.intro arr (And.intro kf (And.intro hty hres)))
        clear hR hwr axr arr htk hrl hrk hll hres hs4 kf hty
        go_wp2_with fail
        (try simp only [Exit.inBlock, Exit.then])
        refine bodyPost_ret (ret_cell rfl rfl ((((HF.out.1.set 0 _).set 1 _).set 2 _).set 3 _)) rfl ?_
        exact ⟨OptP.yes (r := ⟨k, nm, An, nn, cn, Al, i, cl⟩) HF.out.2.2.2 HF.out.2.2.1, HF.out.2.1⟩
end Go.Proofs.YtbanpohholnkaaaDoor

namespace Go.Proofs.YtbanpohholnkaaaDoor
open Go.RowKit

def ResP (X : Nat → Prop) (o : Option Ty × Int) (e : Ending) (w : World) : Prop :=
  match o.1 with
  | none => e = .returned (.tuple #[tv0.val, .int .i64 o.2])
  | some n => ∃ q : Tv, e = .returned (.tuple #[q.val, .int .i64 o.2]) ∧ TyV w X q n
theorem ResP.no {X : Nat → Prop} {o : Option Ty × Int} {w : World} {z : Int} (h : o = (none, z)) : ResP X o (.returned (.tuple #[tv0.val, .int .i64 z])) w := by rw [h]; rfl
theorem ResP.yes {X : Nat → Prop} {o : Option Ty × Int} {w : World} {n : Ty} {z : Int} {q : Tv} (h : o = (some n, z)) (hq : TyV w X q n) : ResP X o (.returned (.tuple #[q.val, .int .i64 z])) w := by rw [h]; exact ⟨q, rfl, hq⟩
theorem lookT_take {vs : List ByteArray} {ws : List Ty} {i : Nat} {v : ByteArray} {u : Ty} (hv : vs[i]? = some v) (hu : ws[i]? = some u) (s : ByteArray) :
    lookT (vs.take (i + 1)) (ws.take (i + 1)) s = match lookT (vs.take i) (ws.take i) s with | some x => some x | none => if v = s then some u else none := by
  unfold lookT
  have hz : (vs.take (i + 1)).zip (ws.take (i + 1)) = (vs.take i).zip (ws.take i) ++ [(v, u)] := by
    have hi1 : i < vs.length := (List.getElem?_eq_some_iff.1 hv).1
    have hi2 : i < ws.length := (List.getElem?_eq_some_iff.1 hu).1
    rw [List.take_add_one, List.take_add_one, hv, hu]
    simp only [Option.toList_some]
    rw [List.zip_append (by simp; omega)]
    rfl
  rw [hz, List.find?_append]
  cases hc : ((vs.take i).zip (ws.take i)).find? fun p => decide (p.1 = s) with
  | some p => rfl
  | none =>
    simp only [Option.none_or, Option.map_none]
    by_cases h : v = s
    · simp [h]
    · simp [h]
theorem MapT.same {w : World} {X : Nat → Prop} {b : Nat} {f g : ByteArray → Option Ty} {l : List (ByteArray × Tv × Ty)} (h : MapT w X b f l) (e : ∀ s, f s = g s) : MapT w X b g l := ⟨h.map, h.tys, fun s => (h.eq s).trans (e s)⟩
theorem MapT.find {w : World} {X : Nat → Prop} {b : Nat} {f : ByteArray → Option Ty} {l : List (ByteArray × Tv × Ty)} (h : MapT w X b f l) {s : ByteArray} (hs : f s = none) : ((l.map fun p => (p.1, p.2.1.val)).find? fun p => decide (p.1 = s)) = none := by
  have := h.eq s
  rw [hs] at this
  cases hc : l.find? fun p => decide (p.1 = s) with
  | some p => rw [hc] at this; cases this
  | none =>
    rw [List.find?_map]
    simpa using hc
theorem MapT.put {w w' : World} {X : Nat → Prop} {b : Nat} {f g : ByteArray → Option Ty} {l : List (ByteArray × Tv × Ty)} (h : MapT w X b f l) {s : ByteArray} {q : Tv} {u : Ty} (_ : f s = none) (hm : MapS w' b ((l.map fun p => (p.1, p.2.1.val)) ++ [(s, q.val)])) (k : Keep (fun j => j = b) w w') (hb : X b) (hq : TyV w X q u)
    (hg : ∀ z, g z = match f z with | some x => some x | none => if s = z then some u else none) : MapT w' X b g (l ++ [(s, q, u)]) := by
  refine ⟨by simpa using hm, fun p hp => ?_, fun z => ?_⟩
  · rcases List.mem_append.1 hp with hp | hp
    · exact (h.tys p hp).keep k (fun i _ hi => by rw [hi]; exact hb) (fun _ _ x => x)
    · rw [List.mem_singleton.1 hp]
      exact hq.keep k (fun i _ hi => by rw [hi]; exact hb) (fun _ _ x => x)
  · rw [List.find?_append, hg z, ← h.eq z]
    cases hc : l.find? fun p => decide (p.1 = z) with
    | some p => rfl
    | none =>
      simp only [Option.none_or, Option.map_none]
      by_cases e : s = z
      · simp [e]
      · simp [e]
def RvA (w1 : World) (X : Nat → Prop) (vs : List ByteArray) (ws : List Ty) (mb n : Nat) (k : Nat) (b : Value) (wr : World) : Prop :=
  ∃ (i : Nat) (l : List (ByteArray × Tv × Ty)), b = .int .i64 i ∧ i ≤ n ∧ k = n - i ∧ MapT wr X mb (lookT (vs.take i) (ws.take i)) l ∧ Keep (fun j => j = mb) w1 wr
set_option maxRecDepth 100000 in
set_option maxHeartbeats 2000000 in
theorem resolve_any {w : World} {X : Nat → Prop} {r : Tv} {t : Ty} {vs : List ByteArray} {ws : List Ty} {rs : List Tv} {Av Aw : Option Addr} {nv cv nw cw : Nat} (hX : ∀ i, X i → i < w.heap.size) (hT : Tab w) (h : TyV w X r t) (hvb : nv ≤ 140737488355328)
    (hvr : Rd w X 1 (.slice Av nv cv) nv (strs vs)) (hwr : Rd w X 4 (.slice Aw nw cw) nw (tflat rs)) (hwt : TysV w X rs ws) :
    Calls Tryd.prog 23 #[r.val, .slice Av nv cv, .slice Aw nw cw] w fun e w' => ResP X (resolveT vs ws t) e w' ∧ Keep (fun _ => False) w w' := by
  obtain ⟨k, nm, An, nn, cn, Ak, nk, ck⟩ := r
  have hlv : vs.length = nv := hvr.slen
  have hlw : ws.length = nw := by rw [← hwt.len]; exact hwr.nlen
  have kw : Keep (fun _ => False) w ((w.alloc (.cells #[.int .i64 k, .string nm, .slice An nn cn, .slice Ak nk ck] 25)).alloc (.cells #[.int .i64 0, .string ⟨#[]⟩, .slice none 0 0, .slice none 0 0] 25)) := ((Keep.refl _ w).alloc _).alloc _
  have ax : At ((w.alloc (.cells #[.int .i64 k, .string nm, .slice An nn cn, .slice Ak nk ck] 25)).alloc (.cells #[.int .i64 0, .string ⟨#[]⟩, .slice none 0 0, .slice none 0 0] 25)) w.heap.size 25 #[.int .i64 k, .string nm, .slice An nn cn, .slice Ak nk ck] := (At.new _ _ _).alloc _
  have ar : At ((w.alloc (.cells #[.int .i64 k, .string nm, .slice An nn cn, .slice Ak nk ck] 25)).alloc (.cells #[.int .i64 0, .string ⟨#[]⟩, .slice none 0 0, .slice none 0 0] 25)) (w.heap.size + 1) 25 #[.int .i64 0, .string ⟨#[]⟩, .slice none 0 0, .slice none 0 0] := At.new_at (by simp)
  by_cases hne : nv = nw
  rotate_left
  · have hres : resolveT vs ws t = (none, 1) := by unfold resolveT; rw [if_pos (by omega)]
    have d1 : ((nv : Int) != (nw : Int)) = true := by rw [bne_iff_ne]; omega
    have f0 := ar.frozen 0
    have f1 := ar.frozen 1
    have f2 := ar.frozen 2
    have f3 := ar.frozen 3
    have H := Lib.hid (And.intro kw (And.intro ar hres))
    unfold Tv.val
    simp only
    clear hX hT h hvr hwr hwt hlv hlw kw ax ar hne hres
    go_enter Tryd.func23, Tryd.ntmps23
    go_wp2_with fail
    (try simp only [Exit.inBlock, Exit.then])
    refine bodyPost_ret (ret_cell rfl rfl H.out.2.1) rfl ?_
    exact ⟨ResP.no H.out.2.2, H.out.1⟩
  subst hne
  have H := Lib.hid (And.intro hX (And.intro hT (And.intro h (And.intro hvr (And.intro hwr (And.intro hwt (And.intro hlv hlw)))))))
  have HW := Lib.hid (And.intro kw (And.intro ax ar))
  have hmm := @run_makeMap Tryd.prog
  unfold Tv.val
  simp only
  clear hX hT h hvr hwr hwt hlv hlw kw ax ar
  go_enter Tryd.func23, Tryd.ntmps23
  go_upto_region 4 with fail
  refine gen_world ?_
  intro w1 hw1
  have k01 : Keep (fun _ => False) w w1 := by rw [hw1]; exact HW.out.1.alloc _
  have ax1 : At w1 w.heap.size 25 #[.int .i64 k, .string nm, .slice An nn cn, .slice Ak nk ck] := by rw [hw1]; exact HW.out.2.1.alloc _
  have ar1 : At w1 (w.heap.size + 1) 25 #[.int .i64 0, .string ⟨#[]⟩, .slice none 0 0, .slice none 0 0] := by rw [hw1]; exact HW.out.2.2.alloc _
  have hm1 : MapS w1 (w.heap.size + 1 + 1) [] := by rw [hw1]; have := MapS.made ((w.alloc (.cells #[.int .i64 k, .string nm, .slice An nn cn, .slice Ak nk ck] 25)).alloc (.cells #[.int .i64 0, .string ⟨#[]⟩, .slice none 0 0, .slice none 0 0] 25)); simpa using this
  clear hw1 HW hmm
  generalize hme : w.heap.size + 1 + 1 = mb at *
  generalize hre : w.heap.size + 1 = rb at *
  generalize hbe : w.heap.size = bx at *
  have HRE := Lib.hid (And.intro hme (And.intro hre hbe))
  clear hme hre hbe
  have h0 : Hid (RvA w1 (fun j => X j ∨ j = rb ∨ j = mb) vs ws mb nv nv (.int .i64 0) w1) := ⟨0, [], rfl, Nat.zero_le _, rfl, ⟨hm1, fun p hp => by simp at hp, fun s => by simp [lookT]⟩, Keep.refl _ _⟩
  have HB := Lib.hid (And.intro k01 (And.intro ax1 ar1))
  clear k01 ax1 ar1 hm1
  go_wp2_with fail
  go_loopg [24] nv (RvA w1 (fun j => X j ∨ j = rb ∨ j = mb) vs ws mb nv)
  case atStart => exact h0.out
  case round =>
    clear h0
    obtain ⟨i, lm, rfl, hi, rfl, hM, hk⟩ := hrel
    have hwr : Keep (fun _ => False) w wr := HB.out.1.weak hk (fun j hj => by have h1 := HRE.out; omega)
    have hXl : ∀ j, (fun j => X j ∨ j = rb ∨ j = mb) j → j < wr.heap.size := fun j hj => by
      rcases hj with hj | hj | hj
      · have h1 := H.out.1 j hj; have h2 := hwr.size; have h3 := HRE.out; omega
      · rw [hj]; have h1 := HB.out.2.2.lt; have h2 := hk.size; omega
      · rw [hj]; exact hM.map.lt
    have hXM : ∀ j, j < w.heap.size → (fun j => X j ∨ j = rb ∨ j = mb) j → X j := fun j hjl hj => by
      rcases hj with hj | hj | hj
      · exact hj
      · have h1 := HRE.out; omega
      · have h1 := HRE.out; omega
    by_cases hlt : i < nv
    · obtain ⟨s, hs⟩ : ∃ s, vs[i]? = some s := ⟨_, List.getElem?_eq_getElem (by have := H.out.2.2.2.2.2.2.1; omega)⟩
      obtain ⟨u, hu⟩ : ∃ u, ws[i]? = some u := ⟨_, List.getElem?_eq_getElem (by have := H.out.2.2.2.2.2.2.2; omega)⟩
      obtain ⟨⟨qk, qnm, qAn, qnn, qcn, qAk, qnk, qck⟩, hq, hqv⟩ := H.out.2.2.2.2.2.1.at_ hu
      obtain ⟨vb, vo, rfl, hvz, _, e0⟩ := (H.out.2.2.2.1.keep hwr (fun _ x => x.elim)).scell hlt hs
      obtain ⟨ub, uo, rfl, huz, _, c0, c1, c2, c3⟩ := (H.out.2.2.2.2.1.keep hwr (fun _ x => x.elim)).tcells hlt hq
      simp only at c0 c1 c2 c3
      have i0 : (0 : Int) ≤ (i : Int) := by omega
      have i1 : (i : Int) < (nv : Int) := by omega
      rcases hM.look s with ⟨hf, hrun⟩ | ⟨p, x, hf, hp, hrun⟩
      · have hrun := hrun wr hM.map
        have kal : Keep (fun _ => False) wr (wr.alloc (.cells #[.int .i64 0, .string ⟨#[]⟩, .slice none 0 0, .slice none 0 0] 25)) := (Keep.refl _ wr).alloc _
        have HM := Lib.hid (And.intro (hM.step kal) (And.intro (hM.find hf) (And.intro hf (And.intro hs (And.intro hu (And.intro (hqv.keep (hwr.trans kal (fun _ _ x => x)) (fun _ _ x => x.elim) hXM) (hk.alloc (.cells #[.int .i64 0, .string ⟨#[]⟩, .slice none 0 0, .slice none 0 0] 25))))))))
        clear hM hf hs hu hq hqv hk hwr hXl hXM kal
        go_wp2_with (at_mapUpdate; refine wpList_putS rfl _ _ _ rfl Tryd.underlying55 Tryd.underlying9 rfl s (.agg #[.int .i64 qk, .string qnm, .slice qAn qnn qcn, .slice qAk qnk qck]) rfl rfl HM.out.1.map HM.out.2.1 ?_)
        intro w5 hm5 hk5
        have H5 := Lib.hid (And.intro hm5 hk5)
        clear hm5 hk5
        go_wp2_with fail
        go_roundg (nv - (i + 1))
        case measure => omega
        case rel => exact ⟨i + 1, lm ++ [(s, ⟨qk, qnm, qAn, qnn, qcn, qAk, qnk, qck⟩, u)], by go_num, by omega, rfl, HM.out.1.put (q := ⟨qk, qnm, qAn, qnn, qcn, qAk, qnk, qck⟩) HM.out.2.2.1 H5.out.1 H5.out.2 (.inr (.inr rfl)) HM.out.2.2.2.2.2.1 (lookT_take HM.out.2.2.2.1 HM.out.2.2.2.2.1), HM.out.2.2.2.2.2.2.trans H5.out.2 (fun _ _ x => x)⟩
      · obtain ⟨pk, pnm, pAn, pnn, pcn, pAk, pnk, pck⟩ := p
        have hrun := hrun wr hM.map
        unfold Tv.val at hrun
        simp only at hrun
        have HM := Lib.hid (And.intro (hM.step ((Keep.refl (fun _ => False) wr).alloc (.cells #[.int .i64 pk, .string pnm, .slice pAn pnn pcn, .slice pAk pnk pck] 25))) (And.intro hf (And.intro hs (And.intro hu (hk.alloc (.cells #[.int .i64 pk, .string pnm, .slice pAn pnn pcn, .slice pAk pnk pck] 25))))))
        clear hM hf hs hu hq hqv hk hwr hXl hXM hp
        go_wp2_with fail
        go_roundg (nv - (i + 1))
        case measure => omega
        case rel =>
          refine ⟨i + 1, lm, by go_num, by omega, rfl, HM.out.1.same (fun z => ?_), HM.out.2.2.2.2⟩
          rw [lookT_take HM.out.2.2.1 HM.out.2.2.2.1 z]
          cases hc : lookT (vs.take i) (ws.take i) z with
          | some y => rfl
          | none =>
            have hne : ¬ s = z := fun e => by
              have := HM.out.2.1
              rw [e, hc] at this
              cases this
            simp [hne]
    · obtain rfl : i = nv := by omega
      have hvt : vs.take i = vs := List.take_of_length_le (by have := H.out.2.2.2.2.2.2.1; omega)
      have hwt : ws.take i = ws := List.take_of_length_le (by have := H.out.2.2.2.2.2.2.2; omega)
      rw [hvt, hwt] at hM
      have HM := Lib.hid (And.intro hM (And.intro hwr (And.intro hXl (And.intro hXM (And.intro (hk.at_ HB.out.2.1 (fun hj => by have h1 := HRE.out; omega)) (hk.at_ HB.out.2.2 (fun hj => by have h1 := HRE.out; omega)))))))
      have HC : Hid (∀ w', Keep (fun _ => False) wr w' → (bx < w'.heap.size ∧ w'.cell? ⟨bx, 0, none⟩ = some (.int .i64 k) ∧ w'.cell? ⟨bx, 1, none⟩ = some (.string nm) ∧ w'.cell? ⟨bx, 2, none⟩ = some (.slice An nn cn) ∧ w'.cell? ⟨bx, 3, none⟩ = some (.slice Ak nk ck)) ∧ (rb < w'.heap.size ∧ w'.cell? ⟨rb, 0, none⟩ = some (.int .i64 0) ∧ w'.cell? ⟨rb, 1, none⟩ = some (.string ⟨#[]⟩) ∧ w'.cell? ⟨rb, 2, none⟩ = some (.slice none 0 0) ∧ w'.cell? ⟨rb, 3, none⟩ = some (.slice none 0 0)) ∧ w'.frozen? ⟨rb, 0, none⟩ = false ∧ w'.frozen? ⟨rb, 1, none⟩ = false ∧ w'.frozen? ⟨rb, 2, none⟩ = false ∧ w'.frozen? ⟨rb, 3, none⟩ = false) := fun w' hk => ⟨(hk.at_ HM.out.2.2.2.2.1 (fun x => x)).tcells, (hk.at_ HM.out.2.2.2.2.2 (fun x => x)).tcells, (hk.at_ HM.out.2.2.2.2.2 (fun x => x)).frozen 0, (hk.at_ HM.out.2.2.2.2.2 (fun x => x)).frozen 1, (hk.at_ HM.out.2.2.2.2.2 (fun x => x)).frozen 2, (hk.at_ HM.out.2.2.2.2.2 (fun x => x)).frozen 3⟩
      have KC : Hid (Keep (fun _ => False) wr wr) := Keep.refl _ _
      have KF : Hid (∀ w' v0 v1 v2 v3, Keep (fun _ => False) wr w' → Keep (fun _ => False) w ((((w'.setCell ⟨rb, 0, none⟩ v0).setCell ⟨rb, 1, none⟩ v1).setCell ⟨rb, 2, none⟩ v2).setCell ⟨rb, 3, none⟩ v3)) := fun w' v0 v1 v2 v3 hk => (HM.out.2.1.trans hk (fun _ _ x => x)).weak (Keep.set4 (Keep.refl (fun g => g = rb) w') (.inl rfl) v0 v1 v2 v3) (fun g hg => by have h1 := HRE.out; omega)
      have HT : Hid (∀ w', Keep (fun _ => False) wr w' → TyV w' (fun j => X j ∨ j = rb ∨ j = mb) ⟨k, nm, An, nn, cn, Ak, nk, ck⟩ t) := fun w' hk => H.out.2.2.1.keep (HM.out.2.1.trans hk (fun _ _ x => x)) (fun _ _ x => x.elim) HM.out.2.2.2.1
      have HSz : Hid (∀ w', Keep (fun _ => False) wr w' → Calls Tryd.prog 39 #[.agg #[.int .i64 k, .string nm, .slice An nn cn, .slice Ak nk ck]] w' fun e w'' => e = .returned (.int .i64 (min t.size 201 : Nat)) ∧ Keep (fun _ => False) w' w'') := fun w' hk => size_any t w' ⟨k, nm, An, nn, cn, Ak, nk, ck⟩ (HT.out w' hk)
      have HHt : Hid (∀ w', Keep (fun _ => False) wr w' → Calls Tryd.prog 40 #[.agg #[.int .i64 k, .string nm, .slice An nn cn, .slice Ak nk ck]] w' fun e w'' => e = .returned (.int .i64 (min t.ht 17 : Nat)) ∧ Keep (fun _ => False) w' w'') := fun w' hk => Height_any (r := ⟨k, nm, An, nn, cn, Ak, nk, ck⟩) (HT.out w' hk)
      obtain ⟨⟨xl, x0, x1, x2, x3⟩, ⟨rl, r0, r1, r2, r3⟩, f0, f1, f2, f3⟩ := HC.out wr KC.out
      clear hM hwr hXl hXM hk hvt hwt
      have hll : ¬ vs.length ≠ ws.length := by have h1 := H.out.2.2.2.2.2.2; omega
      have HLL := Lib.hid hll
      clear hll
      by_cases h200 : 200 < t.size
      · have HR := Lib.hid (show resolveT vs ws t = (none, 9) by unfold resolveT; rw [if_neg HLL.out, if_pos (.inl h200)])
        rw [show min t.size 201 = 201 by omega] at HSz
        clear h200
        go_wp2_with (go_at_call 39; (with_reducible refine (HSz.out _ KC.out).mono ?_); rintro e w2 ⟨rfl, hk⟩; have KN := Lib.hid (KC.out.trans hk (fun _ _ x => x)); clear KC hk xl x0 x1 x2 x3 rl r0 r1 r2 r3 f0 f1 f2 f3; have KC := KN; clear KN; obtain ⟨⟨xl, x0, x1, x2, x3⟩, ⟨rl, r0, r1, r2, r3⟩, f0, f1, f2, f3⟩ := HC.out _ KC.out)
        (try simp only [Exit.inBlock, Exit.then])
        have ra := KC.out.at_ HM.out.2.2.2.2.2 (fun x => x)
        refine bodyPost_ret (ret_cell rfl rfl ((((ra.set 0 _).set 1 _).set 2 _).set 3 _)) rfl ?_
        exact ⟨ResP.no HR.out, KF.out _ (.int .i64 0) (.string ⟨#[]⟩) (.slice none 0 0) (.slice none 0 0) KC.out⟩
      · rw [show min t.size 201 = t.size by omega] at HSz
        have d200 : decide (200 < (t.size : Int)) = false := by simp; omega
        have HS2 := Lib.hid h200
        clear h200
        by_cases h16 : 16 < t.ht
        · have HR := Lib.hid (show resolveT vs ws t = (none, 9) by unfold resolveT; rw [if_neg HLL.out, if_pos (.inr h16)])
          rw [show min t.ht 17 = 17 by omega] at HHt
          clear h16
          generalize t.size = ts at *
          go_wp2_with (first | (go_at_call 39; (with_reducible refine (HSz.out _ KC.out).mono ?_); rintro e w2 ⟨rfl, hk⟩; have KN := Lib.hid (KC.out.trans hk (fun _ _ x => x)); clear KC hk xl x0 x1 x2 x3 rl r0 r1 r2 r3 f0 f1 f2 f3; have KC := KN; clear KN; obtain ⟨⟨xl, x0, x1, x2, x3⟩, ⟨rl, r0, r1, r2, r3⟩, f0, f1, f2, f3⟩ := HC.out _ KC.out) | (go_at_call 40; (with_reducible refine (HHt.out _ KC.out).mono ?_); rintro e w3 ⟨rfl, hk⟩; have KN := Lib.hid (KC.out.trans hk (fun _ _ x => x)); clear KC hk xl x0 x1 x2 x3 rl r0 r1 r2 r3 f0 f1 f2 f3; have KC := KN; clear KN; obtain ⟨⟨xl, x0, x1, x2, x3⟩, ⟨rl, r0, r1, r2, r3⟩, f0, f1, f2, f3⟩ := HC.out _ KC.out))
          (try simp only [Exit.inBlock, Exit.then])
          have ra := KC.out.at_ HM.out.2.2.2.2.2 (fun x => x)
          refine bodyPost_ret (ret_cell rfl rfl ((((ra.set 0 _).set 1 _).set 2 _).set 3 _)) rfl ?_
          exact ⟨ResP.no HR.out, KF.out _ (.int .i64 0) (.string ⟨#[]⟩) (.slice none 0 0) (.slice none 0 0) KC.out⟩
        · rw [show min t.ht 17 = t.ht by omega] at HHt
          have d16 : decide (16 < (t.ht : Int)) = false := by simp; omega
          have hre : resolveT vs ws t = (match replT (lookT vs ws) t with | none => (none, 9) | some r => match NormT r with | none => (none, 9) | some n => (some n, 0)) := by
            unfold resolveT
            rw [if_neg HLL.out, if_neg (by have := HS2.out; omega)]
            try (
              cases replT (lookT vs ws) t with
              | none => rfl
              | some r => cases NormT r <;> rfl)
          have HRp : Hid (∀ w', Keep (fun _ => False) wr w' → Calls Tryd.prog 41 #[.agg #[.int .i64 k, .string nm, .slice An nn cn, .slice Ak nk ck], .map (some mb)] w' fun e w'' => OptP (fun j => X j ∨ j = rb ∨ j = mb) (replT (lookT vs ws) t) e w'' ∧ Keep (fun _ => False) w' w'') := fun w' hk => repl_any t w' (fun j => X j ∨ j = rb ∨ j = mb) ⟨k, nm, An, nn, cn, Ak, nk, ck⟩ mb lm (fun j hj => by have h1 := HM.out.2.2.1 j hj; have h2 := hk.size; omega) (by have := HS2.out; omega) (HM.out.1.step hk) (HT.out w' hk)
          clear h16
          generalize t.size = ts at *
          generalize t.ht = th at *
          cases hro : replT (lookT vs ws) t with
          | none =>
            rw [hro] at hre HRp
            have HR := Lib.hid (show resolveT vs ws t = (none, 9) from hre)
            clear hro hre
            go_wp2_with (first | (go_at_call 39; (with_reducible refine (HSz.out _ KC.out).mono ?_); rintro e w2 ⟨rfl, hk⟩; have KN := Lib.hid (KC.out.trans hk (fun _ _ x => x)); clear KC hk xl x0 x1 x2 x3 rl r0 r1 r2 r3 f0 f1 f2 f3; have KC := KN; clear KN; obtain ⟨⟨xl, x0, x1, x2, x3⟩, ⟨rl, r0, r1, r2, r3⟩, f0, f1, f2, f3⟩ := HC.out _ KC.out) | (go_at_call 40; (with_reducible refine (HHt.out _ KC.out).mono ?_); rintro e w3 ⟨rfl, hk⟩; have KN := Lib.hid (KC.out.trans hk (fun _ _ x => x)); clear KC hk xl x0 x1 x2 x3 rl r0 r1 r2 r3 f0 f1 f2 f3; have KC := KN; clear KN; obtain ⟨⟨xl, x0, x1, x2, x3⟩, ⟨rl, r0, r1, r2, r3⟩, f0, f1, f2, f3⟩ := HC.out _ KC.out) | (go_at_call 41; (with_reducible refine (HRp.out _ KC.out).mono ?_); rintro e w4 ⟨⟨⟨pk, pnm, pAn, pnn, pcn, pAk, pnk, pck⟩, he⟩, hk⟩; simp only [Tv.val] at he; subst he; have KN := Lib.hid (KC.out.trans hk (fun _ _ x => x)); clear KC hk xl x0 x1 x2 x3 rl r0 r1 r2 r3 f0 f1 f2 f3; have KC := KN; clear KN; obtain ⟨⟨xl, x0, x1, x2, x3⟩, ⟨rl, r0, r1, r2, r3⟩, f0, f1, f2, f3⟩ := HC.out _ KC.out))
            (try simp only [Exit.inBlock, Exit.then])
            have ra := KC.out.at_ HM.out.2.2.2.2.2 (fun x => x)
            refine bodyPost_ret (ret_cell rfl rfl (((((ra.set 0 _).set 1 _).set 2 _).set 3 _).alloc _)) rfl ?_
            exact ⟨ResP.no HR.out, (KF.out _ (.int .i64 0) (.string ⟨#[]⟩) (.slice none 0 0) (.slice none 0 0) KC.out).alloc _⟩
          | some rr =>
            rw [hro] at hre HRp
            simp only at hre
            have HRR := Lib.hid hre
            clear hro hre
            cases hno : NormT rr with
            | none =>
              have HR := Lib.hid (show resolveT vs ws t = (none, 9) by rw [HRR.out, hno])
              have HNo := Lib.hid hno
              clear hno
              go_wp2_with (first | (go_at_call 39; (with_reducible refine (HSz.out _ KC.out).mono ?_); rintro e w2 ⟨rfl, hk⟩; have KN := Lib.hid (KC.out.trans hk (fun _ _ x => x)); clear KC hk xl x0 x1 x2 x3 rl r0 r1 r2 r3 f0 f1 f2 f3; have KC := KN; clear KN; obtain ⟨⟨xl, x0, x1, x2, x3⟩, ⟨rl, r0, r1, r2, r3⟩, f0, f1, f2, f3⟩ := HC.out _ KC.out) | (go_at_call 40; (with_reducible refine (HHt.out _ KC.out).mono ?_); rintro e w3 ⟨rfl, hk⟩; have KN := Lib.hid (KC.out.trans hk (fun _ _ x => x)); clear KC hk xl x0 x1 x2 x3 rl r0 r1 r2 r3 f0 f1 f2 f3; have KC := KN; clear KN; obtain ⟨⟨xl, x0, x1, x2, x3⟩, ⟨rl, r0, r1, r2, r3⟩, f0, f1, f2, f3⟩ := HC.out _ KC.out) | (go_at_call 41; (with_reducible refine (HRp.out _ KC.out).mono ?_); rintro e w4 ⟨⟨⟨pk, pnm, pAn, pnn, pcn, pAk, pnk, pck⟩, he, hpv⟩, hk⟩; simp only [Tv.val] at he; subst he; have KN := Lib.hid (KC.out.trans hk (fun _ _ x => x)); clear KC hk xl x0 x1 x2 x3 rl r0 r1 r2 r3 f0 f1 f2 f3; have KC := KN; clear KN; obtain ⟨⟨xl, x0, x1, x2, x3⟩, ⟨rl, r0, r1, r2, r3⟩, f0, f1, f2, f3⟩ := HC.out _ KC.out; have hn := Norm_any (X := (fun j => X j ∨ j = rb ∨ j = mb)) (r := ⟨pk, pnm, pAn, pnn, pcn, pAk, pnk, pck⟩) (t := rr) (fun j hj => by have h1 := HM.out.2.2.1 j hj; have h2 := KC.out.size; have h3 : w4.heap.size ≤ (w4.alloc (.cells #[.int .i64 pk, .string pnm, .slice pAn pnn pcn, .slice pAk pnk pck] 25)).heap.size := ((Keep.refl (fun _ => False) w4).alloc (.cells #[.int .i64 pk, .string pnm, .slice pAn pnn pcn, .slice pAk pnk pck] 25)).size; omega) ((H.out.2.1.step (HM.out.2.1.trans KC.out (fun _ _ x => x))).step ((Keep.refl (fun _ => False) w4).alloc (.cells #[.int .i64 pk, .string pnm, .slice pAn pnn pcn, .slice pAk pnk pck] 25))) (hpv.step ((Keep.refl (fun _ => False) w4).alloc (.cells #[.int .i64 pk, .string pnm, .slice pAn pnn pcn, .slice pAk pnk pck] 25))); rw [HNo.out] at hn; unfold Tv.val at hn; simp only at hn; clear hpv) | (go_at_call 42; refine hn.mono ?_; rintro e w5 ⟨he, hk⟩; unfold NormP at he; simp only [Tv.val, tv0] at he; subst he; have KN := Lib.hid ((KC.out.alloc _).trans hk (fun _ _ x => x)); clear KC hk hn xl x0 x1 x2 x3 rl r0 r1 r2 r3 f0 f1 f2 f3; have KC := KN; clear KN; obtain ⟨⟨xl, x0, x1, x2, x3⟩, ⟨rl, r0, r1, r2, r3⟩, f0, f1, f2, f3⟩ := HC.out _ KC.out))
              (try simp only [Exit.inBlock, Exit.then])
              have ra := KC.out.at_ HM.out.2.2.2.2.2 (fun x => x)
              refine bodyPost_ret (ret_cell rfl rfl ((((ra.set 0 _).set 1 _).set 2 _).set 3 _)) rfl ?_
              exact ⟨ResP.no HR.out, KF.out _ (.int .i64 0) (.string ⟨#[]⟩) (.slice none 0 0) (.slice none 0 0) KC.out⟩
            | some n =>
              have HR := Lib.hid (show resolveT vs ws t = (some n, 0) by rw [HRR.out, hno])
              have HNo := Lib.hid hno
              clear hno
              go_wp2_with (first | (go_at_call 39; (with_reducible refine (HSz.out _ KC.out).mono ?_); rintro e w2 ⟨rfl, hk⟩; have KN := Lib.hid (KC.out.trans hk (fun _ _ x => x)); clear KC hk xl x0 x1 x2 x3 rl r0 r1 r2 r3 f0 f1 f2 f3; have KC := KN; clear KN; obtain ⟨⟨xl, x0, x1, x2, x3⟩, ⟨rl, r0, r1, r2, r3⟩, f0, f1, f2, f3⟩ := HC.out _ KC.out) | (go_at_call 40; (with_reducible refine (HHt.out _ KC.out).mono ?_); rintro e w3 ⟨rfl, hk⟩; have KN := Lib.hid (KC.out.trans hk (fun _ _ x => x)); clear KC hk xl x0 x1 x2 x3 rl r0 r1 r2 r3 f0 f1 f2 f3; have KC := KN; clear KN; obtain ⟨⟨xl, x0, x1, x2, x3⟩, ⟨rl, r0, r1, r2, r3⟩, f0, f1, f2, f3⟩ := HC.out _ KC.out) | (go_at_call 41; (with_reducible refine (HRp.out _ KC.out).mono ?_); rintro e w4 ⟨⟨⟨pk, pnm, pAn, pnn, pcn, pAk, pnk, pck⟩, he, hpv⟩, hk⟩; simp only [Tv.val] at he; subst he; have KN := Lib.hid (KC.out.trans hk (fun _ _ x => x)); clear KC hk xl x0 x1 x2 x3 rl r0 r1 r2 r3 f0 f1 f2 f3; have KC := KN; clear KN; obtain ⟨⟨xl, x0, x1, x2, x3⟩, ⟨rl, r0, r1, r2, r3⟩, f0, f1, f2, f3⟩ := HC.out _ KC.out; have hn := Norm_any (X := (fun j => X j ∨ j = rb ∨ j = mb)) (r := ⟨pk, pnm, pAn, pnn, pcn, pAk, pnk, pck⟩) (t := rr) (fun j hj => by have h1 := HM.out.2.2.1 j hj; have h2 := KC.out.size; have h3 : w4.heap.size ≤ (w4.alloc (.cells #[.int .i64 pk, .string pnm, .slice pAn pnn pcn, .slice pAk pnk pck] 25)).heap.size := ((Keep.refl (fun _ => False) w4).alloc (.cells #[.int .i64 pk, .string pnm, .slice pAn pnn pcn, .slice pAk pnk pck] 25)).size; omega) ((H.out.2.1.step (HM.out.2.1.trans KC.out (fun _ _ x => x))).step ((Keep.refl (fun _ => False) w4).alloc (.cells #[.int .i64 pk, .string pnm, .slice pAn pnn pcn, .slice pAk pnk pck] 25))) (hpv.step ((Keep.refl (fun _ => False) w4).alloc (.cells #[.int .i64 pk, .string pnm, .slice pAn pnn pcn, .slice pAk pnk pck] 25))); rw [HNo.out] at hn; unfold Tv.val at hn; simp only at hn; clear hpv) | (go_at_call 42; refine hn.mono ?_; rintro e w5 ⟨⟨⟨zk, znm, zAn, znn, zcn, zAk, znk, zck⟩, he, hzv⟩, hk⟩; simp only [Tv.val] at he; subst he; have HZV := Lib.hid hzv; have KN := Lib.hid ((KC.out.alloc _).trans hk (fun _ _ x => x)); clear KC hk hn hzv xl x0 x1 x2 x3 rl r0 r1 r2 r3 f0 f1 f2 f3; have KC := KN; clear KN; obtain ⟨⟨xl, x0, x1, x2, x3⟩, ⟨rl, r0, r1, r2, r3⟩, f0, f1, f2, f3⟩ := HC.out _ KC.out))
              (try simp only [Exit.inBlock, Exit.then])
              have ra := KC.out.at_ HM.out.2.2.2.2.2 (fun x => x)
              refine bodyPost_ret (ret_cell rfl rfl ((((ra.set 0 _).set 1 _).set 2 _).set 3 _)) rfl ?_
              exact ⟨ResP.yes (q := ⟨zk, znm, zAn, znn, zcn, zAk, znk, zck⟩) HR.out (HZV.out.keep (Keep.set4 (Keep.refl (fun g => g = rb) w5) (.inl rfl) (.int .i64 zk) (.string znm) (.slice zAn znn zcn) (.slice zAk znk zck)) (fun _ _ hx => .inr (.inl hx)) (fun _ _ hx => .inl hx)), KF.out _ _ _ _ _ KC.out⟩
end Go.Proofs.YtbanpohholnkaaaDoor

namespace Go.Proofs.YtbanpohholnkaaaDoor

def eV : Ty := .mk 8 ⟨#[65]⟩ [] []
def eVF : Ty := .mk 6 ⟨#[]⟩ [] [eV, eI]
theorem nf_SI : NF (funOf eS eI) := .mk _ ⟨rfl, .inr (.inr (.inl ⟨rfl, rfl, rfl⟩))⟩ fun k hk => by
  simp only [funOf, Ty.kids, List.mem_cons, List.not_mem_nil, or_false] at hk
  rcases hk with rfl | rfl
  · exact nf_S
  · exact nf_I
theorem norm_of {t : Ty} (h : NF t) (h1 : t.size ≤ 200) (h2 : t.ht ≤ 16) : NormT t = some t := by
  unfold NormT
  rw [if_neg (by omega)]
  exact h.norm
theorem res_of {vs : List ByteArray} {ws : List Ty} {t r n : Ty} (hl : vs.length = ws.length) (h1 : t.size ≤ 200) (h2 : t.ht ≤ 16) (hr : replT (lookT vs ws) t = some r) (hn : NormT r = some n) : resolveT vs ws t = (some n, 0) := by
  unfold resolveT
  rw [if_neg (by omega), if_neg (by omega), hr]
  simp only [hn]
theorem res_A : resolveT [⟨#[65]⟩] [eS] eVF = (some (funOf eS eI), 0) := res_of rfl (by decide) (by decide) (by kernel_rfl) (norm_of nf_SI (by decide) (by decide))
theorem res_B : resolveT [⟨#[66]⟩] [eS] eV = (none, 9) := by
  unfold resolveT
  rw [if_neg (by decide), if_neg (by decide), show replT (lookT [⟨#[66]⟩] [eS]) eV = none by kernel_rfl]
theorem res_C : resolveT [] [] eI = (some eI, 0) := res_of rfl (by decide) (by decide) (by kernel_rfl) (norm_of nf_I (by decide) (by decide))
theorem normb_S : normB eS = true := nf_S.normb (by decide) (by decide)
theorem sub_SI : subT eS eI = false := by unfold subT; rw [normb_S, normb_I]; decide +kernel
end Go.Proofs.YtbanpohholnkaaaDoor

namespace Go.Proofs.YtbanpohholnkaaaDoor
open Go.RowKit

theorem tv_var {w : World} {X : Nat → Prop} (s : ByteArray) : TyV w X ⟨8, s, none, 0, 0, none, 0, 0⟩ (.mk 8 s [] []) := TyV.mk (rs := []) ⟨rfl, Nat.zero_le _, Nat.zero_le _⟩ rfl rfl (Rd.nil _ X 1) rfl (Rd.nil _ X 4) trivial
theorem rd_s1 {w : World} {b : Nat} {e : TypeId} {s : ByteArray} (h : At w b e #[.string s]) : Rd w nX 1 (.slice (some ⟨b, 0, none⟩) 1 1) 1 (strs [s]) := by have := Rd.lit (X := nX) (size := 1) (n := 1) h (fun x => x) rfl; simpa [strs] using this
theorem rd_t1 {w : World} {b : Nat} {e : TypeId} {q : Tv} (h : At w b e q.vals.toArray) : Rd w nX 4 (.slice (some ⟨b, 0, none⟩) 1 1) 1 (tflat [q]) := by have := Rd.lit (X := nX) (size := 4) (n := 1) h (fun x => x) rfl; simpa [tflat] using this
/-- A type without parts reads alike everywhere. -/
theorem TyV.bare {w w' : World} {X Y : Nat → Prop} {q : Tv} {t : Ty} (h : TyV w X q t) (hn : t.names = []) (hk : t.kids = []) : TyV w' Y q t := by
  have h1 := h.out.1
  have h2 := h.out.2.1
  have h3 := h.out.2.2.1
  have h4 := h.out.2.2.2.1
  obtain ⟨rs, h5, h6, h7, h8⟩ := h.kds
  rw [hn] at h3 h4
  rw [hk] at h5 h8
  have hn0 : q.nn = 0 := h3
  have hk0 : q.nk = 0 := h5
  have hrs : rs = [] := by cases rs with | nil => rfl | cons _ _ => exact h8.elim
  refine TyV.mk (rs := []) h1 h2 (by rw [hn]; exact h3) ?_ (by rw [hk]; exact h5) ?_ (by rw [hk]; trivial)
  · obtain ⟨hl, A, cap, hv, hc, hr⟩ := h4
    rw [hn]
    exact ⟨hl, A, cap, hv, hc, fun h0 => by omega⟩
  · obtain ⟨hl, A, cap, hv, hc, hr⟩ := h7
    exact ⟨by simp [tflat, hk0], A, cap, hv, hc, fun h0 => by omega⟩
def BiA (w : World) (k : Nat) (a b : Value) (wr : World) : Prop := k = 1 ∧ a = .slice none 0 0 ∧ b = .int .i64 0 ∧ wr = w
set_option maxRecDepth 100000 in
set_option maxHeartbeats 2000000 in
theorem bind_aw {w : World} {vb lb : Nat} (hT : Tab w) (hv : At w vb 53 #[.string ⟨#[65]⟩, .int .i64 3, .string ⟨#[]⟩, .slice none 0 0, .slice none 0 0]) (hl : At w lb 25 #[.int .i64 4, .string ⟨#[]⟩, .slice none 0 0, .slice none 0 0]) :
    Calls Tryd.prog 37 #[.slice (some ⟨vb, 0, none⟩) 1 1, .slice (some ⟨lb, 0, none⟩) 1 1] w fun e w' => e = .returned (.int .i64 18) ∧ Keep (fun _ => False) w w' := by
  have H := Lib.hid (And.intro hT (And.intro hv hl))
  have h0 : Hid (BiA w 1 (.slice none 0 0) (.int .i64 0) w) := ⟨rfl, rfl, rfl, rfl⟩
  clear hT hv hl
  go_enter Tryd.func37, Tryd.ntmps37
  go_wp2_with fail
  go_loopg [5, 17] 1 (BiA w)
  case atStart => exact h0.out
  case round =>
    clear h0
    obtain ⟨rfl, rfl, rfl, rfl⟩ := hrel
    have kal : Keep (fun _ => False) wr (wr.alloc (.cells #[.string ⟨#[65]⟩, .int .i64 3, .string ⟨#[]⟩, .slice none 0 0, .slice none 0 0] 53)) := (Keep.refl _ wr).alloc _
    have hn := normal8_any (r := ⟨4, ⟨#[]⟩, none, 0, 0, none, 0, 0⟩) (t := eS) (H.out.1.step kal) (tv_base 4)
    rw [normb_S] at hn
    unfold Tv.val at hn
    simp only at hn
    obtain ⟨ll, l0, l1, l2, l3⟩ := H.out.2.2.tcells
    have vl := H.out.2.1.lt
    have v0 := H.out.2.1.cell 0
    have v1 := H.out.2.1.cell 1
    have v2 := H.out.2.1.cell 2
    have v3 := H.out.2.1.cell 3
    have v4 := H.out.2.1.cell 4
    simp only [List.getElem?_toArray, List.getElem?_cons_succ, List.getElem?_cons_zero] at v0 v1 v2 v3 v4
    have HK := Lib.hid kal
    clear kal
    go_upto_region 10 with (go_at_call 51; refine hn.mono ?_; rintro e w2 ⟨rfl, hk⟩; have ab := hk.at_ (At.new wr 53 #[.string ⟨#[65]⟩, .int .i64 3, .string ⟨#[]⟩, .slice none 0 0, .slice none 0 0]) (fun x => x); have bl := ab.lt; have b0 := ab.cell 0; have b1 := ab.cell 1; have b2 := ab.cell 2; have b3 := ab.cell 3; have b4 := ab.cell 4; simp only [List.getElem?_toArray, List.getElem?_cons_succ, List.getElem?_cons_zero] at b0 b1 b2 b3 b4; have K2 := Lib.hid (And.intro (HK.out.trans hk (fun _ _ x => x)) ab); clear hk hn ab ll l0 l1 l2 l3 vl v0 v1 v2 v3 v4)
    generalize wr.heap.size = vx at *
    have hrs : ∀ w', Keep (fun _ => False) w2 w' → Calls Tryd.prog 23 #[.agg #[.int .i64 3, .string ⟨#[]⟩, .slice none 0 0, .slice none 0 0], .slice none 0 0, .slice (some ⟨lb, 0, none⟩) 0 1] w' fun e w'' => ResP nX (some eI, 0) e w'' ∧ Keep (fun _ => False) w' w'' := fun w' hk => by
      have := resolve_any (w := w') (X := nX) (r := ⟨3, ⟨#[]⟩, none, 0, 0, none, 0, 0⟩) (t := eI) (vs := []) (ws := []) (rs := []) (Av := none) (Aw := some ⟨lb, 0, none⟩) (nv := 0) (cv := 0) (nw := 0) (cw := 1) (fun _ h => h.elim) ((H.out.1.step K2.out.1).step hk) (tv_base 3) (by decide) (Rd.nil _ _ 1) ⟨by simp [tflat], some ⟨lb, 0, none⟩, 1, rfl, Nat.zero_le _, fun h => absurd h (Nat.lt_irrefl _)⟩ trivial
      rw [res_C] at this
      exact this
    have HRS := Lib.hid hrs
    clear hrs
    have KC : Hid (Keep (fun _ => False) w2 w2) := Keep.refl _ _
    go_region_with (first
      | (go_at_call 23; refine (HRS.out (w2.drew.alloc (.cells #[.int .i64 0, .string ⟨#[]⟩, .slice none 0 0, .slice none 0 0] 25)) ((Keep.refl _ w2).drew.alloc _)).mono ?_; rintro e w3 ⟨⟨⟨qk, qnm, qAn, qnn, qcn, qAk, qnk, qck⟩, he, hq⟩, hk⟩; simp only [Tv.val] at he; subst he; have az : At w3 w2.heap.size 25 #[.int .i64 0, .string ⟨#[]⟩, .slice none 0 0, .slice none 0 0] := hk.at_ (At.new w2.drew 25 #[.int .i64 0, .string ⟨#[]⟩, .slice none 0 0, .slice none 0 0]) (fun x => x); obtain ⟨zl, z0, z1, z2, z3⟩ := az.tcells; have zf0 := az.frozen 0; have zf1 := az.frozen 1; have zf2 := az.frozen 2; have zf3 := az.frozen 3; have HZ := Lib.hid az; clear az; have H3 := Lib.hid (And.intro (((Keep.refl (fun _ => False) w2).drew.alloc (.cells #[.int .i64 0, .string ⟨#[]⟩, .slice none 0 0, .slice none 0 0] 25)).trans hk (fun _ _ x => x)) hq); clear hk hq)
      | (go_at_call 23; refine (HRS.out ((w2.alloc (.cells #[.int .i64 0, .string ⟨#[]⟩, .slice none 0 0, .slice none 0 0] 25)).drew) ((Keep.refl _ w2).alloc _).drew).mono ?_; rintro e w3 ⟨⟨⟨qk, qnm, qAn, qnn, qcn, qAk, qnk, qck⟩, he, hq⟩, hk⟩; simp only [Tv.val] at he; subst he; have az : At w3 w2.heap.size 25 #[.int .i64 0, .string ⟨#[]⟩, .slice none 0 0, .slice none 0 0] := hk.at_ ((At.new w2 25 #[.int .i64 0, .string ⟨#[]⟩, .slice none 0 0, .slice none 0 0]).drew) (fun x => x); obtain ⟨zl, z0, z1, z2, z3⟩ := az.tcells; have zf0 := az.frozen 0; have zf1 := az.frozen 1; have zf2 := az.frozen 2; have zf3 := az.frozen 3; have HZ := Lib.hid az; clear az; have H3 := Lib.hid (And.intro (((Keep.refl (fun _ => False) w2).alloc (.cells #[.int .i64 0, .string ⟨#[]⟩, .slice none 0 0, .slice none 0 0] 25)).drew.trans hk (fun _ _ x => x)) hq); clear hk hq)
      | (go_at_call 23; refine (HRS.out w2.drew (Keep.refl _ w2).drew).mono ?_; rintro e w3 ⟨⟨⟨qk, qnm, qAn, qnn, qcn, qAk, qnk, qck⟩, he, hq⟩, hk⟩; simp only [Tv.val] at he; subst he; have H3 := Lib.hid (And.intro ((Keep.refl (fun _ => False) w2).drew.trans hk (fun _ _ x => x)) hq); clear hk hq))
    · go_simp
      go_upto_region 11 with fail
      refine gen_world ?_
      intro W5 hW5
      have K5 : Hid (Keep (fun _ => False) wr W5) := by rw [hW5]; exact (K2.out.1.trans H3.out.1 (fun _ _ x => x)).alloc _
      have a8 : At W5 w3.heap.size 25 #[.int .i64 qk, .string qnm, .slice qAn qnn qcn, .slice qAk qnk qck] := by rw [hW5]; exact At.new _ _ _
      clear hW5
      generalize w3.heap.size = p8 at *
      have al := K5.out.at_ H.out.2.2 (fun x => x)
      have hsk : Hid (∀ w', Keep (fun _ => False) W5 w' → (lb < w'.heap.size ∧ w'.cell? ⟨lb, 0, none⟩ = some (.int .i64 4) ∧ w'.cell? ⟨lb, 1, none⟩ = some (.string ⟨#[]⟩) ∧ w'.cell? ⟨lb, 2, none⟩ = some (.slice none 0 0) ∧ w'.cell? ⟨lb, 3, none⟩ = some (.slice none 0 0)) ∧ (p8 < w'.heap.size ∧ w'.cell? ⟨p8, 0, none⟩ = some (.int .i64 qk) ∧ w'.cell? ⟨p8, 1, none⟩ = some (.string qnm) ∧ w'.cell? ⟨p8, 2, none⟩ = some (.slice qAn qnn qcn) ∧ w'.cell? ⟨p8, 3, none⟩ = some (.slice qAk qnk qck))) := fun w' hk => ⟨(hk.at_ al (fun x => x)).tcells, (hk.at_ a8 (fun x => x)).tcells⟩
      have kd3 : Hid (Keep (fun _ => False) W5 W5.drew) := (Keep.refl _ _).drew
      have hcs := rsub_any (a := eS) (b := eI) (r := ⟨4, ⟨#[]⟩, none, 0, 0, none, 0, 0⟩) (r' := ⟨qk, qnm, qAn, qnn, qcn, qAk, qnk, qck⟩) ((H.out.1.step K5.out).step kd3.out) (tv_base 4) (H3.out.2.bare (w' := W5.drew) (Y := nX) rfl rfl)
      rw [sub_SI] at hcs
      unfold Tv.val at hcs
      simp only at hcs
      clear al a8
      have i0 : (0 : Int) ≤ 0 := by omega
      refine wp_region_held_n (S := fun w' => (lb < w'.heap.size ∧ w'.cell? ⟨lb, 0, none⟩ = some (.int .i64 4) ∧ w'.cell? ⟨lb, 1, none⟩ = some (.string ⟨#[]⟩) ∧ w'.cell? ⟨lb, 2, none⟩ = some (.slice none 0 0) ∧ w'.cell? ⟨lb, 3, none⟩ = some (.slice none 0 0)) ∧ (p8 < w'.heap.size ∧ w'.cell? ⟨p8, 0, none⟩ = some (.int .i64 qk) ∧ w'.cell? ⟨p8, 1, none⟩ = some (.string qnm) ∧ w'.cell? ⟨p8, 2, none⟩ = some (.slice qAn qnn qcn) ∧ w'.cell? ⟨p8, 3, none⟩ = some (.slice qAk qnk qck))) 11 rfl (by kernel_rfl) ?_ (fun hHeld => ?_)
      · exact hsk.out _ kd3.out
      refine' wpAnyH_tk (i := 0) (v := _) rfl (by kernel_rfl) (by decide +kernel) (by decide +kernel) (fun _ _ _ h => h) (Or.inl ⟨by rfl, ?_⟩) (by assumption) ?_
      rotate_left
      · (intro w hSw; (try dsimp only at hSw); (try go_simp); (try (with_reducible rfl)))
      (try simp only [Act.put, List.setIfInBounds_toArray, List.set_cons_zero, List.set_cons_succ])
      refine' wpAnyH_tk (i := 1) (v := _) rfl (by kernel_rfl) (by decide +kernel) (by decide +kernel) (fun _ _ _ h => h) (Or.inl ⟨by rfl, ?_⟩) (by assumption) ?_
      rotate_left
      · (intro w hSw; (try dsimp only at hSw); (try go_simp); (try (with_reducible rfl)))
      (try simp only [Act.put, List.setIfInBounds_toArray, List.set_cons_zero, List.set_cons_succ])
      refine' wpAnyH_tk (i := 2) (v := _) rfl (by kernel_rfl) (by decide +kernel) (by decide +kernel) (fun _ _ _ h => h) (Or.inl ⟨by rfl, ?_⟩) (by assumption) ?_
      rotate_left
      · (intro w hSw; (try dsimp only at hSw); (try go_simp); (try (with_reducible rfl)))
      (try simp only [Act.put, List.setIfInBounds_toArray, List.set_cons_zero, List.set_cons_succ])
      refine' wpAnyH_tk (i := 3) (v := _) rfl (by kernel_rfl) (by decide +kernel) (by decide +kernel) (fun _ _ _ h => h) (Or.inl ⟨by rfl, ?_⟩) (by assumption) ?_
      rotate_left
      · (intro w hSw; (try dsimp only at hSw); (try go_simp); (try (with_reducible rfl)))
      (try simp only [Act.put, List.setIfInBounds_toArray, List.set_cons_zero, List.set_cons_succ])
      refine' wpAnyH_tk (i := 4) (v := _) rfl (by kernel_rfl) (by decide +kernel) (by decide +kernel) (fun _ _ _ h => h) (Or.inl ⟨by rfl, ?_⟩) (by assumption) ?_
      rotate_left
      · (intro w hSw; (try dsimp only at hSw); (try go_simp); (try (with_reducible rfl)))
      (try simp only [Act.put, List.setIfInBounds_toArray, List.set_cons_zero, List.set_cons_succ])
      refine' wpAnyH_tk (i := 5) (v := _) rfl (by kernel_rfl) (by decide +kernel) (by decide +kernel) (fun _ _ _ h => h) (Or.inl ⟨by rfl, ?_⟩) (by assumption) ?_
      rotate_left
      · (intro w hSw; (try dsimp only at hSw); (try go_simp); (try (with_reducible rfl)))
      (try simp only [Act.put, List.setIfInBounds_toArray, List.set_cons_zero, List.set_cons_succ])
      refine' wpAnyH_tk (i := 6) (v := _) rfl (by kernel_rfl) (by decide +kernel) (by decide +kernel) (fun _ _ _ h => h) (Or.inl ⟨by rfl, ?_⟩) (by assumption) ?_
      rotate_left
      · (intro w hSw; (try dsimp only at hSw); (try go_simp); (try (with_reducible rfl)))
      (try simp only [Act.put, List.setIfInBounds_toArray, List.set_cons_zero, List.set_cons_succ])
      refine' wpAnyH_tk (i := 7) (v := _) rfl (by kernel_rfl) (by decide +kernel) (by decide +kernel) (fun _ _ _ h => h) (Or.inl ⟨by rfl, ?_⟩) (by assumption) ?_
      rotate_left
      · (intro w hSw; (try dsimp only at hSw); (try go_simp); (try (with_reducible rfl)))
      (try simp only [Act.put, List.setIfInBounds_toArray, List.set_cons_zero, List.set_cons_succ])
      refine wpAnyH_ready (rs := [8]) (by decide +kernel) (by simp) ?_
      refine AllReadyH_one rfl (fun K hK => ?_)
      go_simp
      go_at_call 16
      refine hcs.mono ?_
      rintro e w6 ⟨rfl, hk6⟩
      have KA := Lib.hid (kd3.out.trans hk6 (fun _ _ x => x))
      clear hk6 hcs
      refine hK.out _ _ ?_ (fun hHeld => ?_)
      · exact hsk.out _ KA.out
      clear hK K
      (try simp only [Act.put, List.setIfInBounds_toArray, List.set_cons_zero, List.set_cons_succ])
      refine' wpAnyH_tk (i := 9) (v := _) rfl (by kernel_rfl) (by decide +kernel) (by decide +kernel) (fun _ _ _ h => h) (Or.inl ⟨by rfl, ?_⟩) (by assumption) ?_
      rotate_left
      · (intro w hSw; (try dsimp only at hSw); (try go_simp); (try (with_reducible rfl)))
      (try simp only [Act.put, List.setIfInBounds_toArray, List.set_cons_zero, List.set_cons_succ])
      refine' wpAnyH_tk (i := 10) (v := _) rfl (by kernel_rfl) (by decide +kernel) (by decide +kernel) (fun _ _ _ h => h) (Or.inl ⟨by rfl, ?_⟩) (by assumption) ?_
      rotate_left
      · (intro w hSw; (try dsimp only at hSw); (try go_simp); (try (with_reducible rfl)))
      (try simp only [Act.put, List.setIfInBounds_toArray, List.set_cons_zero, List.set_cons_succ])
      refine wpAnyH_done (by decide +kernel) ?_ _
      go_wp2_with fail
      go_ret
      exact ⟨rfl, K5.out.trans KA.out (fun _ _ x => x)⟩
    · go_simp
      go_upto_region 11 with fail
      refine gen_world ?_
      intro W5 hW5
      have K5 : Hid (Keep (fun _ => False) wr W5) := by rw [hW5]; exact (K2.out.1.trans (H3.out.1.weak (Keep.set4 (Keep.refl (fun j => j = w2.heap.size) w3) (.inl rfl) (.int .i64 qk) (.string qnm) (.slice qAn qnn qcn) (.slice qAk qnk qck)) (fun j hj => Nat.le_of_eq hj.symm)) (fun _ _ x => x))
      have a8 : At W5 w2.heap.size 25 #[.int .i64 qk, .string qnm, .slice qAn qnn qcn, .slice qAk qnk qck] := by rw [hW5]; exact (((HZ.out.set 0 _).set 1 _).set 2 _).set 3 _
      clear hW5
      generalize w2.heap.size = p8 at *
      have al := K5.out.at_ H.out.2.2 (fun x => x)
      have hsk : Hid (∀ w', Keep (fun _ => False) W5 w' → (lb < w'.heap.size ∧ w'.cell? ⟨lb, 0, none⟩ = some (.int .i64 4) ∧ w'.cell? ⟨lb, 1, none⟩ = some (.string ⟨#[]⟩) ∧ w'.cell? ⟨lb, 2, none⟩ = some (.slice none 0 0) ∧ w'.cell? ⟨lb, 3, none⟩ = some (.slice none 0 0)) ∧ (p8 < w'.heap.size ∧ w'.cell? ⟨p8, 0, none⟩ = some (.int .i64 qk) ∧ w'.cell? ⟨p8, 1, none⟩ = some (.string qnm) ∧ w'.cell? ⟨p8, 2, none⟩ = some (.slice qAn qnn qcn) ∧ w'.cell? ⟨p8, 3, none⟩ = some (.slice qAk qnk qck))) := fun w' hk => ⟨(hk.at_ al (fun x => x)).tcells, (hk.at_ a8 (fun x => x)).tcells⟩
      have kd3 : Hid (Keep (fun _ => False) W5 W5.drew) := (Keep.refl _ _).drew
      have hcs := rsub_any (a := eS) (b := eI) (r := ⟨4, ⟨#[]⟩, none, 0, 0, none, 0, 0⟩) (r' := ⟨qk, qnm, qAn, qnn, qcn, qAk, qnk, qck⟩) ((H.out.1.step K5.out).step kd3.out) (tv_base 4) (H3.out.2.bare (w' := W5.drew) (Y := nX) rfl rfl)
      rw [sub_SI] at hcs
      unfold Tv.val at hcs
      simp only at hcs
      clear al a8
      have i0 : (0 : Int) ≤ 0 := by omega
      refine wp_region_held_n (S := fun w' => (lb < w'.heap.size ∧ w'.cell? ⟨lb, 0, none⟩ = some (.int .i64 4) ∧ w'.cell? ⟨lb, 1, none⟩ = some (.string ⟨#[]⟩) ∧ w'.cell? ⟨lb, 2, none⟩ = some (.slice none 0 0) ∧ w'.cell? ⟨lb, 3, none⟩ = some (.slice none 0 0)) ∧ (p8 < w'.heap.size ∧ w'.cell? ⟨p8, 0, none⟩ = some (.int .i64 qk) ∧ w'.cell? ⟨p8, 1, none⟩ = some (.string qnm) ∧ w'.cell? ⟨p8, 2, none⟩ = some (.slice qAn qnn qcn) ∧ w'.cell? ⟨p8, 3, none⟩ = some (.slice qAk qnk qck))) 11 rfl (by kernel_rfl) ?_ (fun hHeld => ?_)
      · exact hsk.out _ kd3.out
      refine' wpAnyH_tk (i := 0) (v := _) rfl (by kernel_rfl) (by decide +kernel) (by decide +kernel) (fun _ _ _ h => h) (Or.inl ⟨by rfl, ?_⟩) (by assumption) ?_
      rotate_left
      · (intro w hSw; (try dsimp only at hSw); (try go_simp); (try (with_reducible rfl)))
      (try simp only [Act.put, List.setIfInBounds_toArray, List.set_cons_zero, List.set_cons_succ])
      refine' wpAnyH_tk (i := 1) (v := _) rfl (by kernel_rfl) (by decide +kernel) (by decide +kernel) (fun _ _ _ h => h) (Or.inl ⟨by rfl, ?_⟩) (by assumption) ?_
      rotate_left
      · (intro w hSw; (try dsimp only at hSw); (try go_simp); (try (with_reducible rfl)))
      (try simp only [Act.put, List.setIfInBounds_toArray, List.set_cons_zero, List.set_cons_succ])
      refine' wpAnyH_tk (i := 2) (v := _) rfl (by kernel_rfl) (by decide +kernel) (by decide +kernel) (fun _ _ _ h => h) (Or.inl ⟨by rfl, ?_⟩) (by assumption) ?_
      rotate_left
      · (intro w hSw; (try dsimp only at hSw); (try go_simp); (try (with_reducible rfl)))
      (try simp only [Act.put, List.setIfInBounds_toArray, List.set_cons_zero, List.set_cons_succ])
      refine' wpAnyH_tk (i := 3) (v := _) rfl (by kernel_rfl) (by decide +kernel) (by decide +kernel) (fun _ _ _ h => h) (Or.inl ⟨by rfl, ?_⟩) (by assumption) ?_
      rotate_left
      · (intro w hSw; (try dsimp only at hSw); (try go_simp); (try (with_reducible rfl)))
      (try simp only [Act.put, List.setIfInBounds_toArray, List.set_cons_zero, List.set_cons_succ])
      refine' wpAnyH_tk (i := 4) (v := _) rfl (by kernel_rfl) (by decide +kernel) (by decide +kernel) (fun _ _ _ h => h) (Or.inl ⟨by rfl, ?_⟩) (by assumption) ?_
      rotate_left
      · (intro w hSw; (try dsimp only at hSw); (try go_simp); (try (with_reducible rfl)))
      (try simp only [Act.put, List.setIfInBounds_toArray, List.set_cons_zero, List.set_cons_succ])
      refine' wpAnyH_tk (i := 5) (v := _) rfl (by kernel_rfl) (by decide +kernel) (by decide +kernel) (fun _ _ _ h => h) (Or.inl ⟨by rfl, ?_⟩) (by assumption) ?_
      rotate_left
      · (intro w hSw; (try dsimp only at hSw); (try go_simp); (try (with_reducible rfl)))
      (try simp only [Act.put, List.setIfInBounds_toArray, List.set_cons_zero, List.set_cons_succ])
      refine' wpAnyH_tk (i := 6) (v := _) rfl (by kernel_rfl) (by decide +kernel) (by decide +kernel) (fun _ _ _ h => h) (Or.inl ⟨by rfl, ?_⟩) (by assumption) ?_
      rotate_left
      · (intro w hSw; (try dsimp only at hSw); (try go_simp); (try (with_reducible rfl)))
      (try simp only [Act.put, List.setIfInBounds_toArray, List.set_cons_zero, List.set_cons_succ])
      refine' wpAnyH_tk (i := 7) (v := _) rfl (by kernel_rfl) (by decide +kernel) (by decide +kernel) (fun _ _ _ h => h) (Or.inl ⟨by rfl, ?_⟩) (by assumption) ?_
      rotate_left
      · (intro w hSw; (try dsimp only at hSw); (try go_simp); (try (with_reducible rfl)))
      (try simp only [Act.put, List.setIfInBounds_toArray, List.set_cons_zero, List.set_cons_succ])
      refine wpAnyH_ready (rs := [8]) (by decide +kernel) (by simp) ?_
      refine AllReadyH_one rfl (fun K hK => ?_)
      go_simp
      go_at_call 16
      refine hcs.mono ?_
      rintro e w6 ⟨rfl, hk6⟩
      have KA := Lib.hid (kd3.out.trans hk6 (fun _ _ x => x))
      clear hk6 hcs
      refine hK.out _ _ ?_ (fun hHeld => ?_)
      · exact hsk.out _ KA.out
      clear hK K
      (try simp only [Act.put, List.setIfInBounds_toArray, List.set_cons_zero, List.set_cons_succ])
      refine' wpAnyH_tk (i := 9) (v := _) rfl (by kernel_rfl) (by decide +kernel) (by decide +kernel) (fun _ _ _ h => h) (Or.inl ⟨by rfl, ?_⟩) (by assumption) ?_
      rotate_left
      · (intro w hSw; (try dsimp only at hSw); (try go_simp); (try (with_reducible rfl)))
      (try simp only [Act.put, List.setIfInBounds_toArray, List.set_cons_zero, List.set_cons_succ])
      refine' wpAnyH_tk (i := 10) (v := _) rfl (by kernel_rfl) (by decide +kernel) (by decide +kernel) (fun _ _ _ h => h) (Or.inl ⟨by rfl, ?_⟩) (by assumption) ?_
      rotate_left
      · (intro w hSw; (try dsimp only at hSw); (try go_simp); (try (with_reducible rfl)))
      (try simp only [Act.put, List.setIfInBounds_toArray, List.set_cons_zero, List.set_cons_succ])
      refine wpAnyH_done (by decide +kernel) ?_ _
      go_wp2_with fail
      go_ret
      exact ⟨rfl, K5.out.trans KA.out (fun _ _ x => x)⟩
    · go_simp
      go_upto_region 11 with fail
      refine gen_world ?_
      intro W5 hW5
      have K5 : Hid (Keep (fun _ => False) wr W5) := by rw [hW5]; exact (K2.out.1.trans (H3.out.1.weak (Keep.set4 (Keep.refl (fun j => j = w2.heap.size) w3) (.inl rfl) (.int .i64 qk) (.string qnm) (.slice qAn qnn qcn) (.slice qAk qnk qck)) (fun j hj => Nat.le_of_eq hj.symm)) (fun _ _ x => x))
      have a8 : At W5 w2.heap.size 25 #[.int .i64 qk, .string qnm, .slice qAn qnn qcn, .slice qAk qnk qck] := by rw [hW5]; exact (((HZ.out.set 0 _).set 1 _).set 2 _).set 3 _
      clear hW5
      generalize w2.heap.size = p8 at *
      have al := K5.out.at_ H.out.2.2 (fun x => x)
      have hsk : Hid (∀ w', Keep (fun _ => False) W5 w' → (lb < w'.heap.size ∧ w'.cell? ⟨lb, 0, none⟩ = some (.int .i64 4) ∧ w'.cell? ⟨lb, 1, none⟩ = some (.string ⟨#[]⟩) ∧ w'.cell? ⟨lb, 2, none⟩ = some (.slice none 0 0) ∧ w'.cell? ⟨lb, 3, none⟩ = some (.slice none 0 0)) ∧ (p8 < w'.heap.size ∧ w'.cell? ⟨p8, 0, none⟩ = some (.int .i64 qk) ∧ w'.cell? ⟨p8, 1, none⟩ = some (.string qnm) ∧ w'.cell? ⟨p8, 2, none⟩ = some (.slice qAn qnn qcn) ∧ w'.cell? ⟨p8, 3, none⟩ = some (.slice qAk qnk qck))) := fun w' hk => ⟨(hk.at_ al (fun x => x)).tcells, (hk.at_ a8 (fun x => x)).tcells⟩
      have kd3 : Hid (Keep (fun _ => False) W5 W5.drew) := (Keep.refl _ _).drew
      have hcs := rsub_any (a := eS) (b := eI) (r := ⟨4, ⟨#[]⟩, none, 0, 0, none, 0, 0⟩) (r' := ⟨qk, qnm, qAn, qnn, qcn, qAk, qnk, qck⟩) ((H.out.1.step K5.out).step kd3.out) (tv_base 4) (H3.out.2.bare (w' := W5.drew) (Y := nX) rfl rfl)
      rw [sub_SI] at hcs
      unfold Tv.val at hcs
      simp only at hcs
      clear al a8
      have i0 : (0 : Int) ≤ 0 := by omega
      refine wp_region_held_n (S := fun w' => (lb < w'.heap.size ∧ w'.cell? ⟨lb, 0, none⟩ = some (.int .i64 4) ∧ w'.cell? ⟨lb, 1, none⟩ = some (.string ⟨#[]⟩) ∧ w'.cell? ⟨lb, 2, none⟩ = some (.slice none 0 0) ∧ w'.cell? ⟨lb, 3, none⟩ = some (.slice none 0 0)) ∧ (p8 < w'.heap.size ∧ w'.cell? ⟨p8, 0, none⟩ = some (.int .i64 qk) ∧ w'.cell? ⟨p8, 1, none⟩ = some (.string qnm) ∧ w'.cell? ⟨p8, 2, none⟩ = some (.slice qAn qnn qcn) ∧ w'.cell? ⟨p8, 3, none⟩ = some (.slice qAk qnk qck))) 11 rfl (by kernel_rfl) ?_ (fun hHeld => ?_)
      · exact hsk.out _ kd3.out
      refine' wpAnyH_tk (i := 0) (v := _) rfl (by kernel_rfl) (by decide +kernel) (by decide +kernel) (fun _ _ _ h => h) (Or.inl ⟨by rfl, ?_⟩) (by assumption) ?_
      rotate_left
      · (intro w hSw; (try dsimp only at hSw); (try go_simp); (try (with_reducible rfl)))
      (try simp only [Act.put, List.setIfInBounds_toArray, List.set_cons_zero, List.set_cons_succ])
      refine' wpAnyH_tk (i := 1) (v := _) rfl (by kernel_rfl) (by decide +kernel) (by decide +kernel) (fun _ _ _ h => h) (Or.inl ⟨by rfl, ?_⟩) (by assumption) ?_
      rotate_left
      · (intro w hSw; (try dsimp only at hSw); (try go_simp); (try (with_reducible rfl)))
      (try simp only [Act.put, List.setIfInBounds_toArray, List.set_cons_zero, List.set_cons_succ])
      refine' wpAnyH_tk (i := 2) (v := _) rfl (by kernel_rfl) (by decide +kernel) (by decide +kernel) (fun _ _ _ h => h) (Or.inl ⟨by rfl, ?_⟩) (by assumption) ?_
      rotate_left
      · (intro w hSw; (try dsimp only at hSw); (try go_simp); (try (with_reducible rfl)))
      (try simp only [Act.put, List.setIfInBounds_toArray, List.set_cons_zero, List.set_cons_succ])
      refine' wpAnyH_tk (i := 3) (v := _) rfl (by kernel_rfl) (by decide +kernel) (by decide +kernel) (fun _ _ _ h => h) (Or.inl ⟨by rfl, ?_⟩) (by assumption) ?_
      rotate_left
      · (intro w hSw; (try dsimp only at hSw); (try go_simp); (try (with_reducible rfl)))
      (try simp only [Act.put, List.setIfInBounds_toArray, List.set_cons_zero, List.set_cons_succ])
      refine' wpAnyH_tk (i := 4) (v := _) rfl (by kernel_rfl) (by decide +kernel) (by decide +kernel) (fun _ _ _ h => h) (Or.inl ⟨by rfl, ?_⟩) (by assumption) ?_
      rotate_left
      · (intro w hSw; (try dsimp only at hSw); (try go_simp); (try (with_reducible rfl)))
      (try simp only [Act.put, List.setIfInBounds_toArray, List.set_cons_zero, List.set_cons_succ])
      refine' wpAnyH_tk (i := 5) (v := _) rfl (by kernel_rfl) (by decide +kernel) (by decide +kernel) (fun _ _ _ h => h) (Or.inl ⟨by rfl, ?_⟩) (by assumption) ?_
      rotate_left
      · (intro w hSw; (try dsimp only at hSw); (try go_simp); (try (with_reducible rfl)))
      (try simp only [Act.put, List.setIfInBounds_toArray, List.set_cons_zero, List.set_cons_succ])
      refine' wpAnyH_tk (i := 6) (v := _) rfl (by kernel_rfl) (by decide +kernel) (by decide +kernel) (fun _ _ _ h => h) (Or.inl ⟨by rfl, ?_⟩) (by assumption) ?_
      rotate_left
      · (intro w hSw; (try dsimp only at hSw); (try go_simp); (try (with_reducible rfl)))
      (try simp only [Act.put, List.setIfInBounds_toArray, List.set_cons_zero, List.set_cons_succ])
      refine' wpAnyH_tk (i := 7) (v := _) rfl (by kernel_rfl) (by decide +kernel) (by decide +kernel) (fun _ _ _ h => h) (Or.inl ⟨by rfl, ?_⟩) (by assumption) ?_
      rotate_left
      · (intro w hSw; (try dsimp only at hSw); (try go_simp); (try (with_reducible rfl)))
      (try simp only [Act.put, List.setIfInBounds_toArray, List.set_cons_zero, List.set_cons_succ])
      refine wpAnyH_ready (rs := [8]) (by decide +kernel) (by simp) ?_
      refine AllReadyH_one rfl (fun K hK => ?_)
      go_simp
      go_at_call 16
      refine hcs.mono ?_
      rintro e w6 ⟨rfl, hk6⟩
      have KA := Lib.hid (kd3.out.trans hk6 (fun _ _ x => x))
      clear hk6 hcs
      refine hK.out _ _ ?_ (fun hHeld => ?_)
      · exact hsk.out _ KA.out
      clear hK K
      (try simp only [Act.put, List.setIfInBounds_toArray, List.set_cons_zero, List.set_cons_succ])
      refine' wpAnyH_tk (i := 9) (v := _) rfl (by kernel_rfl) (by decide +kernel) (by decide +kernel) (fun _ _ _ h => h) (Or.inl ⟨by rfl, ?_⟩) (by assumption) ?_
      rotate_left
      · (intro w hSw; (try dsimp only at hSw); (try go_simp); (try (with_reducible rfl)))
      (try simp only [Act.put, List.setIfInBounds_toArray, List.set_cons_zero, List.set_cons_succ])
      refine' wpAnyH_tk (i := 10) (v := _) rfl (by kernel_rfl) (by decide +kernel) (by decide +kernel) (fun _ _ _ h => h) (Or.inl ⟨by rfl, ?_⟩) (by assumption) ?_
      rotate_left
      · (intro w hSw; (try dsimp only at hSw); (try go_simp); (try (with_reducible rfl)))
      (try simp only [Act.put, List.setIfInBounds_toArray, List.set_cons_zero, List.set_cons_succ])
      refine wpAnyH_done (by decide +kernel) ?_ _
      go_wp2_with fail
      go_ret
      exact ⟨rfl, K5.out.trans KA.out (fun _ _ x => x)⟩
set_option maxRecDepth 100000 in
set_option maxHeartbeats 2000000 in
theorem iawake_any {w : World} (hT : Tab w) :
    Calls Tryd.prog 21 #[] w fun e w' => e = .returned (.bool true) ∧ Keep (fun _ => False) w w' := by
  have H := Lib.hid hT
  clear hT
  go_enter Tryd.func21, Tryd.ntmps21
  go_upto_region 4 with fail
  refine gen_world ?_
  intro W hW
  have kW : Keep (fun _ => False) w W := by rw [hW]; exact (((Keep.refl _ w).alloc _).alloc _).alloc _
  have a0 : At W w.heap.size 25 #[.int .i64 8, .string ⟨#[65]⟩, .slice none 0 0, .slice none 0 0] := by rw [hW]; exact ((At.new_at (by simp)).alloc _).alloc _
  have a1 : At W (w.heap.size + 1) 25 #[.int .i64 3, .string ⟨#[]⟩, .slice none 0 0, .slice none 0 0] := by rw [hW]; exact (At.new_at (by simp)).alloc _
  have a2 : At W (w.heap.size + 1 + 1) 25 #[.int .i64 4, .string ⟨#[]⟩, .slice none 0 0, .slice none 0 0] := by rw [hW]; exact At.new_at (by simp)
  clear hW
  generalize w.heap.size + 1 + 1 = b2 at *
  generalize w.heap.size + 1 = b1 at *
  generalize w.heap.size = b0 at *
  have k4 : Keep (fun _ => False) W (((W.alloc (.cells #[.int .i64 8, .string ⟨#[65]⟩, .slice none 0 0, .slice none 0 0, .int .i64 3, .string ⟨#[]⟩, .slice none 0 0, .slice none 0 0] 25)).alloc (.cells #[.string ⟨#[65]⟩] 9)).alloc (.cells #[.int .i64 4, .string ⟨#[]⟩, .slice none 0 0, .slice none 0 0] 25)) := (((Keep.refl _ W).alloc _).alloc _).alloc _
  have hc := resolve_any (X := nX) (r := ⟨6, ⟨#[]⟩, none, 0, 0, some ⟨W.heap.size, 0, none⟩, 2, 2⟩) (t := eVF) (vs := [⟨#[65]⟩]) (ws := [eS]) (rs := [⟨4, ⟨#[]⟩, none, 0, 0, none, 0, 0⟩]) (fun _ h => h.elim) ((H.out.step kW).step k4)
    (tv_two (q1 := ⟨8, ⟨#[65]⟩, none, 0, 0, none, 0, 0⟩) (q2 := ⟨3, ⟨#[]⟩, none, 0, 0, none, 0, 0⟩) 6 (((At.new_at (by simp)).alloc _).alloc _ : At _ W.heap.size 25 #[.int .i64 8, .string ⟨#[65]⟩, .slice none 0 0, .slice none 0 0, .int .i64 3, .string ⟨#[]⟩, .slice none 0 0, .slice none 0 0]) (fun x => x) (tv_var _) (tv_base 3)) (by decide)
    (rd_s1 ((At.new_at (by simp)).alloc _ : At _ (W.heap.size + 1) 9 #[.string ⟨#[65]⟩])) (rd_t1 (q := ⟨4, ⟨#[]⟩, none, 0, 0, none, 0, 0⟩) (At.new_at (by simp) : At _ (W.heap.size + 1 + 1) 25 #[.int .i64 4, .string ⟨#[]⟩, .slice none 0 0, .slice none 0 0])) ⟨tv_base 4, trivial⟩
  rw [res_A] at hc
  unfold Tv.val at hc
  simp only at hc
  have HB := Lib.hid (And.intro kW (And.intro a0 (And.intro a1 (And.intro a2 k4))))
  obtain ⟨x0l, x00, x01, x02, x03⟩ := a0.tcells
  obtain ⟨x1l, x10, x11, x12, x13⟩ := a1.tcells
  obtain ⟨x2l, x20, x21, x22, x23⟩ := a2.tcells
  clear kW a0 a1 a2 k4
  go_upto_region 5 with (go_at_call 23; refine hc.mono ?_; rintro e w1 ⟨⟨⟨qk, qnm, qAn, qnn, qcn, qAk, qnk, qck⟩, he, hq⟩, hk⟩; simp only [Tv.val] at he; subst he; have H1 := Lib.hid (And.intro hk hq); clear hk hc hq)
  refine gen_world ?_
  intro W1 hW1
  have k1 : Keep (fun _ => False) W W1 := by rw [hW1]; exact (HB.out.2.2.2.2.trans H1.out.1 (fun _ _ x => x)).alloc _
  have a4 : At W1 w1.heap.size 25 #[.int .i64 qk, .string qnm, .slice qAn qnn qcn, .slice qAk qnk qck] := by rw [hW1]; exact At.new _ _ _
  have v4 := H1.out.2.step (show Keep (fun _ => False) w1 W1 by rw [hW1]; exact (Keep.refl _ w1).alloc _)
  clear hW1 H1 x0l x00 x01 x02 x03 x1l x10 x11 x12 x13 x2l x20 x21 x22 x23
  generalize w1.heap.size = b4 at *
  have k5 : Keep (fun _ => False) W1 ((W1.alloc (.cells #[.string ⟨#[66]⟩] 9)).alloc (.cells #[.int .i64 4, .string ⟨#[]⟩, .slice none 0 0, .slice none 0 0] 25)) := ((Keep.refl _ W1).alloc _).alloc _
  have hc := resolve_any (X := nX) (r := ⟨8, ⟨#[65]⟩, none, 0, 0, none, 0, 0⟩) (t := eV) (vs := [⟨#[66]⟩]) (ws := [eS]) (rs := [⟨4, ⟨#[]⟩, none, 0, 0, none, 0, 0⟩]) (fun _ h => h.elim) (((H.out.step HB.out.1).step k1).step k5)
    (tv_var _) (by decide) (rd_s1 ((At.new_at (by simp)).alloc _ : At _ W1.heap.size 9 #[.string ⟨#[66]⟩])) (rd_t1 (q := ⟨4, ⟨#[]⟩, none, 0, 0, none, 0, 0⟩) (At.new_at (by simp) : At _ (W1.heap.size + 1) 25 #[.int .i64 4, .string ⟨#[]⟩, .slice none 0 0, .slice none 0 0])) ⟨tv_base 4, trivial⟩
  rw [res_B] at hc
  unfold Tv.val at hc
  simp only at hc
  obtain ⟨x0l, x00, x01, x02, x03⟩ := (k1.at_ HB.out.2.1 (fun x => x)).tcells
  obtain ⟨x2l, x20, x21, x22, x23⟩ := (k1.at_ HB.out.2.2.2.1 (fun x => x)).tcells
  have HD := Lib.hid (And.intro k1 (And.intro a4 (And.intro v4 k5)))
  clear k1 a4 v4 k5
  go_upto_region 6 with (go_at_call 23; refine hc.mono ?_; rintro e w2 ⟨he, hk⟩; unfold ResP at he; simp only [Tv.val, tv0] at he; subst he; have H2 := Lib.hid hk; clear hk hc)
  refine gen_world ?_
  intro W2 hW2
  have k2 : Keep (fun _ => False) W1 W2 := by rw [hW2]; exact (HD.out.2.2.2.trans H2.out (fun _ _ x => x)).alloc _
  clear hW2 H2 x0l x00 x01 x02 x03 x2l x20 x21 x22 x23
  have k6 : Keep (fun _ => False) W2 (W2.alloc (.cells #[.int .i64 4, .string ⟨#[]⟩, .slice none 0 0, .slice none 0 0, .int .i64 3, .string ⟨#[]⟩, .slice none 0 0, .slice none 0 0] 25)) := (Keep.refl _ W2).alloc _
  have hs := rSame_any (X := nX) (Y := nX) (funOf eS eI) (funOf eS eI) (W2.alloc (.cells #[.int .i64 4, .string ⟨#[]⟩, .slice none 0 0, .slice none 0 0, .int .i64 3, .string ⟨#[]⟩, .slice none 0 0, .slice none 0 0] 25)) ⟨qk, qnm, qAn, qnn, qcn, qAk, qnk, qck⟩ ⟨6, ⟨#[]⟩, none, 0, 0, some ⟨W2.heap.size, 0, none⟩, 2, 2⟩ ((HD.out.2.2.1.step k2).step k6) (tv_two (q1 := ⟨4, ⟨#[]⟩, none, 0, 0, none, 0, 0⟩) (q2 := ⟨3, ⟨#[]⟩, none, 0, 0, none, 0, 0⟩) 6 (At.new_at (by simp) : At _ W2.heap.size 25 #[.int .i64 4, .string ⟨#[]⟩, .slice none 0 0, .slice none 0 0, .int .i64 3, .string ⟨#[]⟩, .slice none 0 0, .slice none 0 0]) (fun x => x) (tv_base 4) (tv_base 3))
  rw [sameT_refl] at hs
  unfold Tv.val at hs
  simp only at hs
  have kk2 := HD.out.1.trans k2 (fun _ _ x => x)
  obtain ⟨x1l, x10, x11, x12, x13⟩ := (kk2.at_ HB.out.2.2.1 (fun x => x)).tcells
  obtain ⟨x2l, x20, x21, x22, x23⟩ := (kk2.at_ HB.out.2.2.2.1 (fun x => x)).tcells
  obtain ⟨x4l, x40, x41, x42, x43⟩ := (k2.at_ HD.out.2.1 (fun x => x)).tcells
  have HE := Lib.hid (And.intro kk2 k6)
  clear kk2 k2 k6
  go_upto_region 7 with (go_at_call 25; refine hs.mono ?_; rintro e w3 ⟨rfl, hk⟩; have H3 := Lib.hid hk; clear hk hs)
  have k3 : Keep (fun _ => False) W w3 := (HE.out.1.trans HE.out.2 (fun _ _ x => x)).trans H3.out (fun _ _ x => x)
  clear x1l x10 x11 x12 x13 x2l x20 x21 x22 x23 x4l x40 x41 x42 x43 H3
  obtain ⟨x1l, x10, x11, x12, x13⟩ := (k3.at_ HB.out.2.2.1 (fun x => x)).tcells
  obtain ⟨x2l, x20, x21, x22, x23⟩ := (k3.at_ HB.out.2.2.2.1 (fun x => x)).tcells
  have k7 : Keep (fun _ => False) w3 ((w3.alloc (.cells #[.string ⟨#[65]⟩, .int .i64 3, .string ⟨#[]⟩, .slice none 0 0, .slice none 0 0] 53)).alloc (.cells #[.int .i64 4, .string ⟨#[]⟩, .slice none 0 0, .slice none 0 0] 25)) := ((Keep.refl _ w3).alloc _).alloc _
  have hb := bind_aw (((H.out.step HB.out.1).step k3).step k7) ((At.new_at (by simp)).alloc _ : At _ w3.heap.size 53 #[.string ⟨#[65]⟩, .int .i64 3, .string ⟨#[]⟩, .slice none 0 0, .slice none 0 0]) (At.new_at (by simp) : At _ (w3.heap.size + 1) 25 #[.int .i64 4, .string ⟨#[]⟩, .slice none 0 0, .slice none 0 0])
  have HF := Lib.hid (And.intro k3 k7)
  clear k3 k7
  go_wp2_with (go_at_call 37; refine hb.mono ?_; rintro e w4 ⟨rfl, hk⟩; have H4 := Lib.hid hk; clear hk hb)
  go_ret
  exact ⟨rfl, HB.out.1.trans ((HF.out.1.trans HF.out.2 (fun _ _ x => x)).trans H4.out (fun _ _ x => x)) (fun _ _ x => x)⟩
end Go.Proofs.YtbanpohholnkaaaDoor
