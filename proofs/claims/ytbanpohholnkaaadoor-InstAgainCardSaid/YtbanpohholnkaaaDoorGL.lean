/-
  InstAgain: for every input the law returns true; nothing that was there is changed. Conditions: the tables unicode.White_Space and strings.asciiSpace lie as the program's text lays them (the card ties them).
-/
import Derived.Test.YtbanpohholnkaaaDoorOpen
import Derived.Test.YtbanpohholnkaaaDoorWMap
import Derived.DeepKeys3
import Derived.Test.YtbanpohholnkaaaDoorGF
import Derived.Test.YtbanpohholnkaaaDoorGB
import Derived.Test.YtbanpohholnkaaaDoorWFew
import Derived.Test.YtbanpohholnkaaaDoorAppB
import Derived.Test.YtbanpohholnkaaaDoorFrame
import Derived.Test.YtbanpohholnkaaaDoorCards
import Derived.Test.YtbanpohholnkaaaDoorTie
import Derived.SevenTiedAt
namespace Go.Proofs.YtbanpohholnkaaaDoor
open Go.RowKit

/-- A cell, or a list of n elements of k cells each. -/
inductive Dt where
  | c (v : Value)
  | l (k n : Nat) (cs : List Dt)
mutual
def DtV (w : World) (X : Nat → Prop) : Value → Dt → Prop
  | v, .c u => v = u ∧ u.oneCell' = true
  | v, .l k n cs => n ≤ 140737488355328 ∧ ∃ xs, Rd w X k v n xs ∧ DtsV w X xs cs
def DtsV (w : World) (X : Nat → Prop) : List Value → List Dt → Prop
  | [], [] => True
  | v :: vs, d :: ds => DtV w X v d ∧ DtsV w X vs ds
  | [], _ :: _ => False
  | _ :: _, [] => False
end
section
variable {w w' : World} {X Y Z : Nat → Prop}
theorem Rd.keep2 {size n : Nat} {v : Value} {xs : List Value} (h : Rd w X size v n xs) (k : Keep Y w w') (hY : ∀ i, i < w.heap.size → Y i → X i) (hZ : ∀ i, i < w.heap.size → Z i → X i) : Rd w' Z size v n xs := by
  obtain ⟨hl, A, cap, hv, hc, hr⟩ := h
  refine ⟨hl, A, cap, hv, hc, fun hn => ?_⟩
  obtain ⟨b, o, hA, hb, hX, hcell⟩ := hr hn
  exact ⟨b, o, hA, Nat.lt_of_lt_of_le hb k.size, fun hz => hX (hZ b hb hz), fun j hj => (World.cell?_of_block (w := w) (a := ⟨b, o + j, none⟩) (k.block b hb (fun hy => hX (hY b hb hy)))).trans (hcell j hj)⟩
theorem DtV.cell {v u : Value} (h : DtV w X v (.c u)) : v = u := by unfold DtV at h; exact h.1
theorem DtV.list {v : Value} {k n : Nat} {cs : List Dt} (h : DtV w X v (.l k n cs)) : n ≤ 140737488355328 ∧ ∃ A c xs, v = .slice A n c ∧ Rd w X k (.slice A n c) n xs ∧ DtsV w X xs cs := by
  unfold DtV at h
  obtain ⟨h1, xs, h2, h3⟩ := h
  have h2' := h2
  obtain ⟨_, A, c, rfl, _⟩ := h2
  exact ⟨h1, A, c, xs, rfl, h2', h3⟩
theorem DtV.mk_cell {u : Value} (h : u.oneCell' = true) : DtV w X u (.c u) := by unfold DtV; exact ⟨rfl, h⟩
theorem DtV.mk_list {v : Value} {k n : Nat} {xs : List Value} {cs : List Dt} (h1 : n ≤ 140737488355328) (h2 : Rd w X k v n xs) (h3 : DtsV w X xs cs) : DtV w X v (.l k n cs) := by unfold DtV; exact ⟨h1, xs, h2, h3⟩
theorem DtsV.cons {vs : List Value} {d : Dt} {ds : List Dt} (h : DtsV w X vs (d :: ds)) : ∃ v vs', vs = v :: vs' ∧ DtV w X v d ∧ DtsV w X vs' ds := by
  cases vs with
  | nil => unfold DtsV at h; exact h.elim
  | cons v vs => unfold DtsV at h; exact ⟨v, vs, rfl, h.1, h.2⟩
theorem DtsV.mk_cons {v : Value} {vs : List Value} {d : Dt} {ds : List Dt} (h1 : DtV w X v d) (h2 : DtsV w X vs ds) : DtsV w X (v :: vs) (d :: ds) := by unfold DtsV; exact ⟨h1, h2⟩
theorem DtsV.nil_ : DtsV w X [] [] := by unfold DtsV; trivial
theorem DtsV.nil_eq {vs : List Value} (h : DtsV w X vs []) : vs = [] := by
  cases vs with
  | nil => rfl
  | cons => unfold DtsV at h; exact h.elim
theorem DtsV.len : ∀ {ds : List Dt} {vs : List Value}, DtsV w X vs ds → vs.length = ds.length
  | [], _, h => by rw [h.nil_eq]; rfl
  | _ :: _, _, h => by
    obtain ⟨v, vs', rfl, _, h2⟩ := h.cons
    simp [h2.len]
theorem DtsV.append : ∀ {ds ds' : List Dt} {vs vs' : List Value}, DtsV w X vs ds → DtsV w X vs' ds' → DtsV w X (vs ++ vs') (ds ++ ds')
  | [], _, _, _, h, h' => by rw [h.nil_eq]; exact h'
  | _ :: _, _, _, _, h, h' => by
    obtain ⟨v, vs', rfl, h1, h2⟩ := h.cons
    exact DtsV.mk_cons h1 (h2.append h')
theorem DtsV.cut : ∀ {ds ds' : List Dt} {vs : List Value}, DtsV w X vs (ds ++ ds') → ∃ a b, vs = a ++ b ∧ DtsV w X a ds ∧ DtsV w X b ds'
  | [], _, vs, h => ⟨[], vs, rfl, DtsV.nil_, h⟩
  | _ :: ds, _, _, h => by
    obtain ⟨v, vs', rfl, h1, h2⟩ := DtsV.cons h
    obtain ⟨a, b, rfl, h3, h4⟩ := DtsV.cut (ds := ds) h2
    exact ⟨v :: a, b, rfl, DtsV.mk_cons h1 h3, h4⟩
theorem DtsV.get : ∀ {ds : List Dt} {vs : List Value}, DtsV w X vs ds → ∀ {i : Nat} {d : Dt}, ds[i]? = some d → ∃ v, vs[i]? = some v ∧ DtV w X v d
  | [], _, _, i, d, h => by simp at h
  | d0 :: ds, _, hh, i, d, h => by
    obtain ⟨v, vs', rfl, h1, h2⟩ := hh.cons
    cases i with
    | zero =>
      simp only [List.getElem?_cons_zero, Option.some.injEq] at h
      subst h
      exact ⟨v, rfl, h1⟩
    | succ i => simpa using h2.get (i := i) (by simpa using h)
theorem DtV.one {v : Value} {d : Dt} (h : DtV w X v d) : v.oneCell' = true := by
  cases d with
  | c u => unfold DtV at h; rw [h.1]; exact h.2
  | l k n cs => obtain ⟨_, A, c, xs, rfl, _⟩ := h.list; rfl
theorem DtsV.one : ∀ {ds : List Dt} {vs : List Value}, DtsV w X vs ds → ∀ u ∈ vs, u.oneCell' = true
  | [], _, h => by rw [h.nil_eq]; simp
  | _ :: _, _, h => by
    obtain ⟨v, vs', rfl, h1, h2⟩ := h.cons
    intro u hu
    rcases List.mem_cons.1 hu with rfl | hu
    · exact h1.one
    · exact h2.one u hu
mutual
theorem DtV.keep : ∀ {d : Dt} {v : Value}, DtV w X v d → Keep Y w w' → (∀ i, i < w.heap.size → Y i → X i) → (∀ i, i < w.heap.size → Z i → X i) → DtV w' Z v d
  | .c u, v, h, _, _, _ => by unfold DtV at h ⊢; exact h
  | .l k n cs, v, h, kp, hY, hZ => by
    unfold DtV at h ⊢
    obtain ⟨h1, xs, h2, h3⟩ := h
    exact ⟨h1, xs, h2.keep2 kp hY hZ, DtsV.keep h3 kp hY hZ⟩
theorem DtsV.keep : ∀ {ds : List Dt} {vs : List Value}, DtsV w X vs ds → Keep Y w w' → (∀ i, i < w.heap.size → Y i → X i) → (∀ i, i < w.heap.size → Z i → X i) → DtsV w' Z vs ds
  | [], _, h, _, _, _ => by rw [h.nil_eq]; exact DtsV.nil_
  | d :: ds, _, h, kp, hY, hZ => by
    obtain ⟨v, vs', rfl, h1, h2⟩ := DtsV.cons h
    exact DtsV.mk_cons (DtV.keep h1 kp hY hZ) (DtsV.keep h2 kp hY hZ)
end
theorem DtV.step {v : Value} {d : Dt} (h : DtV w X v d) (k : Keep (fun _ => False) w w') : DtV w' X v d := h.keep k (fun _ _ x => x.elim) (fun _ _ x => x)
theorem DtsV.step {vs : List Value} {ds : List Dt} (h : DtsV w X vs ds) (k : Keep (fun _ => False) w w') : DtsV w' X vs ds := h.keep k (fun _ _ x => x.elim) (fun _ _ x => x)
end
/-- A list of structs. -/
def rowsD {α : Type} (k : Nat) (enc : α → List Dt) (l : List α) : Dt := .l k l.length (l.flatMap enc)
theorem flatMap_len {α : Type} {k : Nat} {enc : α → List Dt} (hk : ∀ x, (enc x).length = k) : ∀ l : List α, (l.flatMap enc).length = l.length * k
  | [] => by simp
  | x :: l => by rw [List.flatMap_cons, List.length_append, hk, flatMap_len hk l, List.length_cons, Nat.succ_mul]; omega
section
variable {α : Type} {k : Nat} {enc : α → List Dt} {w : World} {X : Nat → Prop}
theorem rows_at (hk : ∀ x, (enc x).length = k) : ∀ {l : List α} {xs : List Value}, DtsV w X xs (l.flatMap enc) → ∀ {i : Nat} {x : α}, l[i]? = some x → ∃ vs, vs.length = k ∧ DtsV w X vs (enc x) ∧ ∀ j, j < k → xs[i * k + j]? = vs[j]?
  | [], _, _, i, x, h => by simp at h
  | y :: l, xs, hh, i, x, h => by
    rw [List.flatMap_cons] at hh
    obtain ⟨a, b, rfl, h1, h2⟩ := hh.cut
    have ha : a.length = k := by rw [h1.len, hk]
    cases i with
    | zero =>
      simp only [List.getElem?_cons_zero, Option.some.injEq] at h
      subst h
      exact ⟨a, ha, h1, fun j hj => by rw [Nat.zero_mul, Nat.zero_add, List.getElem?_append_left (by omega)]⟩
    | succ i =>
      obtain ⟨vs, h3, h4, h5⟩ := rows_at hk h2 (i := i) (by simpa using h)
      refine ⟨vs, h3, h4, fun j hj => ?_⟩
      rw [← h5 j hj, List.getElem?_append_right (by rw [ha, Nat.succ_mul]; omega)]
      congr 1
      rw [ha, Nat.succ_mul]
      omega
/-- Element i of a list of structs: its cells. -/
theorem DtV.row {v : Value} {l : List α} (hk : ∀ x, (enc x).length = k) (h : DtV w X v (rowsD k enc l)) {i : Nat} {x : α} (hx : l[i]? = some x) :
    ∃ b o c vs, v = .slice (some ⟨b, o, none⟩) l.length c ∧ b < w.heap.size ∧ ¬ X b ∧ vs.length = k ∧ DtsV w X vs (enc x) ∧ ∀ j, j < k → w.cell? ⟨b, o + i * k + j, none⟩ = vs[j]? := by
  obtain ⟨h1, A, c, xs, rfl, h2, h3⟩ := DtV.list h
  have hi : i < l.length := (List.getElem?_eq_some_iff.1 hx).1
  obtain ⟨h4, A', c', hv, _, hr⟩ := h2
  simp only [Value.slice.injEq, true_and] at hv
  obtain ⟨rfl, rfl⟩ := hv
  obtain ⟨b, o, rfl, hb, hX, hc⟩ := hr (by omega)
  obtain ⟨vs, h5, h6, h7⟩ := rows_at hk h3 hx
  refine ⟨b, o, c, vs, rfl, hb, hX, h5, h6, fun j hj => ?_⟩
  have hlt : i * k + j < l.length * k := by
    have : (i + 1) * k ≤ l.length * k := Nat.mul_le_mul_right k hi
    rw [Nat.succ_mul] at this
    omega
  rw [Nat.add_assoc, hc _ hlt, h7 j hj]
end
def strD (s : ByteArray) : List Dt := [.c (.string s)]
def intD (z : Int) : List Dt := [.c (.int .i64 z)]
def namesD (l : List ByteArray) : Dt := rowsD 1 strD l
mutual
def Ty.enc : Ty → List Dt
  | .mk k nm ns ks => [.c (.int .i64 k), .c (.string nm), namesD ns, .l 4 ks.length (tysEnc ks)]
def tysEnc : List Ty → List Dt
  | [] => []
  | t :: ts => t.enc ++ tysEnc ts
end
theorem tysEnc_eq : ∀ ts : List Ty, tysEnc ts = ts.flatMap Ty.enc
  | [] => rfl
  | t :: ts => by rw [tysEnc, tysEnc_eq ts, List.flatMap_cons]
def tysD (l : List Ty) : Dt := rowsD 4 Ty.enc l
theorem Ty.enc_len (t : Ty) : t.enc.length = 4 := by cases t; simp [Ty.enc]
theorem Ty.enc_eq (t : Ty) : t.enc = [.c (.int .i64 t.kind), .c (.string t.name), namesD t.names, tysD t.kids] := by
  cases t
  simp [Ty.enc, Ty.kind, Ty.name, Ty.names, Ty.kids, tysD, rowsD, tysEnc_eq]
section
variable {w w' : World} {X Y Z : Nat → Prop}
theorem strs_of_dts : ∀ {ns : List ByteArray} {xs : List Value}, DtsV w X xs (ns.flatMap strD) → xs = strs ns
  | [], _, h => h.nil_eq
  | _ :: _, _, h => by
    obtain ⟨v, vs, rfl, h1, h2⟩ := DtsV.cons h
    rw [h1.cell, strs_of_dts h2]
    rfl
theorem dts_of_strs : ∀ ns : List ByteArray, DtsV w X (strs ns) (ns.flatMap strD)
  | [] => DtsV.nil_
  | _ :: ns => DtsV.mk_cons (DtV.mk_cell rfl) (dts_of_strs ns)
theorem DtV.names {v : Value} {ns : List ByteArray} (h : DtV w X v (namesD ns)) : ns.length ≤ 140737488355328 ∧ ∃ A c, v = .slice A ns.length c ∧ Rd w X 1 (.slice A ns.length c) ns.length (strs ns) := by
  obtain ⟨h1, A, c, xs, rfl, h2, h3⟩ := DtV.list h
  rw [strs_of_dts h3] at h2
  exact ⟨h1, A, c, rfl, h2⟩
theorem DtV.mk_names {v : Value} {ns : List ByteArray} (h1 : ns.length ≤ 140737488355328) (h2 : Rd w X 1 v ns.length (strs ns)) : DtV w X v (namesD ns) := DtV.mk_list h1 h2 (dts_of_strs ns)
theorem TysV.enc_of : ∀ {ts : List Ty} {rs : List Tv}, (∀ r t, t ∈ ts → TyV w X r t → DtsV w X r.vals t.enc) → TysV w X rs ts → DtsV w X (tflat rs) (ts.flatMap Ty.enc)
  | [], [], _, _ => DtsV.nil_
  | t :: ts, r :: rs, hh, h => by
    rw [tflat_cons, List.flatMap_cons]
    exact (hh r t List.mem_cons_self h.1).append (TysV.enc_of (fun r t ht => hh r t (List.mem_cons_of_mem _ ht)) h.2)
  | [], _ :: _, _, h => nomatch h
  | _ :: _, [], _, h => nomatch h
theorem TyV.dts {r : Tv} {t : Ty} (h : TyV w X r t) : DtsV w X r.vals t.enc := by
  induction t using Ty.ind generalizing r with
  | h t ih =>
    obtain ⟨⟨h1, h1a, h1b⟩, h2, h3, h4, rs, h5, h6, h7⟩ := h.out
    rw [Ty.enc_eq]
    unfold Tv.vals
    rw [h1, h2]
    refine DtsV.mk_cons (DtV.mk_cell rfl) (DtsV.mk_cons (DtV.mk_cell rfl) (DtsV.mk_cons (DtV.mk_names (by omega) (by rw [← h3]; exact h4)) (DtsV.mk_cons ?_ DtsV.nil_)))
    exact DtV.mk_list (xs := tflat rs) (by omega) (by rw [← h5]; exact h6) (TysV.enc_of (fun r k hk hr => ih k (Ty.kid_lt hk) hr) h7)
theorem TysV.dts {rs : List Tv} {ts : List Ty} (h : TysV w X rs ts) : DtsV w X (tflat rs) (ts.flatMap Ty.enc) := TysV.enc_of (fun _ _ _ h => h.dts) h
theorem TysV.of_enc : ∀ {ts : List Ty} {xs : List Value}, (∀ vs t, t ∈ ts → DtsV w X vs t.enc → ∃ r : Tv, vs = r.vals ∧ TyV w X r t) → DtsV w X xs (ts.flatMap Ty.enc) → ∃ rs, xs = tflat rs ∧ TysV w X rs ts
  | [], _, _, h => ⟨[], h.nil_eq, trivial⟩
  | t :: ts, xs, hh, h => by
    rw [List.flatMap_cons] at h
    obtain ⟨a, b, rfl, h1, h2⟩ := h.cut
    obtain ⟨r, rfl, h3⟩ := hh a t List.mem_cons_self h1
    obtain ⟨rs, rfl, h4⟩ := TysV.of_enc (fun vs t ht => hh vs t (List.mem_cons_of_mem _ ht)) h2
    exact ⟨r :: rs, rfl, h3, h4⟩
theorem TyV.of_dts {vs : List Value} {t : Ty} (h : DtsV w X vs t.enc) : ∃ r : Tv, vs = r.vals ∧ TyV w X r t := by
  induction t using Ty.ind generalizing vs with
  | h t ih =>
    rw [Ty.enc_eq] at h
    obtain ⟨v0, _, rfl, h0, h⟩ := h.cons
    obtain ⟨v1, _, rfl, h1, h⟩ := h.cons
    obtain ⟨v2, _, rfl, h2, h⟩ := h.cons
    obtain ⟨v3, _, rfl, h3, h⟩ := h.cons
    rw [h.nil_eq, h0.cell, h1.cell]
    obtain ⟨hn, A, c, rfl, hA⟩ := h2.names
    obtain ⟨hk, B, d, xs, rfl, hB, hx⟩ := DtV.list h3
    obtain ⟨rs, rfl, hrs⟩ := TysV.of_enc (fun vs k hk hr => ih k (Ty.kid_lt hk) hr) hx
    exact ⟨⟨t.kind, t.name, A, t.names.length, c, B, t.kids.length, d⟩, rfl, TyV.mk ⟨rfl, hn, hk⟩ rfl rfl hA rfl hB hrs⟩
theorem TysV.of_dts {xs : List Value} {ts : List Ty} (h : DtsV w X xs (ts.flatMap Ty.enc)) : ∃ rs, xs = tflat rs ∧ TysV w X rs ts := TysV.of_enc (fun _ _ _ h => TyV.of_dts h) h
theorem DtV.tys {v : Value} {ts : List Ty} (h : DtV w X v (tysD ts)) : ts.length ≤ 140737488355328 ∧ ∃ A c rs, v = .slice A ts.length c ∧ Rd w X 4 (.slice A ts.length c) ts.length (tflat rs) ∧ TysV w X rs ts := by
  obtain ⟨h1, A, c, xs, rfl, h2, h3⟩ := DtV.list h
  obtain ⟨rs, rfl, h4⟩ := TysV.of_dts h3
  exact ⟨h1, A, c, rs, rfl, h2, h4⟩
theorem DtV.mk_tys {v : Value} {ts : List Ty} {rs : List Tv} (h1 : ts.length ≤ 140737488355328) (h2 : Rd w X 4 v ts.length (tflat rs)) (h3 : TysV w X rs ts) : DtV w X v (tysD ts) := DtV.mk_list h1 h2 h3.dts
end
end Go.Proofs.YtbanpohholnkaaaDoor

namespace Go.Proofs.YtbanpohholnkaaaDoor
open Go.RowKit

abbrev Kt := Int × Int × ByteArray
def KtOk (k : Kt) : Prop := (Lit.int .i64 k.1).wf = true ∧ (Lit.int .i64 k.2.1).wf = true ∧ k.2.2.size ≤ maxLen
def keyV (k : Kt) : Value := .agg #[.int .i64 k.1, .int .i64 k.2.1, .string k.2.2]
theorem keyV_inj {a b : Kt} : keyV a = keyV b ↔ a = b := by
  obtain ⟨x, y, c⟩ := a
  obtain ⟨d, e, f⟩ := b
  simp [keyV]
theorem keyLaw : WideMaps.KeyLaw Tryd.prog 73 := deep_law (m := 2) (by decide) (by kernel_rfl) (by kernel_rfl) (by kernel_rfl)
theorem keyV_lit (k : Kt) (h : KtOk k) : ∃ l, keyOf Tryd.prog 73 (keyV k) = some l := by
  obtain ⟨a, b, s⟩ := k
  obtain ⟨h1, h2, h3⟩ := h
  simp only at h1 h2 h3
  have hk : keyOf Tryd.prog 73 (keyV (a, b, s)) = (Tryd.prog.keyLits (Tryd.prog.types.size + 1) 73 [.int .i64 a, .int .i64 b, .string s]).map fun ls => .string (keyBytes ls) := by kernel_rfl
  have hl : Tryd.prog.keyLits (Tryd.prog.types.size + 1) 73 [.int .i64 a, .int .i64 b, .string s] = (if (Lit.int .i64 a).wf = true ∧ (Lit.int .i64 b).wf = true ∧ s.size ≤ maxLen then some [.int .i64 a, .int .i64 b, .string s.data.toList] else none) := by
    rw [if_pos ⟨h1, h2, h3⟩]
    have e1 : Tryd.prog.keyLits Tryd.prog.types.size 3 [.int .i64 a] = some [.int .i64 a] := by
      have : Tryd.prog.keyLits Tryd.prog.types.size 3 [.int .i64 a] = if (IntKind.i64 = IntKind.i64 ∧ (Lit.int .i64 a).wf = true) then some [.int .i64 a] else none := by kernel_rfl
      rw [this, if_pos ⟨rfl, h1⟩]
    have e2 : Tryd.prog.keyLits Tryd.prog.types.size 3 [.int .i64 b] = some [.int .i64 b] := by
      have : Tryd.prog.keyLits Tryd.prog.types.size 3 [.int .i64 b] = if (IntKind.i64 = IntKind.i64 ∧ (Lit.int .i64 b).wf = true) then some [.int .i64 b] else none := by kernel_rfl
      rw [this, if_pos ⟨rfl, h2⟩]
    have e3 : Tryd.prog.keyLits Tryd.prog.types.size 9 [.string s] = some [.string s.data.toList] := by
      have : Tryd.prog.keyLits Tryd.prog.types.size 9 [.string s] = if s.size ≤ maxLen then some [.string s.data.toList] else none := by kernel_rfl
      rw [this, if_pos h3]
    have e0 : Tryd.prog.keyLits (Tryd.prog.types.size + 1) 73 [.int .i64 a, .int .i64 b, .string s] = ((do let x ← Tryd.prog.keyLits Tryd.prog.types.size 3 [.int .i64 a]; let y ← Tryd.prog.keyLits Tryd.prog.types.size 3 [.int .i64 b]; let z ← Tryd.prog.keyLits Tryd.prog.types.size 9 [.string s]; pure [x, y, z]) : Option (List (List Lit))).map List.flatten := by kernel_rfl
    rw [e0, e1, e2, e3]
    rfl
  rw [hk, hl, if_pos ⟨h1, h2, h3⟩]
  exact ⟨_, rfl⟩
/-- Block b is a map that holds just these pairs. -/
def MapK (w : World) (b : Nat) (l : List (Kt × Int)) : Prop :=
  (∀ p ∈ l, KtOk p.1) ∧ ∃ (es : Array MapEntry) (clock : Nat), w.heap[b]? = some (.map es clock) ∧ es.toList.map (fun e => (e.key, e.val)) = l.map fun p => (keyV p.1, Value.int .i64 p.2)
theorem MapK.lt {w : World} {b : Nat} {l : List (Kt × Int)} (h : MapK w b l) : b < w.heap.size := by
  obtain ⟨_, es, c, h1, _⟩ := h
  exact (Array.getElem?_eq_some_iff.1 h1).1
theorem MapK.keep {w w' : World} {Y : Nat → Prop} {b : Nat} {l : List (Kt × Int)} (h : MapK w b l) (k : Keep Y w w') (hb : ¬ Y b) : MapK w' b l := by
  have hl := h.lt
  obtain ⟨h0, es, c, h1, h2⟩ := h
  exact ⟨h0, es, c, (k.block b hl hb).trans h1, h2⟩
theorem MapK.made (w : World) : MapK (w.alloc (.map #[] 0)) w.heap.size [] := ⟨by simp, #[], 0, heap_alloc_new w _, rfl⟩
theorem run_findK {w : World} {l : List (Kt × Int)} {es : Array MapEntry} (h0 : ∀ p ∈ l, KtOk p.1) (h2 : es.toList.map (fun e => (e.key, e.val)) = l.map fun p => (keyV p.1, Value.int .i64 p.2)) (hu : (l.map (·.1)).Nodup) {k : Kt} (hk : KtOk k) :
    ∃ a : Option (Nat × Value), (Instr.findKey 73 (keyV k) es.toList).run Tryd.prog w = .ok a w ∧ a.map (·.2) = (l.find? fun p => decide (p.1 = k)).map fun p => Value.int .i64 p.2 := by
  obtain ⟨lx, hlx⟩ := keyV_lit k hk
  have hall : ∀ e ∈ es.toList, ∃ l, keyOf Tryd.prog 73 e.key = some l := fun e he => by
    have hm : (e.key, e.val) ∈ es.toList.map (fun e => (e.key, e.val)) := List.mem_map_of_mem he
    rw [h2] at hm
    obtain ⟨p, hp, he2⟩ := List.mem_map.1 hm
    simp only [Prod.mk.injEq] at he2
    rw [← he2.1]
    exact keyV_lit p.1 (h0 p hp)
  rcases keyLaw.find w hlx es.toList hall with ⟨h1, hn⟩ | ⟨j, e, h1, hj, he⟩
  · refine ⟨none, h1, ?_⟩
    cases hx : (l.find? fun p => decide (p.1 = k)) with
    | none => rfl
    | some p =>
      exfalso
      have hp1 := List.find?_some hx
      have hp2 := List.mem_of_find?_eq_some hx
      have hm : (keyV p.1, Value.int .i64 p.2) ∈ l.map fun p => (keyV p.1, Value.int .i64 p.2) := List.mem_map_of_mem hp2
      rw [← h2] at hm
      obtain ⟨e, he, he2⟩ := List.mem_map.1 hm
      simp only [Prod.mk.injEq] at he2
      refine hn e he (he2.1.trans ?_)
      rw [of_decide_eq_true hp1]
  · refine ⟨some (j, e.val), h1, ?_⟩
    have hj2 : (es.toList.map (fun e => (e.key, e.val)))[j]? = some (e.key, e.val) := by rw [List.getElem?_map, hj]; rfl
    rw [h2, List.getElem?_map] at hj2
    obtain ⟨p, hp, hp2⟩ := Option.map_eq_some_iff.1 hj2
    simp only [Prod.mk.injEq] at hp2
    have hpk : p.1 = k := keyV_inj.1 (hp2.1.trans he)
    have hfind : (l.find? fun p => decide (p.1 = k)) = some p := by
      cases hx : (l.find? fun p => decide (p.1 = k)) with
      | none =>
        have := List.find?_eq_none.1 hx p (List.mem_of_getElem? hp)
        simp [hpk] at this
      | some q =>
        have hq1 : q.1 = k := by simpa using List.find?_some hx
        have hq2 := List.mem_of_find?_eq_some hx
        obtain ⟨i, hi, hqi⟩ := List.getElem_of_mem hq2
        have hij : i = j := by
          have hj3 := (List.getElem?_eq_some_iff.1 hp)
          obtain ⟨hjl, hjp⟩ := hj3
          have hw := List.pairwise_iff_getElem.1 hu
          rcases Nat.lt_trichotomy i j with h | h | h
          · exact absurd (show (l.map (·.1))[i]'(by simpa using hi) = (l.map (·.1))[j]'(by simpa using hjl) by simp [hqi, hjp, hq1, hpk]) (hw i j _ _ h)
          · exact h
          · exact absurd (show (l.map (·.1))[j]'(by simpa using hjl) = (l.map (·.1))[i]'(by simpa using hi) by simp [hqi, hjp, hq1, hpk]) (hw j i _ _ h)
        subst hij
        rw [List.getElem?_eq_getElem hi, Option.some.injEq] at hp
        rw [← hqi, hp]
    rw [hfind]
    simp [hp2.2]
theorem run_lookK {w : World} {b : Nat} {l : List (Kt × Int)} (h : MapK w b l) (hu : (l.map (·.1)).Nodup) {k : Kt} (hk : KtOk k) :
    (Instr.lookup 66 (.map (some b)) (keyV k) true).run Tryd.prog w = .ok (.tuple #[.int .i64 ((l.find? fun p => decide (p.1 = k)).map (·.2) |>.getD 0), .bool (l.find? fun p => decide (p.1 = k)).isSome]) w := by
  obtain ⟨h0, es, c, h1, h2⟩ := h
  obtain ⟨a, ha, hl⟩ := run_findK (w := w) h0 h2 hu hk
  obtain ⟨lx, hlx⟩ := keyV_lit k hk
  have hg := Go.MapKept.run_getObj_map (P := Tryd.prog) h1
  have hc := fun (q : Bool) => keyLaw.check w q hlx
  have ht : Tryd.prog.underlying 66 = some (.map 73 3) := by kernel_rfl
  have hz : (zeroValue 3).run Tryd.prog w = .ok (.int .i64 0) w := by kernel_rfl
  cases a with
  | none =>
    have hn : (l.find? fun p => decide (p.1 = k)) = none := by
      cases hx : (l.find? fun p => decide (p.1 = k)) with
      | none => rfl
      | some p => rw [hx] at hl; cases hl
    rw [hn]
    simp [Instr.lookup, run_underlying ht, hg, hc, ha, hz]
  | some x =>
    obtain ⟨p, hp⟩ : ∃ p, (l.find? fun p => decide (p.1 = k)) = some p := by
      cases hx : (l.find? fun p => decide (p.1 = k)) with
      | none => rw [hx] at hl; cases hl
      | some p => exact ⟨p, rfl⟩
    rw [hp] at hl ⊢
    simp only [Option.map_some, Option.some.injEq] at hl
    simp [Instr.lookup, run_underlying ht, hg, hc, ha, hl]
/-- A key that is not there yet. -/
theorem run_putK {w : World} {b : Nat} {l : List (Kt × Int)} (h : MapK w b l) (hu : (l.map (·.1)).Nodup) {k : Kt} (hk : KtOk k) (hn : (l.find? fun p => decide (p.1 = k)) = none) (v : Int) :
    ∃ w', (Instr.mapUpdate 66 (.map (some b)) (keyV k) (.int .i64 v)).run Tryd.prog w = .ok () w' ∧ MapK w' b (l ++ [(k, v)]) ∧ Keep (fun g => g = b) w w' := by
  have hlt := h.lt
  obtain ⟨h0, es, c, h1, h2⟩ := h
  obtain ⟨a, ha, hl⟩ := run_findK (w := w) h0 h2 hu hk
  obtain ⟨lx, hlx⟩ := keyV_lit k hk
  rw [hn] at hl
  have ha0 : a = none := by cases a with | none => rfl | some x => cases hl
  subst ha0
  have hg := Go.MapKept.run_getObj_map (P := Tryd.prog) h1
  have hc := fun (q : Bool) => keyLaw.check w q hlx
  have hs := keyLaw.stays w hlx
  have ht : Tryd.prog.underlying 66 = some (.map 73 3) := by kernel_rfl
  refine ⟨{ w with heap := w.heap.setIfInBounds b (.map (es.push { key := keyV k, val := .int .i64 v, born := c }) (c + 1)) }, ?_, ⟨?_, es.push { key := keyV k, val := .int .i64 v, born := c }, c + 1, by simp [hlt], ?_⟩, ⟨rfl, rfl, rfl, by simp, fun i hi hb => by simp [Ne.symm hb]⟩⟩
  · simp [Instr.mapUpdate, run_underlying ht, hg, hc, ha, Go.MapKept.run_setObj_map _ h1]
  · intro p hp
    rcases List.mem_append.1 hp with hp | hp
    · exact h0 p hp
    · rw [List.mem_singleton.1 hp]
      exact hk
  · simp [h2]
end Go.Proofs.YtbanpohholnkaaaDoor

namespace Go.Proofs.YtbanpohholnkaaaDoor
open Go.RowKit

theorem E37 : Elem Tryd.prog 37 41 3 40 := Elem.mk' Tryd.underlying37 (z := .agg #[.int .i64 0, .int .i64 0, .slice none 0 0]) (by kernel_rfl) rfl (by decide)
def idxs (L : List (Kt × Value)) : List (Kt × Int) := (L.map (·.1)).zipIdx.map fun p => (p.1, (p.2 : Int))
theorem idxs_keys (L : List (Kt × Value)) : (idxs L).map (·.1) = L.map (·.1) := by
  unfold idxs
  rw [List.map_map]
  exact List.zipIdx_map_fst 0 _
theorem At.icells {w : World} {b : Nat} {e : TypeId} {v0 v1 v2 : Value} (h : At w b e #[v0, v1, v2]) : b < w.heap.size ∧ w.cell? ⟨b, 0, none⟩ = some v0 ∧ w.cell? ⟨b, 1, none⟩ = some v1 ∧ w.cell? ⟨b, 2, none⟩ = some v2 := ⟨h.lt, h.cell 0, h.cell 1, h.cell 2⟩
def iflat (L : List (Kt × Value)) : List Value := L.flatMap fun p => [.int .i64 p.1.1, .int .i64 p.1.2.1, p.2]
def addT (most : Int) (L : List (Kt × Value)) (ok : Bool) (k : Kt) (v : Value) : Int × Int × List (Kt × Value) :=
  if ok = false then (0, 9, L) else
    match (idxs L).find? fun p => decide (p.1 = k) with
    | some p => (p.2, 0, L)
    | none => if (L.length : Int) ≥ most then (0, 19, L) else (L.length, 0, L ++ [(k, v)])
def TabI (w0 w : World) (b m : Nat) (most : Int) (L : List (Kt × Value)) : Prop :=
  ∃ lv : Value, At w b 68 #[.int .i64 most, .map (some m), lv] ∧ MapK w m (idxs L) ∧ w.ownsRow 0 41 3 lv L.length (iflat L) ∧ (L.map (·.1)).Nodup ∧ Keep (fun _ => False) w0 w ∧
    w0.heap.size ≤ b ∧ w0.heap.size ≤ m ∧ (∀ g, lv.ownBlock = some g → w0.heap.size ≤ g)
theorem TabI.step {w0 w w' : World} {b m : Nat} {most : Int} {L : List (Kt × Value)} (h : TabI w0 w b m most L) (k : Keep (fun _ => False) w w') : TabI w0 w' b m most L := by
  obtain ⟨lv, h1, h2, h3, h4, h5, h6, h7, h8⟩ := h
  exact ⟨lv, k.at_ h1 (fun x => x), h2.keep k (fun x => x), k.own h3 (fun _ _ x => x), h4, h5.trans k (fun _ _ x => x), h6, h7, h8⟩
theorem idxs_snoc (L : List (Kt × Value)) (k : Kt) (v : Value) : idxs (L ++ [(k, v)]) = idxs L ++ [(k, (L.length : Int))] := by
  unfold idxs
  rw [List.map_append, List.zipIdx_append]
  simp
theorem TabI.add {w0 W5 W8 wa w' : World} {b m : Nat} {most : Int} {L : List (Kt × Value)} {k : Kt} {v : Value} {lv : Value} {g' cap' : Nat} (ht : (L.map (·.1)).Nodup ∧ Keep (fun _ => False) w0 W5 ∧ w0.heap.size ≤ b ∧ w0.heap.size ≤ m ∧ (∀ g, lv.ownBlock = some g → w0.heap.size ≤ g))
    (k58 : Keep (fun i => i = m) W5 W8) (hmb : ¬ m = b) (hgm : ∀ g, lv.ownBlock = some g → ¬ g = m) (hb8 : At W8 b 68 #[.int .i64 most, .map (some m), lv]) (hm8 : MapK W8 m (idxs L ++ [(k, (L.length : Int))])) (hf : ((idxs L).find? fun q => decide (q.1 = k)) = none)
    (ka : Keep (fun _ => False) W8 wa) (hk : Keep (fun j => lv.ownBlock = some j) wa w') (hg : lv.ownBlock = some g' ∨ wa.heap.size ≤ g') (ha : At w' b 68 #[.int .i64 most, .map (some m), lv])
    (ho : w'.ownsRow 0 41 3 (.slice (some ⟨g', 0, none⟩) (L.length + 1) cap') (L.length + 1) (iflat L ++ #[.int .i64 k.1, .int .i64 k.2.1, v].toList)) (hgb : lv.ownBlock ≠ some b) :
    TabI w0 (w'.setCell ⟨b, 2, none⟩ (.slice (some ⟨g', 0, none⟩) (L.length + 1) cap')) b m most (L ++ [(k, v)]) := by
  obtain ⟨t4, t5, t6, t7, t8⟩ := ht
  have k08 : Keep (fun _ => False) w0 W8 := t5.weak k58 (fun j hj => by subst hj; exact t7)
  have k0a := k08.trans ka (fun _ _ x => x)
  have k0w : Keep (fun _ => False) w0 w' := k0a.weak hk (fun j hj => t8 j hj)
  have hgb' : (Value.slice (some ⟨g', 0, none⟩) (L.length + 1) cap').ownBlock ≠ some b := by
    intro h
    simp only [Value.ownBlock, Option.some.injEq] at h
    subst h
    rcases hg with h | h
    · exact hgb h
    · have := hb8.lt
      have := ka.size
      omega
  refine ⟨.slice (some ⟨g', 0, none⟩) (L.length + 1) cap', ha.set 2 _, ?_, ?_, ?_, Keep.setCell (p := ⟨b, 2, none⟩) k0w (.inr t6) _, t6, t7, fun g h => ?_⟩
  · rw [idxs_snoc]
    exact ((hm8.keep ka (fun x => x)).keep hk (fun h => hgm m h rfl)).keep (Keep.setCell (X := fun i => i = b) (p := ⟨b, 2, none⟩) (Keep.refl _ _) (.inl rfl) _) hmb
  · have e : iflat (L ++ [(k, v)]) = iflat L ++ #[.int .i64 k.1, .int .i64 k.2.1, v].toList := by simp [iflat]
    rw [e, show (L ++ [(k, v)]).length = L.length + 1 by simp]
    exact ownsRow_setCell_ne ho hgb' _
  · rw [List.map_append, List.nodup_append]
    refine ⟨t4, by simp, fun x hx y hy => ?_⟩
    rintro rfl
    simp only [List.map_cons, List.map_nil, List.mem_singleton] at hy
    subst hy
    rw [← idxs_keys] at hx
    obtain ⟨q, hq, hq2⟩ := List.mem_map.1 hx
    have := List.find?_eq_none.1 hf q hq
    simp [hq2] at this
  · simp only [Value.ownBlock, Option.some.injEq] at h
    subst h
    rcases hg with h | h
    · exact t8 _ h
    · have := k0a.size
      omega
noncomputable def keyOfI (md dc : Int) (l : List Ty) : Kt := (md, dc, joinB ⟨#[59]⟩ (l.map ShowS))
end Go.Proofs.YtbanpohholnkaaaDoor

namespace Go.Proofs.YtbanpohholnkaaaDoor
open Go.RowKit

set_option maxRecDepth 100000 in
set_option maxHeartbeats 2000000 in
theorem add_any {w0 w : World} {b m : Nat} {most : Int} {L : List (Kt × Value)} {md dc : Int} {A : Option Addr} {n c : Nat} {l : List Ty} {rs : List Tv} (hn10 : n ≤ 10) (hL : L.length ≤ 1000) (hT : Tab w) (h : Rd w nX 4 (.slice A n c) n (tflat rs)) (hv : TysV w nX rs l)
    (hbj : (joinB ⟨#[59]⟩ (l.map ShowS)).size ≤ 140737488355328) (hok : KtOk (keyOfI md dc l)) (hI : TabI w0 w b m most L) :
    Calls Tryd.prog 30 #[.pointer (some ⟨b, 0, none⟩), .agg #[.int .i64 md, .int .i64 dc, .slice A n c]] w fun e w' =>
      e = .returned (.tuple #[.int .i64 (addT most L (l.all normB) (keyOfI md dc l) (.slice A n c)).1, .int .i64 (addT most L (l.all normB) (keyOfI md dc l) (.slice A n c)).2.1]) ∧ TabI w0 w' b m most (addT most L (l.all normB) (keyOfI md dc l) (.slice A n c)).2.2 := by
  have kal : Keep (fun _ => False) w (w.alloc (.cells #[.int .i64 md, .int .i64 dc, .slice A n c] 41)) := (Keep.refl _ w).alloc _
  have a0 : At (w.alloc (.cells #[.int .i64 md, .int .i64 dc, .slice A n c] 41)) w.heap.size 41 #[.int .i64 md, .int .i64 dc, .slice A n c] := At.new _ _ _
  have hl := hv.len
  have hn := h.nlen
  have H := Lib.hid (And.intro (h.keep kal (fun _ x => x.elim)) (And.intro (hv.step kal) (And.intro (hT.step kal) (And.intro hl (And.intro hn (And.intro (hI.step kal) (And.intro a0 kal)))))))
  have hc := containsN_any (by omega) H.out.2.2.1 H.out.1 H.out.2.1
  clear h hv hT hl hn hI a0 kal
  cases hal : l.all normB with
  | false =>
    rw [hal] at hc
    have hadd : addT most L false (keyOfI md dc l) (.slice A n c) = (0, 9, L) := rfl
    rw [hadd]
    clear hadd
    go_enter Tryd.func30, Tryd.ntmps30
    go_upto_region 1 with fail
    generalize (w.alloc (.cells #[.int .i64 md, .int .i64 dc, .slice A n c] 41)) = w1 at *
    generalize w.heap.size = bx at *
    obtain ⟨x0, x1, x2⟩ := And.intro (H.out.2.2.2.2.2.2.1.cell 0) (And.intro (H.out.2.2.2.2.2.2.1.cell 1) (H.out.2.2.2.2.2.2.1.cell 2))
    simp only [List.getElem?_toArray, List.getElem?_cons_succ, List.getElem?_cons_zero] at x0 x1 x2
    have xl := H.out.2.2.2.2.2.2.1.lt
    go_wp2_with (go_at_call 49; refine hc.mono ?_; rintro e w2 ⟨rfl, hk2⟩; have H2 := Lib.hid hk2; clear hk2 hc)
    go_ret2
    exact ⟨rfl, H.out.2.2.2.2.2.1.step H2.out⟩
  | true =>
    rw [hal] at hc
    have HB := Lib.hid (And.intro hbj hok)
    clear hbj hok hal
    have hss : ∀ (i : Nat) (t : Ty), l[i]? = some t → (l.map ShowS)[i]? = some (ShowS t) := fun i t h1 => by rw [List.getElem?_map, h1]; rfl
    have hsl : (l.map ShowS).length = l.length := by simp
    have HSS := Lib.hid (And.intro hss hsl)
    have hkk : keyOfI md dc l = (md, dc, joinB ⟨#[59]⟩ (l.map ShowS)) := rfl
    rw [hkk] at HB ⊢
    clear hss hsl hkk
    generalize l.map ShowS = ss at *
    go_enter Tryd.func30, Tryd.ntmps30
    go_upto_region 1 with fail
    generalize (w.alloc (.cells #[.int .i64 md, .int .i64 dc, .slice A n c] 41)) = w1 at *
    generalize w.heap.size = bx at *
    obtain ⟨x0, x1, x2⟩ := And.intro (H.out.2.2.2.2.2.2.1.cell 0) (And.intro (H.out.2.2.2.2.2.2.1.cell 1) (H.out.2.2.2.2.2.2.1.cell 2))
    simp only [List.getElem?_toArray, List.getElem?_cons_succ, List.getElem?_cons_zero] at x0 x1 x2
    have xl := H.out.2.2.2.2.2.2.1.lt
    go_upto_region 4 with (go_at_call 49; refine hc.mono ?_; rintro e w2 ⟨rfl, hk2⟩; have H2 := Lib.hid hk2; clear hk2 hc)
    clear x0 x1 x2 xl
    obtain ⟨x0, x1, x2⟩ := And.intro ((H2.out.at_ H.out.2.2.2.2.2.2.1 (fun x => x)).cell 0) (And.intro ((H2.out.at_ H.out.2.2.2.2.2.2.1 (fun x => x)).cell 1) ((H2.out.at_ H.out.2.2.2.2.2.2.1 (fun x => x)).cell 2))
    simp only [List.getElem?_toArray, List.getElem?_cons_succ, List.getElem?_cons_zero] at x0 x1 x2
    have xl := (H2.out.at_ H.out.2.2.2.2.2.2.1 (fun x => x)).lt
    have h0 : Hid (ShA w2 ss n n (.slice none 0 0) (.int .i64 0) w2) := ⟨0, _, rfl, rfl, Nat.zero_le _, rfl, ⟨Keep.refl _ _, World.ownsRow_nil _ 0 9 1, fun g hg => by simp [Value.ownBlock] at hg⟩⟩
    go_wp2_with fail
    go_loopg [6, 18] n (ShA w2 ss n)
    case atStart => exact h0.out
    case round =>
      clear h0
      obtain ⟨i, lv, rfl, rfl, hi, rfl, hR⟩ := hrel
      obtain ⟨Al, cl, rfl⟩ := own_slice hR.own
      have HR := Lib.hid hR
      clear hR
      by_cases hlt : i < n
      · have d1 : decide ((i : Int) < (n : Int)) = true := by simp; omega
        obtain ⟨s, hs⟩ : ∃ s, l[i]? = some s := ⟨_, List.getElem?_eq_getElem (by have := H.out.2.2.2.1; have := H.out.2.2.2.2.1; omega)⟩
        have hkw := H2.out.trans HR.out.keep (fun _ _ x => x)
        obtain ⟨⟨qk, qnm, qAn, qnn, qcn, qAk, qnk, qck⟩, hq, hqv⟩ := (H.out.2.1.step hkw).at_ hs
        obtain ⟨b, o, rfl, hbz, _, c0, c1, c2, c3⟩ := (H.out.1.keep hkw (fun _ x => x.elim)).tcells hlt hq
        simp only at c0 c1 c2 c3
        have kal : Keep (fun _ => False) wr (wr.alloc (.cells #[.int .i64 qk, .string qnm, .slice qAn qnn qcn, .slice qAk qnk qck] 25)) := (Keep.refl _ wr).alloc _
        have hc := Show_any (X := nX) (fun _ h => h.elim) ((H.out.2.2.1.step hkw).step kal) (hqv.step kal)
        have hsi := HSS.out.1 i s hs
        unfold Tv.val at hc
        simp only at hc
        generalize ShowS s = ks at *
        have i0 : (0 : Int) ≤ (i : Int) := by omega
        have i1 : (i : Int) < (n : Int) := by omega
        have hbig : i + 1 ≤ 1099511627776 := by omega
        have HQ := Lib.hid (And.intro kal hsi)
        clear hs hq hqv hkw hsi kal
        go_wp2_with (first
          | (go_at_call 52; refine hc.mono ?_; rintro e w2 ⟨rfl, hk2⟩; have k2 := HQ.out.1.trans hk2 (fun _ _ x => x); have hown2 := k2.own HR.out.own (fun _ _ x => x); have H3 := Lib.hid (And.intro k2 hown2); clear hk2 k2 hown2 hc)
          | (at_builtin; refine wpList_app rfl (.tmp 22) (.tmp 25) 22 rfl E9 (.slice Al i cl) i (strs (ss.take i)) rfl (H3.out.2.alloc _) _ 1 1 #[.string ks] rfl (At.new_at (by simp)) rfl (by simp [Value.oneCell']) (by decide) hbig (by decide) ?_; intro g cap w5 ho5 hk5 hg5 hgl5; have H5 := Lib.hid (And.intro ho5 (And.intro hk5 hg5)); clear ho5 hk5 hg5))
        go_roundg (n - (i + 1))
        case measure => omega
        case rel =>
          obtain ⟨ho5, hk5, hg5⟩ := H5.out
          exact ⟨i + 1, _, rfl, by go_num, by omega, rfl, HR.out.app HQ.out.2 (H3.out.1.alloc _) ho5 hk5 (by first | exact hg5 | simpa using hg5)⟩
      · have d1 : decide ((i : Int) < (n : Int)) = false := by simp; omega
        have hie : i = n := by omega
        subst hie
        have hfull : ss.take i = ss := List.take_of_length_le (by have h1 := HSS.out.2; have := H.out.2.2.2.1; have := H.out.2.2.2.2.1; omega)
        have hown := HR.out.own
        rw [hfull] at hown
        have hkw := H2.out.trans HR.out.keep (fun _ _ x => x)
        have aw := hkw.at_ H.out.2.2.2.2.2.2.1 (fun x => x)
        have HW := Lib.hid (And.intro hkw aw)
        clear x0 x1 x2 xl
        have xl := aw.lt
        have x0 := aw.cell 0
        have x1 := aw.cell 1
        simp only [List.getElem?_toArray, List.getElem?_cons_succ, List.getElem?_cons_zero] at x0 x1
        clear hkw aw
        have HJ : Hid (∀ w', Keep (fun _ => False) wr w' → Calls Tryd.prog 53 #[.slice Al i cl, .string ⟨#[59]⟩] w' fun e w'' => e = .returned (.string (joinB ⟨#[59]⟩ ss)) ∧ Keep (fun _ => False) w' w'') := fun w' hk =>
          join_any ⟨#[59]⟩ (by have h1 := HSS.out.2; have := H.out.2.2.2.1; have := H.out.2.2.2.2.1; omega) (by omega) (hk.own hown (fun _ _ x => x)) HB.out.1
        clear hown hfull
        go_upto_region 9 with fail
        rename_i K hK
        have HT : Hid (∀ (v8 v20 v21 v22 v23 v24 v25 v26 v27 : Value) (p : Nat) (W5 : World), Keep (fun _ => False) wr W5 → At W5 p 73 #[.int .i64 md, .int .i64 dc, .string (joinB ⟨#[59]⟩ ss)] → K { tmps := #[.pointer (some ⟨b, 0, none⟩), .agg #[.int .i64 md, .int .i64 dc, .slice A i c], undef, .pointer (some ⟨bx, 0, none⟩), .int .i64 0, .int .i64 0, .slice Al i cl, undef, v8, .pointer (some ⟨p, 0, none⟩), undef, undef, .pointer (some ⟨bx, 2, none⟩), .slice A i c, .bool false, .pointer (some ⟨bx, 2, none⟩), .slice A i c, .int .i64 i, .int .i64 i, .bool false, v20, v21, v22, v23, v24, v25, v26, v27, .pointer (some ⟨bx, 0, none⟩), .int .i64 md, .pointer (some ⟨bx, 1, none⟩), .int .i64 dc, .slice Al i cl, .string (joinB ⟨#[59]⟩ ss), .agg #[.int .i64 md, .int .i64 dc, .string (joinB ⟨#[59]⟩ ss)], undef, undef, undef, undef, undef, undef, undef, undef, undef, undef, undef, undef, undef, undef, undef, undef, undef, undef, undef, undef, undef, undef, undef, undef, undef, undef, undef, undef, undef, undef, undef, undef, undef, undef, undef, undef, undef, undef, undef, undef, undef, undef, undef, undef, undef, undef, undef], defers := [] } W5) := by
          intro v8 v20 v21 v22 v23 v24 v25 v26 v27 p W5 k5 a5
          refine hK _ _ ?_
          have hI5 := H.out.2.2.2.2.2.1.step ((H2.out.trans HR.out.keep (fun _ _ x => x)).trans k5 (fun _ _ x => x))
          have HI5 := Lib.hid hI5
          obtain ⟨lv, t1, t2, t3, t4, t5, t6, t7, t8⟩ := hI5
          obtain ⟨Av, cv, rfl⟩ := own_slice t3
          have HI : True ∧ ((idxs L).map (·.1)).Nodup := ⟨trivial, by rw [idxs_keys]; exact t4⟩
          have hsk : Hid (∀ w', Keep (fun _ => False) W5 w' → (b < w'.heap.size ∧ w'.cell? ⟨b, 0, none⟩ = some (.int .i64 most) ∧ w'.cell? ⟨b, 1, none⟩ = some (.map (some m)) ∧ w'.cell? ⟨b, 2, none⟩ = some (.slice Av L.length cv)) ∧ (p < w'.heap.size ∧ w'.cell? ⟨p, 0, none⟩ = some (.int .i64 md) ∧ w'.cell? ⟨p, 1, none⟩ = some (.int .i64 dc) ∧ w'.cell? ⟨p, 2, none⟩ = some (.string (joinB ⟨#[59]⟩ ss))) ∧ MapK w' m (idxs L)) := fun w' hk => ⟨(hk.at_ t1 (fun x => x)).icells, (hk.at_ a5 (fun x => x)).icells, t2.keep hk (fun x => x)⟩
          have kd : Hid (Keep (fun _ => False) W5 W5.drew) := (Keep.refl _ _).drew
          have HTT := Lib.hid (And.intro t3 (And.intro t8 (And.intro t1 t2)))
          have a5h := Lib.hid a5
          have hbm : ¬ b = m := by
            rintro rfl
            obtain ⟨_, es, c, h1, _⟩ := t2
            unfold At at t1
            rw [h1] at t1
            cases t1
          have hpm : ¬ p = m := by
            rintro rfl
            obtain ⟨_, es, c, h1, _⟩ := t2
            unfold At at a5
            rw [h1] at a5
            cases a5
          have axh := Lib.hid (k5.at_ HW.out.2 (fun x => x))
          have hxm : ¬ bx = m := by
            rintro rfl
            obtain ⟨_, es, c, h1, _⟩ := t2
            have h2 := axh.out
            unfold At at h2
            rw [h1] at h2
            cases h2
          have hgm : ∀ g, (Value.slice Av L.length cv).ownBlock = some g → ¬ g = m := by
            rintro g hg rfl
            obtain ⟨_, es, c, h1, _⟩ := t2
            rcases t3.2 with ⟨h2, _⟩ | ⟨g', cap, cur, h2, _, hgc, _⟩
            · rw [h2] at hg
              simp [Value.ownBlock] at hg
            · rw [h2] at hg
              simp only [Value.ownBlock, Option.some.injEq] at hg
              subst hg
              rw [h1] at hgc
              cases hgc
          have hgb : ¬ (Value.slice Av L.length cv).ownBlock = some b := by
            exact own_at t3 t1 (by decide)
          have HTB := Lib.hid (And.intro t4 (And.intro t5 (And.intro t6 (And.intro t7 t8))))
          clear t1 t2 t3 t5 t6 t7 t8 a5
          go_upto_region 10 with fail
          cases hf : (idxs L).find? fun q => decide (q.1 = (md, dc, (joinB ⟨#[59]⟩ ss))) with
          | some q =>
            refine wp_region_held_n (S := fun w' => (b < w'.heap.size ∧ w'.cell? ⟨b, 0, none⟩ = some (.int .i64 most) ∧ w'.cell? ⟨b, 1, none⟩ = some (.map (some m)) ∧ w'.cell? ⟨b, 2, none⟩ = some (.slice Av L.length cv)) ∧ (p < w'.heap.size ∧ w'.cell? ⟨p, 0, none⟩ = some (.int .i64 md) ∧ w'.cell? ⟨p, 1, none⟩ = some (.int .i64 dc) ∧ w'.cell? ⟨p, 2, none⟩ = some (.string (joinB ⟨#[59]⟩ ss))) ∧ MapK w' m (idxs L)) 11 rfl (by kernel_rfl) ?_ (fun hHeld => ?_)
            · exact hsk.out _ kd.out
            refine' wpAnyH_tk (i := 0) (v := _) rfl (by kernel_rfl) (by decide +kernel) (by decide +kernel) (fun _ _ _ h => h) (Or.inl ⟨by rfl, ?_⟩) (by assumption) ?_
            rotate_left
            · (intro w hSw; (try dsimp only at hSw); (try go_simp); (try (with_reducible rfl)))
            (try simp only [Act.put, List.setIfInBounds_toArray, List.set_cons_zero, List.set_cons_succ])
            refine' wpAnyH_tk (i := 1) (v := _) rfl (by kernel_rfl) (by decide +kernel) (by decide +kernel) (fun _ _ _ h => h) (Or.inl ⟨by rfl, ?_⟩) (by assumption) ?_
            rotate_left
            · (intro w hSw; (try dsimp only at hSw); (try go_simp); (try (with_reducible rfl)))
            (try simp only [Act.put, List.setIfInBounds_toArray, List.set_cons_zero, List.set_cons_succ])
            refine' wpAnyH_tk (i := 2) (v := _) rfl (by kernel_rfl) (by decide +kernel) (by decide +kernel) (fun _ _ _ h => h) (Or.inl ⟨by rfl, ?_⟩) (by assumption) ?_
            rotate_left
            · (intro w hSw; (try dsimp only at hSw); (try go_simp); (try (with_reducible rfl)))
            (try simp only [Act.put, List.setIfInBounds_toArray, List.set_cons_zero, List.set_cons_succ])
            refine' wpAnyH_tk (i := 3) (v := _) rfl (by kernel_rfl) (by decide +kernel) (by decide +kernel) (fun _ _ _ h => h) (Or.inl ⟨by rfl, ?_⟩) (by assumption) ?_
            rotate_left
            · (intro w hSw; (try dsimp only at hSw); (try go_simp); (try (with_reducible rfl)))
            (try simp only [Act.put, List.setIfInBounds_toArray, List.set_cons_zero, List.set_cons_succ])
            refine' wpAnyH_tk (i := 4) (v := _) rfl (by kernel_rfl) (by decide +kernel) (by decide +kernel) (fun _ _ _ h => h) (Or.inl ⟨by rfl, ?_⟩) (by assumption) ?_
            rotate_left
            · (intro w hSw; (try dsimp only at hSw); (try go_simp); (try (with_reducible rfl)))
            (try simp only [Act.put, List.setIfInBounds_toArray, List.set_cons_zero, List.set_cons_succ])
            refine' wpAnyH_tk (i := 5) (v := _) rfl (by kernel_rfl) (by decide +kernel) (by decide +kernel) (fun _ _ _ h => h) (Or.inl ⟨by rfl, ?_⟩) (by assumption) ?_
            rotate_left
            · (intro w hSw; have hlk := run_lookK hSw.2.2 HI.2 HB.out.2; simp only [keyV, hf] at hlk; (try dsimp only at hSw); (try go_simp); (try simp [hlk]); (try (with_reducible rfl)))
            (try simp only [Act.put, List.setIfInBounds_toArray, List.set_cons_zero, List.set_cons_succ])
            refine' wpAnyH_tk (i := 6) (v := _) rfl (by kernel_rfl) (by decide +kernel) (by decide +kernel) (fun _ _ _ h => h) (Or.inl ⟨by rfl, ?_⟩) (by assumption) ?_
            rotate_left
            · (intro w hSw; (try dsimp only at hSw); (try go_simp); (try (with_reducible rfl)))
            (try simp only [Act.put, List.setIfInBounds_toArray, List.set_cons_zero, List.set_cons_succ])
            refine' wpAnyH_tk (i := 7) (v := _) rfl (by kernel_rfl) (by decide +kernel) (by decide +kernel) (fun _ _ _ h => h) (Or.inl ⟨by rfl, ?_⟩) (by assumption) ?_
            rotate_left
            · (intro w hSw; (try dsimp only at hSw); (try go_simp); (try (with_reducible rfl)))
            (try simp only [Act.put, List.setIfInBounds_toArray, List.set_cons_zero, List.set_cons_succ])
            refine' wpAnyH_tk (i := 8) (v := _) rfl (by kernel_rfl) (by decide +kernel) (by decide +kernel) (fun _ _ _ h => h) (Or.inl ⟨by rfl, ?_⟩) (by assumption) ?_
            rotate_left
            · (intro w hSw; (try dsimp only at hSw); (try go_simp); (try (with_reducible rfl)))
            (try simp only [Act.put, List.setIfInBounds_toArray, List.set_cons_zero, List.set_cons_succ])
            refine' wpAnyH_tk (i := 9) (v := _) rfl (by kernel_rfl) (by decide +kernel) (by decide +kernel) (fun _ _ _ h => h) (Or.inl ⟨by rfl, ?_⟩) (by assumption) ?_
            rotate_left
            · (intro w hSw; (try dsimp only at hSw); (try go_simp); (try (with_reducible rfl)))
            (try simp only [Act.put, List.setIfInBounds_toArray, List.set_cons_zero, List.set_cons_succ])
            refine' wpAnyH_tk (i := 10) (v := _) rfl (by kernel_rfl) (by decide +kernel) (by decide +kernel) (fun _ _ _ h => h) (Or.inl ⟨by rfl, ?_⟩) (by assumption) ?_
            rotate_left
            · (intro w hSw; (try dsimp only at hSw); (try go_simp); (try (with_reducible rfl)))
            (try simp only [Act.put, List.setIfInBounds_toArray, List.set_cons_zero, List.set_cons_succ])
            refine wpAnyH_done (by decide +kernel) ?_ _

            go_wp2_with fail
            go_ret2
            exact ⟨by simp [addT, hf], by unfold addT; rw [if_neg (by simp), hf]; exact HI5.out.step (by first | exact Keep.refl _ _ | exact (Keep.refl _ _).drew)⟩
          | none =>
            refine wp_region_held_n (S := fun w' => (b < w'.heap.size ∧ w'.cell? ⟨b, 0, none⟩ = some (.int .i64 most) ∧ w'.cell? ⟨b, 1, none⟩ = some (.map (some m)) ∧ w'.cell? ⟨b, 2, none⟩ = some (.slice Av L.length cv)) ∧ (p < w'.heap.size ∧ w'.cell? ⟨p, 0, none⟩ = some (.int .i64 md) ∧ w'.cell? ⟨p, 1, none⟩ = some (.int .i64 dc) ∧ w'.cell? ⟨p, 2, none⟩ = some (.string (joinB ⟨#[59]⟩ ss))) ∧ MapK w' m (idxs L)) 11 rfl (by kernel_rfl) ?_ (fun hHeld => ?_)
            · exact hsk.out _ kd.out
            refine' wpAnyH_tk (i := 0) (v := _) rfl (by kernel_rfl) (by decide +kernel) (by decide +kernel) (fun _ _ _ h => h) (Or.inl ⟨by rfl, ?_⟩) (by assumption) ?_
            rotate_left
            · (intro w hSw; (try dsimp only at hSw); (try go_simp); (try (with_reducible rfl)))
            (try simp only [Act.put, List.setIfInBounds_toArray, List.set_cons_zero, List.set_cons_succ])
            refine' wpAnyH_tk (i := 1) (v := _) rfl (by kernel_rfl) (by decide +kernel) (by decide +kernel) (fun _ _ _ h => h) (Or.inl ⟨by rfl, ?_⟩) (by assumption) ?_
            rotate_left
            · (intro w hSw; (try dsimp only at hSw); (try go_simp); (try (with_reducible rfl)))
            (try simp only [Act.put, List.setIfInBounds_toArray, List.set_cons_zero, List.set_cons_succ])
            refine' wpAnyH_tk (i := 2) (v := _) rfl (by kernel_rfl) (by decide +kernel) (by decide +kernel) (fun _ _ _ h => h) (Or.inl ⟨by rfl, ?_⟩) (by assumption) ?_
            rotate_left
            · (intro w hSw; (try dsimp only at hSw); (try go_simp); (try (with_reducible rfl)))
            (try simp only [Act.put, List.setIfInBounds_toArray, List.set_cons_zero, List.set_cons_succ])
            refine' wpAnyH_tk (i := 3) (v := _) rfl (by kernel_rfl) (by decide +kernel) (by decide +kernel) (fun _ _ _ h => h) (Or.inl ⟨by rfl, ?_⟩) (by assumption) ?_
            rotate_left
            · (intro w hSw; (try dsimp only at hSw); (try go_simp); (try (with_reducible rfl)))
            (try simp only [Act.put, List.setIfInBounds_toArray, List.set_cons_zero, List.set_cons_succ])
            refine' wpAnyH_tk (i := 4) (v := _) rfl (by kernel_rfl) (by decide +kernel) (by decide +kernel) (fun _ _ _ h => h) (Or.inl ⟨by rfl, ?_⟩) (by assumption) ?_
            rotate_left
            · (intro w hSw; (try dsimp only at hSw); (try go_simp); (try (with_reducible rfl)))
            (try simp only [Act.put, List.setIfInBounds_toArray, List.set_cons_zero, List.set_cons_succ])
            refine' wpAnyH_tk (i := 5) (v := _) rfl (by kernel_rfl) (by decide +kernel) (by decide +kernel) (fun _ _ _ h => h) (Or.inl ⟨by rfl, ?_⟩) (by assumption) ?_
            rotate_left
            · (intro w hSw; have hlk := run_lookK hSw.2.2 HI.2 HB.out.2; simp only [keyV, hf] at hlk; (try dsimp only at hSw); (try go_simp); (try simp [hlk]); (try (with_reducible rfl)))
            (try simp only [Act.put, List.setIfInBounds_toArray, List.set_cons_zero, List.set_cons_succ])
            refine' wpAnyH_tk (i := 6) (v := _) rfl (by kernel_rfl) (by decide +kernel) (by decide +kernel) (fun _ _ _ h => h) (Or.inl ⟨by rfl, ?_⟩) (by assumption) ?_
            rotate_left
            · (intro w hSw; (try dsimp only at hSw); (try go_simp); (try (with_reducible rfl)))
            (try simp only [Act.put, List.setIfInBounds_toArray, List.set_cons_zero, List.set_cons_succ])
            refine' wpAnyH_tk (i := 7) (v := _) rfl (by kernel_rfl) (by decide +kernel) (by decide +kernel) (fun _ _ _ h => h) (Or.inl ⟨by rfl, ?_⟩) (by assumption) ?_
            rotate_left
            · (intro w hSw; (try dsimp only at hSw); (try go_simp); (try (with_reducible rfl)))
            (try simp only [Act.put, List.setIfInBounds_toArray, List.set_cons_zero, List.set_cons_succ])
            refine' wpAnyH_tk (i := 8) (v := _) rfl (by kernel_rfl) (by decide +kernel) (by decide +kernel) (fun _ _ _ h => h) (Or.inl ⟨by rfl, ?_⟩) (by assumption) ?_
            rotate_left
            · (intro w hSw; (try dsimp only at hSw); (try go_simp); (try (with_reducible rfl)))
            (try simp only [Act.put, List.setIfInBounds_toArray, List.set_cons_zero, List.set_cons_succ])
            refine' wpAnyH_tk (i := 9) (v := _) rfl (by kernel_rfl) (by decide +kernel) (by decide +kernel) (fun _ _ _ h => h) (Or.inl ⟨by rfl, ?_⟩) (by assumption) ?_
            rotate_left
            · (intro w hSw; (try dsimp only at hSw); (try go_simp); (try (with_reducible rfl)))
            (try simp only [Act.put, List.setIfInBounds_toArray, List.set_cons_zero, List.set_cons_succ])
            refine' wpAnyH_tk (i := 10) (v := _) rfl (by kernel_rfl) (by decide +kernel) (by decide +kernel) (fun _ _ _ h => h) (Or.inl ⟨by rfl, ?_⟩) (by assumption) ?_
            rotate_left
            · (intro w hSw; (try dsimp only at hSw); (try go_simp); (try (with_reducible rfl)))
            (try simp only [Act.put, List.setIfInBounds_toArray, List.set_cons_zero, List.set_cons_succ])
            refine wpAnyH_done (by decide +kernel) ?_ _

            go_upto_region 13 with fail
            generalize hdr : W5.drew = W6 at *
            have k6 : Hid (Keep (fun _ => False) W5 W6) := by rw [← hdr]; exact (Keep.refl _ _).drew
            have kd6 : Hid (Keep (fun _ => False) W6 W6.drew) := (Keep.refl _ _).drew
            clear hdr
            by_cases hm : (L.length : Int) ≥ most
            · have dm : decide ((L.length : Int) ≥ most) = true := by simpa using hm
              refine wp_region_held_n (S := fun w' => (b < w'.heap.size ∧ w'.cell? ⟨b, 0, none⟩ = some (.int .i64 most) ∧ w'.cell? ⟨b, 1, none⟩ = some (.map (some m)) ∧ w'.cell? ⟨b, 2, none⟩ = some (.slice Av L.length cv)) ∧ (p < w'.heap.size ∧ w'.cell? ⟨p, 0, none⟩ = some (.int .i64 md) ∧ w'.cell? ⟨p, 1, none⟩ = some (.int .i64 dc) ∧ w'.cell? ⟨p, 2, none⟩ = some (.string (joinB ⟨#[59]⟩ ss))) ∧ MapK w' m (idxs L)) 10 rfl (by kernel_rfl) ?_ (fun hHeld => ?_)
              · exact hsk.out _ (k6.out.trans kd6.out (fun _ _ x => x))
              refine' wpAnyH_tk (i := 0) (v := _) rfl (by kernel_rfl) (by decide +kernel) (by decide +kernel) (fun _ _ _ h => h) (Or.inl ⟨by rfl, ?_⟩) (by assumption) ?_
              rotate_left
              · (intro w hSw; (try dsimp only at hSw); (try go_simp); (try (with_reducible rfl)))
              (try simp only [Act.put, List.setIfInBounds_toArray, List.set_cons_zero, List.set_cons_succ])
              refine' wpAnyH_tk (i := 1) (v := _) rfl (by kernel_rfl) (by decide +kernel) (by decide +kernel) (fun _ _ _ h => h) (Or.inl ⟨by rfl, ?_⟩) (by assumption) ?_
              rotate_left
              · (intro w hSw; (try dsimp only at hSw); (try go_simp); (try (with_reducible rfl)))
              (try simp only [Act.put, List.setIfInBounds_toArray, List.set_cons_zero, List.set_cons_succ])
              refine' wpAnyH_tk (i := 2) (v := _) rfl (by kernel_rfl) (by decide +kernel) (by decide +kernel) (fun _ _ _ h => h) (Or.inl ⟨by rfl, ?_⟩) (by assumption) ?_
              rotate_left
              · (intro w hSw; (try dsimp only at hSw); (try go_simp); (try (with_reducible rfl)))
              (try simp only [Act.put, List.setIfInBounds_toArray, List.set_cons_zero, List.set_cons_succ])
              refine' wpAnyH_tk (i := 3) (v := _) rfl (by kernel_rfl) (by decide +kernel) (by decide +kernel) (fun _ _ _ h => h) (Or.inl ⟨by rfl, ?_⟩) (by assumption) ?_
              rotate_left
              · (intro w hSw; (try dsimp only at hSw); (try go_simp); (try (with_reducible rfl)))
              (try simp only [Act.put, List.setIfInBounds_toArray, List.set_cons_zero, List.set_cons_succ])
              refine' wpAnyH_tk (i := 4) (v := _) rfl (by kernel_rfl) (by decide +kernel) (by decide +kernel) (fun _ _ _ h => h) (Or.inl ⟨by rfl, ?_⟩) (by assumption) ?_
              rotate_left
              · (intro w hSw; (try dsimp only at hSw); (try go_simp); (try (with_reducible rfl)))
              (try simp only [Act.put, List.setIfInBounds_toArray, List.set_cons_zero, List.set_cons_succ])
              refine' wpAnyH_tk (i := 5) (v := _) rfl (by kernel_rfl) (by decide +kernel) (by decide +kernel) (fun _ _ _ h => h) (Or.inl ⟨by rfl, ?_⟩) (by assumption) ?_
              rotate_left
              · (intro w hSw; (try dsimp only at hSw); (try go_simp); (try (with_reducible rfl)))
              (try simp only [Act.put, List.setIfInBounds_toArray, List.set_cons_zero, List.set_cons_succ])
              refine' wpAnyH_tk (i := 6) (v := _) rfl (by kernel_rfl) (by decide +kernel) (by decide +kernel) (fun _ _ _ h => h) (Or.inl ⟨by rfl, ?_⟩) (by assumption) ?_
              rotate_left
              · (intro w hSw; (try dsimp only at hSw); (try go_simp); (try (with_reducible rfl)))
              (try simp only [Act.put, List.setIfInBounds_toArray, List.set_cons_zero, List.set_cons_succ])
              refine' wpAnyH_tk (i := 7) (v := _) rfl (by kernel_rfl) (by decide +kernel) (by decide +kernel) (fun _ _ _ h => h) (Or.inl ⟨by rfl, ?_⟩) (by assumption) ?_
              rotate_left
              · (intro w hSw; (try dsimp only at hSw); (try go_simp); (try (with_reducible rfl)))
              (try simp only [Act.put, List.setIfInBounds_toArray, List.set_cons_zero, List.set_cons_succ])
              refine' wpAnyH_tk (i := 8) (v := _) rfl (by kernel_rfl) (by decide +kernel) (by decide +kernel) (fun _ _ _ h => h) (Or.inl ⟨by rfl, ?_⟩) (by assumption) ?_
              rotate_left
              · (intro w hSw; (try dsimp only at hSw); (try go_simp); (try (with_reducible rfl)))
              (try simp only [Act.put, List.setIfInBounds_toArray, List.set_cons_zero, List.set_cons_succ])
              refine' wpAnyH_tk (i := 9) (v := _) rfl (by kernel_rfl) (by decide +kernel) (by decide +kernel) (fun _ _ _ h => h) (Or.inl ⟨by rfl, ?_⟩) (by assumption) ?_
              rotate_left
              · (intro w hSw; (try dsimp only at hSw); (try go_simp); (try (with_reducible rfl)))
              (try simp only [Act.put, List.setIfInBounds_toArray, List.set_cons_zero, List.set_cons_succ])
              refine wpAnyH_done (by decide +kernel) ?_ _

              go_wp2_with fail
              go_ret2
              exact ⟨by simp [addT, hf, hm], by unfold addT; rw [if_neg (by simp), hf]; simp only [hm, if_true]; exact HI5.out.step (k6.out.trans kd6.out (fun _ _ x => x))⟩
            · have dm : decide ((L.length : Int) ≥ most) = false := by simpa using hm
              refine wp_region_held_n (S := fun w' => (b < w'.heap.size ∧ w'.cell? ⟨b, 0, none⟩ = some (.int .i64 most) ∧ w'.cell? ⟨b, 1, none⟩ = some (.map (some m)) ∧ w'.cell? ⟨b, 2, none⟩ = some (.slice Av L.length cv)) ∧ (p < w'.heap.size ∧ w'.cell? ⟨p, 0, none⟩ = some (.int .i64 md) ∧ w'.cell? ⟨p, 1, none⟩ = some (.int .i64 dc) ∧ w'.cell? ⟨p, 2, none⟩ = some (.string (joinB ⟨#[59]⟩ ss))) ∧ MapK w' m (idxs L)) 10 rfl (by kernel_rfl) ?_ (fun hHeld => ?_)
              · exact hsk.out _ (k6.out.trans kd6.out (fun _ _ x => x))
              refine' wpAnyH_tk (i := 0) (v := _) rfl (by kernel_rfl) (by decide +kernel) (by decide +kernel) (fun _ _ _ h => h) (Or.inl ⟨by rfl, ?_⟩) (by assumption) ?_
              rotate_left
              · (intro w hSw; (try dsimp only at hSw); (try go_simp); (try (with_reducible rfl)))
              (try simp only [Act.put, List.setIfInBounds_toArray, List.set_cons_zero, List.set_cons_succ])
              refine' wpAnyH_tk (i := 1) (v := _) rfl (by kernel_rfl) (by decide +kernel) (by decide +kernel) (fun _ _ _ h => h) (Or.inl ⟨by rfl, ?_⟩) (by assumption) ?_
              rotate_left
              · (intro w hSw; (try dsimp only at hSw); (try go_simp); (try (with_reducible rfl)))
              (try simp only [Act.put, List.setIfInBounds_toArray, List.set_cons_zero, List.set_cons_succ])
              refine' wpAnyH_tk (i := 2) (v := _) rfl (by kernel_rfl) (by decide +kernel) (by decide +kernel) (fun _ _ _ h => h) (Or.inl ⟨by rfl, ?_⟩) (by assumption) ?_
              rotate_left
              · (intro w hSw; (try dsimp only at hSw); (try go_simp); (try (with_reducible rfl)))
              (try simp only [Act.put, List.setIfInBounds_toArray, List.set_cons_zero, List.set_cons_succ])
              refine' wpAnyH_tk (i := 3) (v := _) rfl (by kernel_rfl) (by decide +kernel) (by decide +kernel) (fun _ _ _ h => h) (Or.inl ⟨by rfl, ?_⟩) (by assumption) ?_
              rotate_left
              · (intro w hSw; (try dsimp only at hSw); (try go_simp); (try (with_reducible rfl)))
              (try simp only [Act.put, List.setIfInBounds_toArray, List.set_cons_zero, List.set_cons_succ])
              refine' wpAnyH_tk (i := 4) (v := _) rfl (by kernel_rfl) (by decide +kernel) (by decide +kernel) (fun _ _ _ h => h) (Or.inl ⟨by rfl, ?_⟩) (by assumption) ?_
              rotate_left
              · (intro w hSw; (try dsimp only at hSw); (try go_simp); (try (with_reducible rfl)))
              (try simp only [Act.put, List.setIfInBounds_toArray, List.set_cons_zero, List.set_cons_succ])
              refine' wpAnyH_tk (i := 5) (v := _) rfl (by kernel_rfl) (by decide +kernel) (by decide +kernel) (fun _ _ _ h => h) (Or.inl ⟨by rfl, ?_⟩) (by assumption) ?_
              rotate_left
              · (intro w hSw; (try dsimp only at hSw); (try go_simp); (try (with_reducible rfl)))
              (try simp only [Act.put, List.setIfInBounds_toArray, List.set_cons_zero, List.set_cons_succ])
              refine' wpAnyH_tk (i := 6) (v := _) rfl (by kernel_rfl) (by decide +kernel) (by decide +kernel) (fun _ _ _ h => h) (Or.inl ⟨by rfl, ?_⟩) (by assumption) ?_
              rotate_left
              · (intro w hSw; (try dsimp only at hSw); (try go_simp); (try (with_reducible rfl)))
              (try simp only [Act.put, List.setIfInBounds_toArray, List.set_cons_zero, List.set_cons_succ])
              refine' wpAnyH_tk (i := 7) (v := _) rfl (by kernel_rfl) (by decide +kernel) (by decide +kernel) (fun _ _ _ h => h) (Or.inl ⟨by rfl, ?_⟩) (by assumption) ?_
              rotate_left
              · (intro w hSw; (try dsimp only at hSw); (try go_simp); (try (with_reducible rfl)))
              (try simp only [Act.put, List.setIfInBounds_toArray, List.set_cons_zero, List.set_cons_succ])
              refine' wpAnyH_tk (i := 8) (v := _) rfl (by kernel_rfl) (by decide +kernel) (by decide +kernel) (fun _ _ _ h => h) (Or.inl ⟨by rfl, ?_⟩) (by assumption) ?_
              rotate_left
              · (intro w hSw; (try dsimp only at hSw); (try go_simp); (try (with_reducible rfl)))
              (try simp only [Act.put, List.setIfInBounds_toArray, List.set_cons_zero, List.set_cons_succ])
              refine' wpAnyH_tk (i := 9) (v := _) rfl (by kernel_rfl) (by decide +kernel) (by decide +kernel) (fun _ _ _ h => h) (Or.inl ⟨by rfl, ?_⟩) (by assumption) ?_
              rotate_left
              · (intro w hSw; (try dsimp only at hSw); (try go_simp); (try (with_reducible rfl)))
              (try simp only [Act.put, List.setIfInBounds_toArray, List.set_cons_zero, List.set_cons_succ])
              refine wpAnyH_done (by decide +kernel) ?_ _

              go_upto_region 15 with fail
              generalize hdr : W6.drew = W7 at *
              have k7 : Hid (Keep (fun _ => False) W5 W7) := by rw [← hdr]; exact k6.out.trans (Keep.refl _ _).drew (fun _ _ x => x)
              have kd7 : Hid (Keep (fun _ => False) W7 W7.drew) := (Keep.refl _ _).drew
              clear hdr
              have hsq : Hid (∀ w', Keep (fun i => i = m) W5 w' → (b < w'.heap.size ∧ w'.cell? ⟨b, 0, none⟩ = some (.int .i64 most) ∧ w'.cell? ⟨b, 1, none⟩ = some (.map (some m)) ∧ w'.cell? ⟨b, 2, none⟩ = some (.slice Av L.length cv)) ∧ (p < w'.heap.size ∧ w'.cell? ⟨p, 0, none⟩ = some (.int .i64 md) ∧ w'.cell? ⟨p, 1, none⟩ = some (.int .i64 dc) ∧ w'.cell? ⟨p, 2, none⟩ = some (.string (joinB ⟨#[59]⟩ ss)))) := fun w' hk => ⟨(hk.at_ HTT.out.2.2.1 hbm).icells, (hk.at_ a5h.out hpm).icells⟩
              have hput := run_putK (HTT.out.2.2.2.keep (k7.out.trans kd7.out (fun _ _ x => x)) (fun x => x)) HI.2 HB.out.2 hf (L.length : Int)
              obtain ⟨W8, hput1, hput2, hput3⟩ := hput
              simp only [keyV] at hput1
              have HP := Lib.hid (And.intro hput2 hput3)
              clear hput2 hput3
              refine wp_region_held_n (S := fun w' => (b < w'.heap.size ∧ w'.cell? ⟨b, 0, none⟩ = some (.int .i64 most) ∧ w'.cell? ⟨b, 1, none⟩ = some (.map (some m)) ∧ w'.cell? ⟨b, 2, none⟩ = some (.slice Av L.length cv)) ∧ (p < w'.heap.size ∧ w'.cell? ⟨p, 0, none⟩ = some (.int .i64 md) ∧ w'.cell? ⟨p, 1, none⟩ = some (.int .i64 dc) ∧ w'.cell? ⟨p, 2, none⟩ = some (.string (joinB ⟨#[59]⟩ ss)))) 11 rfl (by kernel_rfl) ?_ (fun hHeld => ?_)
              · exact hsq.out _ ((k7.out.trans kd7.out (fun _ _ x => x)).mono (fun _ _ x => x.elim))
              refine' wpAnyH_tk (i := 0) (v := _) rfl (by kernel_rfl) (by decide +kernel) (by decide +kernel) (fun _ _ _ h => h) (Or.inl ⟨by rfl, ?_⟩) (by assumption) ?_
              rotate_left
              · (intro w hSw; (try dsimp only at hSw); (try go_simp); (try (with_reducible rfl)))
              (try simp only [Act.put, List.setIfInBounds_toArray, List.set_cons_zero, List.set_cons_succ])
              refine' wpAnyH_tk (i := 1) (v := _) rfl (by kernel_rfl) (by decide +kernel) (by decide +kernel) (fun _ _ _ h => h) (Or.inl ⟨by rfl, ?_⟩) (by assumption) ?_
              rotate_left
              · (intro w hSw; (try dsimp only at hSw); (try go_simp); (try (with_reducible rfl)))
              (try simp only [Act.put, List.setIfInBounds_toArray, List.set_cons_zero, List.set_cons_succ])
              refine' wpAnyH_tk (i := 2) (v := _) rfl (by kernel_rfl) (by decide +kernel) (by decide +kernel) (fun _ _ _ h => h) (Or.inl ⟨by rfl, ?_⟩) (by assumption) ?_
              rotate_left
              · (intro w hSw; (try dsimp only at hSw); (try go_simp); (try (with_reducible rfl)))
              (try simp only [Act.put, List.setIfInBounds_toArray, List.set_cons_zero, List.set_cons_succ])
              refine' wpAnyH_tk (i := 3) (v := _) rfl (by kernel_rfl) (by decide +kernel) (by decide +kernel) (fun _ _ _ h => h) (Or.inl ⟨by rfl, ?_⟩) (by assumption) ?_
              rotate_left
              · (intro w hSw; (try dsimp only at hSw); (try go_simp); (try (with_reducible rfl)))
              (try simp only [Act.put, List.setIfInBounds_toArray, List.set_cons_zero, List.set_cons_succ])
              refine' wpAnyH_tk (i := 4) (v := _) rfl (by kernel_rfl) (by decide +kernel) (by decide +kernel) (fun _ _ _ h => h) (Or.inl ⟨by rfl, ?_⟩) (by assumption) ?_
              rotate_left
              · (intro w hSw; (try dsimp only at hSw); (try go_simp); (try (with_reducible rfl)))
              (try simp only [Act.put, List.setIfInBounds_toArray, List.set_cons_zero, List.set_cons_succ])
              refine' wpAnyH_tk (i := 5) (v := _) rfl (by kernel_rfl) (by decide +kernel) (by decide +kernel) (fun _ _ _ h => h) (Or.inl ⟨by rfl, ?_⟩) (by assumption) ?_
              rotate_left
              · (intro w hSw; (try dsimp only at hSw); (try go_simp); (try (with_reducible rfl)))
              (try simp only [Act.put, List.setIfInBounds_toArray, List.set_cons_zero, List.set_cons_succ])
              refine' wpAnyH_tk (i := 6) (v := _) rfl (by kernel_rfl) (by decide +kernel) (by decide +kernel) (fun _ _ _ h => h) (Or.inl ⟨by rfl, ?_⟩) (by assumption) ?_
              rotate_left
              · (intro w hSw; (try dsimp only at hSw); (try go_simp); (try (with_reducible rfl)))
              (try simp only [Act.put, List.setIfInBounds_toArray, List.set_cons_zero, List.set_cons_succ])
              refine' wpAnyH_tk (i := 7) (v := _) rfl (by kernel_rfl) (by decide +kernel) (by decide +kernel) (fun _ _ _ h => h) (Or.inl ⟨by rfl, ?_⟩) (by assumption) ?_
              rotate_left
              · (intro w hSw; (try dsimp only at hSw); (try go_simp); (try (with_reducible rfl)))
              (try simp only [Act.put, List.setIfInBounds_toArray, List.set_cons_zero, List.set_cons_succ])
              refine' wpAnyH_tk (i := 8) (v := _) rfl (by kernel_rfl) (by decide +kernel) (by decide +kernel) (fun _ _ _ h => h) (Or.inl ⟨by rfl, ?_⟩) (by assumption) ?_
              rotate_left
              · (intro w hSw; (try dsimp only at hSw); (try go_simp); (try (with_reducible rfl)))
              (try simp only [Act.put, List.setIfInBounds_toArray, List.set_cons_zero, List.set_cons_succ])
              refine' wpAnyH_tk (i := 9) (v := _) rfl (by kernel_rfl) (by decide +kernel) (by decide +kernel) (fun _ _ _ h => h) (Or.inl ⟨by rfl, ?_⟩) (by assumption) ?_
              rotate_left
              · (intro w hSw; (try dsimp only at hSw); (try go_simp); (try (with_reducible rfl)))
              (try simp only [Act.put, List.setIfInBounds_toArray, List.set_cons_zero, List.set_cons_succ])
              refine wpAnyH_ready (rs := [10]) (by decide +kernel) (by simp) ?_
              refine AllReadyH_one rfl (fun K hK => ?_)
              go_simp
              skip
              refine hK.out _ _ ?_ (fun hHeld => ?_)
              · exact hsq.out _ (((k7.out.trans kd7.out (fun _ _ x => x)).mono (fun _ _ x => x.elim)).trans HP.out.2 (fun _ _ x => x))
              clear hK K
              (try simp only [Act.put, List.setIfInBounds_toArray, List.set_cons_zero, List.set_cons_succ])
              refine wpAnyH_done (by decide +kernel) ?_ _

              go_upto_region 16 with fail
              have k58 := (k7.out.trans kd7.out (fun _ _ x => x)).mono (fun _ _ x => x.elim) |>.trans HP.out.2 (fun _ _ x => x)
              have ab8 := k58.at_ HTT.out.2.2.1 hbm
              have ax8 := k58.at_ axh.out hxm
              have ow8 := k58.own HTT.out.1 hgm
              have b0 := ab8.cell 0
              have b1 := ab8.cell 1
              have b2 := ab8.cell 2
              have bl := ab8.lt
              have bf := ab8.frozen
              have x0 := ax8.cell 0
              have x1 := ax8.cell 1
              have x2 := ax8.cell 2
              have xl := ax8.lt
              simp only [List.getElem?_toArray, List.getElem?_cons_succ, List.getElem?_cons_zero] at b0 b1 b2 x0 x1 x2
              have hbig : L.length + 1 ≤ 1099511627776 := by omega
              have H8 := Lib.hid (And.intro k58 (And.intro ab8 ow8))
              clear k58 ab8 ax8 ow8
              go_region_law (refine step_app rfl (.tmp 70) (.tmp 72) 37 rfl E37 (.slice Av L.length cv) L.length (iflat L) rfl ((H8.out.2.2.alloc _).drew) W8.heap.size 1 1 #[.int .i64 md, .int .i64 dc, .slice A i c] rfl ((At.new_at (by simp)).drew) rfl (by simp [Value.oneCell']) (by decide) hbig (by decide) ?_; intro g' cap' w' ho' hk hg hgl; have ha := hk.at_ ((H8.out.2.1.alloc _).drew) hgb; have hz2 := ha.cell 2; have hzf := ha.frozen; have hzl := ha.lt; simp only [List.getElem?_toArray, List.getElem?_cons_succ, List.getElem?_cons_zero] at hz2)
              all_goals (
                have hN := TabI.add (k := (md, dc, (joinB ⟨#[59]⟩ ss))) (v := .slice A i c) HTB.out H8.out.1 (fun h => hbm h.symm) hgm H8.out.2.1 HP.out.1 hf (((Keep.refl (fun _ => False) W8).alloc _).drew) hk hg ha ho' hgb
                have HN2 := Lib.hid hN
                clear hN ho' hk hg hgl ha x0 x1 x2 b0 b1 b2 bl bf xl
                go_wp2_with fail
                go_ret2
                have hm' : ¬ (L.length : Int) ≥ most := by omega
                have hm2 : ¬ most ≤ (L.length : Int) := by omega
                exact ⟨by simp [addT, hf, hm2], by unfold addT; rw [if_neg (by simp), hf]; simp only []; rw [if_neg hm']; exact HN2.out⟩)
        go_region_with (first
          | (go_at_call 53; refine (HJ.out (wr.drew.alloc (.cells #[.int .i64 0, .int .i64 0, .string ⟨#[]⟩] 73)) ((Keep.refl (fun _ => False) wr).drew.alloc _)).mono ?_; rintro e w3 ⟨rfl, hk⟩; have hk3 := ((Keep.refl (fun _ => False) wr).drew.alloc _).trans hk (fun _ _ x => x); have ab := hk3.at_ HW.out.2 (fun x => x); have bl := ab.lt; have b0 := ab.cell 0; have b1 := ab.cell 1; simp only [List.getElem?_toArray, List.getElem?_cons_succ, List.getElem?_cons_zero] at b0 b1; clear ab; have az : At w3 wr.heap.size 73 #[.int .i64 0, .int .i64 0, .string ⟨#[]⟩] := hk.at_ (At.new wr.drew 73 #[.int .i64 0, .int .i64 0, .string ⟨#[]⟩]) (fun x => x); have zl := az.lt; have z0 := az.cell 0; have z1 := az.cell 1; have z2 := az.cell 2; simp only [List.getElem?_toArray, List.getElem?_cons_succ, List.getElem?_cons_zero] at z0 z1 z2; have zf0 := az.frozen 0; have zf1 := az.frozen 1; have zf2 := az.frozen 2; have HZ := Lib.hid az; clear az; have H3 := Lib.hid hk3; clear hk hk3)
          | (go_at_call 53; refine (HJ.out ((wr.alloc (.cells #[.int .i64 0, .int .i64 0, .string ⟨#[]⟩] 73)).drew) (((Keep.refl (fun _ => False) wr).alloc _).drew)).mono ?_; rintro e w3 ⟨rfl, hk⟩; have hk3 := (((Keep.refl (fun _ => False) wr).alloc _).drew).trans hk (fun _ _ x => x); have ab := hk3.at_ HW.out.2 (fun x => x); have bl := ab.lt; have b0 := ab.cell 0; have b1 := ab.cell 1; simp only [List.getElem?_toArray, List.getElem?_cons_succ, List.getElem?_cons_zero] at b0 b1; clear ab; have az : At w3 wr.heap.size 73 #[.int .i64 0, .int .i64 0, .string ⟨#[]⟩] := hk.at_ ((At.new wr 73 #[.int .i64 0, .int .i64 0, .string ⟨#[]⟩]).drew) (fun x => x); have zl := az.lt; have z0 := az.cell 0; have z1 := az.cell 1; have z2 := az.cell 2; simp only [List.getElem?_toArray, List.getElem?_cons_succ, List.getElem?_cons_zero] at z0 z1 z2; have zf0 := az.frozen 0; have zf1 := az.frozen 1; have zf2 := az.frozen 2; have HZ := Lib.hid az; clear az; have H3 := Lib.hid hk3; clear hk hk3)
          | (go_at_call 53; refine (HJ.out (wr.drew) ((Keep.refl (fun _ => False) wr).drew)).mono ?_; rintro e w3 ⟨rfl, hk⟩; have hk3 := ((Keep.refl (fun _ => False) wr).drew).trans hk (fun _ _ x => x); have ab := hk3.at_ HW.out.2 (fun x => x); have bl := ab.lt; have b0 := ab.cell 0; have b1 := ab.cell 1; simp only [List.getElem?_toArray, List.getElem?_cons_succ, List.getElem?_cons_zero] at b0 b1; clear ab; have H3 := Lib.hid hk3; clear hk hk3))
        all_goals go_simp
        all_goals first
          | exact HT.out _ _ _ _ _ _ _ _ _ _ _ (H3.out.alloc _) (At.new _ _ _)
          | exact HT.out _ _ _ _ _ _ _ _ _ _ _ (Keep.setCell (p := ⟨_, 2, none⟩) (Keep.setCell (p := ⟨_, 1, none⟩) (Keep.setCell (p := ⟨_, 0, none⟩) H3.out (.inr (Nat.le_refl _)) _) (.inr (Nat.le_refl _)) _) (.inr (Nat.le_refl _)) _) (((HZ.out.set 0 _).set 1 _).set 2 _)
end Go.Proofs.YtbanpohholnkaaaDoor

namespace Go.Proofs.YtbanpohholnkaaaDoor
open Go.RowKit

set_option maxRecDepth 100000 in
set_option maxHeartbeats 1000000 in
theorem new_any {w : World} {most : Int} : Calls Tryd.prog 28 #[.int .i64 most] w fun e w' => ∃ b m : Nat, e = .returned (.pointer (some ⟨b, 0, none⟩)) ∧ TabI w w' b m most [] := by
  have hmm := @run_makeMap Tryd.prog
  go_enter Tryd.func28, Tryd.ntmps28
  go_wp2
  go_ret
  refine ⟨w.heap.size + 1, w.heap.size, by simp, .slice none 0 0, ?_, ?_, World.ownsRow_nil _ 0 _ 3, by simp, ((Keep.refl _ w).alloc _).alloc _, by omega, Nat.le_refl _, fun g hg => by simp [Value.ownBlock] at hg⟩
  · exact At.new_at (by simp)
  · exact (MapK.made w).keep (Y := fun _ => False) ((Keep.refl _ _).alloc _) (fun x => x)
set_option maxHeartbeats 1000000 in
theorem len_any {w0 w : World} {b m : Nat} {most : Int} {L : List (Kt × Value)} (h : TabI w0 w b m most L) : Calls Tryd.prog 29 #[.pointer (some ⟨b, 0, none⟩)] w fun e w' => e = .returned (.int .i64 L.length) ∧ w = w' := by
  obtain ⟨lv, t1, t2, t3, t4⟩ := h
  obtain ⟨Av, cv, rfl⟩ := own_slice t3
  obtain ⟨bl, b0, b1, b2⟩ := t1.icells
  clear t1 t2 t3 t4
  go_enter Tryd.func29, Tryd.ntmps29
  go_wp2
  go_ret
  exact ⟨rfl, rfl⟩
theorem ret_cell3 {fn : Func} {a s : Tmp} (h : fn.results = #[.cell a 41, .tmp s]) {tmps : Array Value} {w : World} {b : Nat} {v0 v1 v2 : Value} (ha : tmps.getD a undef = .pointer (some ⟨b, 0, none⟩)) (hb : At w b 41 #[v0, v1, v2]) :
    (results fn tmps).run Tryd.prog w = .ok (.tuple #[.agg #[v0, v1, v2], tmps.getD s undef]) w := by
  have h0 : w.cell? ⟨b, 0, none⟩ = some v0 := hb.cell 0
  have h1 : w.cell? ⟨b, 1, none⟩ = some v1 := hb.cell 1
  have h2 : w.cell? ⟨b, 2, none⟩ = some v2 := hb.cell 2
  have hl := hb.lt
  have ia := Tryd.isAgg41 w
  simp only [Array.getD_eq_getD_getElem?] at ha
  simp [results, h, ha, go_sem, ia, h0, h1, h2]
theorem iflat_get {L : List (Kt × Value)} {i : Nat} {x : Kt × Value} (h : L[i]? = some x) : (iflat L)[i * 3]? = some (.int .i64 x.1.1) ∧ (iflat L)[i * 3 + 1]? = some (.int .i64 x.1.2.1) ∧ (iflat L)[i * 3 + 2]? = some x.2 := by
  induction L generalizing i with
  | nil => simp at h
  | cons a L ih =>
    have e : iflat (a :: L) = [.int .i64 a.1.1, .int .i64 a.1.2.1, a.2] ++ iflat L := rfl
    cases i with
    | zero =>
      simp only [List.getElem?_cons_zero, Option.some.injEq] at h
      subst h
      rw [e]
      simp
    | succ i =>
      obtain ⟨h1, h2, h3⟩ := ih (i := i) (by simpa using h)
      rw [e, show (i + 1) * 3 = i * 3 + 3 by omega, show i * 3 + 3 + 1 = (i * 3 + 1) + 3 by omega, show i * 3 + 3 + 2 = (i * 3 + 2) + 3 by omega]
      refine ⟨?_, ?_, ?_⟩ <;> rw [List.getElem?_append_right (by simp)]
      · simpa using h1
      · simpa using h2
      · simpa using h3
set_option maxRecDepth 100000 in
set_option maxHeartbeats 1000000 in
theorem at_any {w0 w : World} {b m i : Nat} {most : Int} {L : List (Kt × Value)} {x : Kt × Value} {A : Option Addr} {n c : Nat} (h : TabI w0 w b m most L) (hx : L[i]? = some x) (hs : x.2 = .slice A n c) (hb : i ≤ 1000) :
    Calls Tryd.prog 31 #[.pointer (some ⟨b, 0, none⟩), .int .i64 i] w fun e w' => e = .returned (.tuple #[.agg #[.int .i64 x.1.1, .int .i64 x.1.2.1, .slice A n c], .bool true]) ∧ Keep (fun _ => False) w w' := by
  obtain ⟨lv, t1, t2, t3, t4⟩ := h
  obtain ⟨Av, cv, rfl⟩ := own_slice t3
  obtain ⟨bl, b0, b1, b2⟩ := t1.icells
  have hi : i < L.length := (List.getElem?_eq_some_iff.1 hx).1
  obtain ⟨g1, g2, g3⟩ := iflat_get hx
  rw [hs] at g3
  rcases own_cases t3 with ⟨hv, h0, _⟩ | ⟨g, cap, hv, hcap, hg⟩
  · omega
  simp only [Value.slice.injEq, true_and] at hv
  obtain ⟨rfl, rfl⟩ := hv
  have c0 := t3.cellAt (i * 3) (by omega)
  have c1 := t3.cellAt (i * 3 + 1) (by omega)
  have c2 := t3.cellAt (i * 3 + 2) (by omega)
  rw [g1] at c0
  rw [g2] at c1
  rw [g3] at c2
  obtain ⟨⟨x1, x2, x3⟩, x4⟩ := x
  simp only at c0 c1 c2 hs ⊢
  have hi0 : decide ((i : Int) < 0) = false := by simp
  have hi1 : decide ((i : Int) ≥ (L.length : Int)) = false := by simp; omega
  have hi2 : decide (L.length ≤ i) = false := by simp; omega
  clear t1 t2 t3 t4 g1 g2 g3 hx hs
  generalize L.length = n' at *
  go_enter Tryd.func31, Tryd.ntmps31
  go_wp2
  refine bodyPost_ret (ret_cell3 rfl rfl (At.new w _ _)) rfl ?_
  exact ⟨rfl, (Keep.refl _ w).alloc _⟩
end Go.Proofs.YtbanpohholnkaaaDoor

namespace Go.Proofs.YtbanpohholnkaaaDoor
open Go.RowKit

structure Ins where
  mod : Int
  decl : Int
  types : List Ty
def Ins.enc (x : Ins) : List Dt := [.c (.int .i64 x.mod), .c (.int .i64 x.decl), tysD x.types]
theorem idxs_find {L : List (Kt × Value)} {k : Kt} {p : Kt × Int} (h : (idxs L).find? (fun p => decide (p.1 = k)) = some p) : ∃ (j : Nat) (x : Kt × Value), p.2 = j ∧ L[j]? = some x ∧ x.1 = k := by
  have h1 := List.find?_some h
  have h2 := List.mem_of_find?_eq_some h
  unfold idxs at h2
  obtain ⟨q, hq, rfl⟩ := List.mem_map.1 h2
  obtain ⟨i, hi, hq2⟩ := List.getElem_of_mem hq
  have h3 : ((L.map (·.1)).zipIdx)[i]? = some q := by rw [List.getElem?_eq_getElem hi, hq2]
  rw [List.getElem?_zipIdx] at h3
  obtain ⟨k', hk', hq3⟩ := Option.map_eq_some_iff.1 h3
  rw [List.getElem?_map] at hk'
  obtain ⟨x, hx, rfl⟩ := Option.map_eq_some_iff.1 hk'
  refine ⟨i, x, ?_, hx, ?_⟩
  · rw [← hq3]
    simp
  · rw [← hq3] at h1
    simpa using h1
theorem find_new {L : List (Kt × Value)} {k : Kt} {v : Value} (h : (idxs L).find? (fun p => decide (p.1 = k)) = none) : (idxs (L ++ [(k, v)])).find? (fun p => decide (p.1 = k)) = some (k, (L.length : Int)) := by
  rw [idxs_snoc, List.find?_append, h]
  simp
def Slc (v : Value) : Prop := ∃ (A : Option Addr) (n c : Nat), v = .slice A n c
/-- What an instance's number is, and that it is that once more. -/
theorem add_cases {most : Int} {L : List (Kt × Value)} {ok : Bool} {k : Kt} {v : Value} (hv : Slc v) (hs : ∀ x ∈ L, Slc x.2) : ∃ (j : Nat) (e : Int) (L1 : List (Kt × Value)), addT most L ok k v = ((j : Int), e, L1) ∧ addT most L1 ok k v = ((j : Int), e, L1) ∧ (∀ x ∈ L1, Slc x.2) ∧
    (L1.length = L.length ∨ e = 0 ∧ L1.length = L.length + 1) ∧ ((e = 0 ∧ ∃ x, L1[j]? = some x ∧ x.1 = k) ∨ ((e = 9 ∨ e = 19) ∧ j = 0)) := by
  cases ok with
  | false => exact ⟨0, 9, L, rfl, rfl, hs, .inl rfl, .inr ⟨.inl rfl, rfl⟩⟩
  | true =>
    cases hf : (idxs L).find? (fun p => decide (p.1 = k)) with
    | some p =>
      obtain ⟨j, x, hj, hx, hk⟩ := idxs_find hf
      have e : addT most L true k v = ((j : Int), 0, L) := by simp [addT, hf, hj]
      exact ⟨j, 0, L, e, e, hs, .inl rfl, .inl ⟨rfl, x, hx, hk⟩⟩
    | none =>
      by_cases hm : (L.length : Int) ≥ most
      · have e : addT most L true k v = (0, 19, L) := by simp [addT, hf, hm]
        exact ⟨0, 19, L, e, e, hs, .inl rfl, .inr ⟨.inr rfl, rfl⟩⟩
      · have hm2 : ¬ most ≤ (L.length : Int) := by omega
        have e : addT most L true k v = ((L.length : Int), 0, L ++ [(k, v)]) := by simp [addT, hf, hm2]
        refine ⟨L.length, 0, L ++ [(k, v)], e, by simp [addT, find_new hf], fun x hx => ?_, .inr ⟨rfl, by simp⟩, .inl ⟨rfl, (k, v), by simp, rfl⟩⟩
        rcases List.mem_append.1 hx with hx | hx
        · exact hs x hx
        · rw [List.mem_singleton.1 hx]
          exact hv
set_option maxRecDepth 100000 in
set_option maxHeartbeats 1000000 in
theorem at_no {w0 w : World} {b m : Nat} {most : Int} {L : List (Kt × Value)} (h : TabI w0 w b m most L) (hx : L.length = 0) :
    Calls Tryd.prog 31 #[.pointer (some ⟨b, 0, none⟩), .int .i64 ((0 : Nat) : Int)] w fun e w' => e = .returned (.tuple #[.agg #[.int .i64 0, .int .i64 0, .slice none 0 0], .bool false]) ∧ Keep (fun _ => False) w w' := by
  obtain ⟨lv, t1, t2, t3, t4⟩ := h
  obtain ⟨Av, cv, rfl⟩ := own_slice t3
  obtain ⟨bl, b0, b1, b2⟩ := t1.icells
  rw [hx] at b2
  clear t1 t2 t3 t4 hx
  go_enter Tryd.func31, Tryd.ntmps31
  go_wp2
  refine bodyPost_ret (by first | exact ret_cell3 rfl rfl (At.new w _ _) | exact ret_cell3 rfl rfl ((((At.new w _ _).set 0 _).set 1 _).set 2 _)) rfl ?_
  exact ⟨rfl, by first | exact (Keep.refl _ w).alloc _ | exact ((Keep.setCell (X := fun _ => False) (p := ⟨_, 2, none⟩) (Keep.setCell (X := fun _ => False) (p := ⟨_, 1, none⟩) (Keep.setCell (X := fun _ => False) (p := ⟨_, 0, none⟩) ((Keep.refl _ w).alloc _) (.inr (by simp)) _) (.inr (by simp)) _) (.inr (by simp)) _))⟩
/-- At nought, be there one or not. -/
theorem at_nought {w0 w : World} {b m : Nat} {most : Int} {L : List (Kt × Value)} (h : TabI w0 w b m most L) (hs : ∀ x ∈ L, Slc x.2) :
    Calls Tryd.prog 31 #[.pointer (some ⟨b, 0, none⟩), .int .i64 ((0 : Nat) : Int)] w fun e w' => (∃ (z1 z2 : Int) (A : Option Addr) (n c : Nat) (q : Bool), e = .returned (.tuple #[.agg #[.int .i64 z1, .int .i64 z2, .slice A n c], .bool q])) ∧ Keep (fun _ => False) w w' := by
  cases L with
  | nil => exact (at_no h rfl).mono fun e w' ⟨he, hk⟩ => ⟨⟨0, 0, none, 0, 0, false, he⟩, hk⟩
  | cons x L =>
    obtain ⟨A, n, c, hx⟩ := hs x List.mem_cons_self
    exact (at_any (i := 0) h rfl hx (by decide)).mono fun e w' ⟨he, hk⟩ => ⟨⟨_, _, A, n, c, true, he⟩, hk⟩
set_option maxRecDepth 100000 in
set_option maxHeartbeats 2000000 in
theorem few_no {w : World} {X : Nat → Prop} {A : Option Addr} {n c : Nat} {l : List Ty} {rs : List Tv} (hb : n ≤ 1152921504606846976) (h10 : ¬ n ≤ 10) (h : Rd w X 4 (.slice A n c) n (tflat rs)) (hv : TysV w X rs l) :
    Calls Tryd.prog 22 #[.slice A n c] w fun e w' => e = .returned (.bool false) ∧ Keep (fun _ => False) w w' := by
  have hl := hv.len
  have hn := h.nlen
  have HH := Lib.hid (And.intro h (And.intro hv (And.intro hl hn)))
  have h0 : Hid (FeA w n n (.int .i64 500) (.int .i64 0) w) := ⟨0, 500, rfl, rfl, Nat.zero_le _, rfl, Nat.le_refl _, Keep.refl _ _⟩
  have d10 : decide ((n : Int) ≤ 10) = false := by simp; omega
  have d10' : decide (n ≤ 10) = false := by simpa using h10
  clear h hv hl hn
  go_enter Tryd.func22, Tryd.ntmps22
  go_wp2
  go_loopg [3, 4] n (FeA w n)
  case atStart => exact h0.out
  case round =>
    clear h0
    obtain ⟨i, m, rfl, rfl, hi, rfl, hm, hk⟩ := hrel
    by_cases hlt : i < n
    · by_cases hm0 : 0 < m
      · obtain ⟨s, hs⟩ : ∃ s, l[i]? = some s := ⟨_, List.getElem?_eq_getElem (by have := HH.out.2.2; omega)⟩
        obtain ⟨⟨qk, qnm, qAn, qnn, qcn, qAk, qnk, qck⟩, hq, hqv⟩ := (HH.out.2.1.step hk).at_ hs
        obtain ⟨b, o, rfl, hbz, _, c0, c1, c2, c3⟩ := (HH.out.1.keep hk (fun _ x => x.elim)).tcells hlt hq
        simp only at c0 c1 c2 c3
        have hc := weight8_any s wr ⟨qk, qnm, qAn, qnn, qcn, qAk, qnk, qck⟩ m hm0 (by omega) hqv
        unfold Tv.val at hc
        simp only at hc
        have HK := Lib.hid hk
        have d1 : decide ((i : Int) < (n : Int)) = true := by simp; omega
        have d2 : decide (0 < (m : Int)) = true := by simp; omega
        have i0 : (0 : Int) ≤ (i : Int) := by omega
        have i1 : (i : Int) < (n : Int) := by omega
        clear hk hs hq hqv
        go_wp2_with (go_at_call 38; refine hc.mono ?_; rintro e w' ⟨z, rfl, hz, _, hk⟩; have HK2 := Lib.hid hk; clear hk hc)
        go_roundg (n - (i + 1))
        case measure => omega
        case rel => exact ⟨i + 1, z, rfl, by go_num, by omega, rfl, by omega, HK.out.trans HK2.out (fun _ _ x => x)⟩
      · have d1 : decide ((i : Int) < (n : Int)) = true := by simp; omega
        have d2 : decide (0 < (m : Int)) = false := by simp; omega
        have HK := Lib.hid hk
        clear hk
        go_wp2_with fail
        all_goals go_ret
        all_goals exact ⟨rfl, HK.out⟩
    · have d1 : decide ((i : Int) < (n : Int)) = false := by simp; omega
      have HK := Lib.hid hk
      clear hk
      go_wp2_with fail
      all_goals go_ret
      all_goals exact ⟨rfl, HK.out⟩
theorem few_two {w : World} {X : Nat → Prop} {A : Option Addr} {n c : Nat} {l : List Ty} {rs : List Tv} (hb : n ≤ 1152921504606846976) (h : Rd w X 4 (.slice A n c) n (tflat rs)) (hv : TysV w X rs l) :
    Calls Tryd.prog 22 #[.slice A n c] w fun e w' => (∃ z : Bool, e = .returned (.bool z) ∧ (z = true → n ≤ 10)) ∧ Keep (fun _ => False) w w' := by
  by_cases h10 : n ≤ 10
  · exact (few_any hb h hv).mono fun e w' ⟨⟨z, he⟩, hk⟩ => ⟨⟨z, he, fun _ => h10⟩, hk⟩
  · exact (few_no hb h10 h hv).mono fun e w' ⟨he, hk⟩ => ⟨⟨false, he, fun h => by cases h⟩, hk⟩
theorem showS_size (t : Ty) : (ShowS t).size ≤ 10000 := by
  unfold ShowS
  split
  · rename_i h
    obtain ⟨hn, _, _, hz, _⟩ := NormT_nf h
    have := showT_size t hn.wf
    omega
  · exact Nat.zero_le _
theorem sumS_le : ∀ (l : List ByteArray), (∀ s ∈ l, s.size ≤ 10000) → sumS l ≤ l.length * 10000
  | [], _ => by simp [sumS]
  | x :: l, h => by
    have h1 := h x (by simp)
    have h2 := sumS_le l (fun s hs => h s (List.mem_cons_of_mem _ hs))
    simp only [sumS, List.map_cons, List.sum_cons, List.length_cons] at h2 ⊢
    omega
theorem join_small {ts : List Ty} (h : ts.length ≤ 10) : (joinB ⟨#[59]⟩ (ts.map ShowS)).size ≤ 1000000 := by
  have h1 := joinB_size ⟨#[59]⟩ (ts.map ShowS)
  have h2 := sumS_le (ts.map ShowS) (fun s hs => by
    rcases List.mem_map.1 hs with ⟨t, _, rfl⟩
    exact showS_size t)
  rw [List.length_map] at h1 h2
  have h3 : (⟨#[59]⟩ : ByteArray).size = 1 := rfl
  rw [h3] at h1
  omega
def AgA (w1 : World) (b m : Nat) (most : Int) (n k : Nat) (a : Value) (wr : World) : Prop :=
  ∃ (i : Nat) (L : List (Kt × Value)), a = .int .i64 i ∧ i ≤ n ∧ k = n - i ∧ L.length ≤ i ∧ (∀ x ∈ L, Slc x.2) ∧ TabI w1 wr b m most L
set_option maxRecDepth 100000 in
set_option maxHeartbeats 2000000 in
theorem again_law {w : World} {most : Int} {A : Option Addr} {n c : Nat} {l : List Ins} (hT : Tab w) (hn : n = l.length) (h : DtV w nX (.slice A n c) (rowsD 3 Ins.enc l)) (hwf : ∀ x ∈ l, (Lit.int .i64 x.mod).wf = true ∧ (Lit.int .i64 x.decl).wf = true) :
    Calls Tryd.prog 11 #[.int .i64 most, .slice A n c] w fun e w' => e = .returned (.bool true) ∧ Keep (fun _ => False) w w' := by
  have haw := iawake_any hT
  have H := Lib.hid (And.intro hT (And.intro hn (And.intro h hwf)))
  clear hT hn h hwf
  go_enter Tryd.func11, Tryd.ntmps11
  go_upto_region 2 with (go_at_call 21; refine haw.mono ?_; rintro e w1 ⟨rfl, hk⟩; have K1 := Lib.hid hk; clear hk haw)
  go_upto_region 3 with (go_at_call 28; refine new_any.mono ?_; rintro e w2 ⟨b, m, rfl, ht⟩; have HB := Lib.hid ht; clear ht)
  by_cases h40 : 40 < n
  · have d1 : decide ((n : Int) > 40) = true := by simp; omega
    have d1' : decide (40 < n) = true := by simpa using h40
    go_wp2_with fail
    go_ret
    obtain ⟨_, _, _, _, _, hkb, _⟩ := HB.out
    exact ⟨rfl, K1.out.trans hkb (fun _ _ x => x)⟩
  have d1 : decide ((n : Int) > 40) = false := by simp; omega
  have d1' : decide (40 < n) = false := by simpa using h40
  have h0 : Hid (AgA w1 b m most n n (.int .i64 0) w2) := ⟨0, [], rfl, Nat.zero_le _, rfl, Nat.le_refl _, fun x hx => by simp at hx, HB.out⟩
  go_wp2_with fail
  go_loopg [7] n (AgA w1 b m most n)
  case atStart => exact h0.out
  case round =>
    clear h0 HB d1 d1'
    obtain ⟨i, L, rfl, hi, rfl, hLi, hsl, ht⟩ := hrel
    by_cases hlt : i < n
    · have d1 : decide ((i : Int) < (n : Int)) = true := by simp; omega
      have d1' : decide (i < n) = true := by simp; omega
      obtain ⟨x, hx⟩ : ∃ x, l[i]? = some x := ⟨_, List.getElem?_eq_getElem (by have := H.out.2.1; omega)⟩
      have hk1 : Keep (fun _ => False) w1 wr := by
        obtain ⟨_, _, _, _, _, hkb, _⟩ := ht
        exact hkb
      obtain ⟨b0, o, c', vs, hA, hb0, -, hvl, hvs, hcs⟩ := (H.out.2.2.1.step K1.out).row (enc := Ins.enc) (k := 3) (fun _ => rfl) hx
      simp only [Value.slice.injEq] at hA
      obtain ⟨rfl, -, rfl⟩ := hA
      obtain ⟨u0, _, rfl, g0, hvs⟩ := hvs.cons
      obtain ⟨u1, _, rfl, g1, hvs⟩ := hvs.cons
      obtain ⟨u2, _, rfl, g2, hvs⟩ := hvs.cons
      obtain ⟨h47, Ai, ci, rs, rfl, hrd, hty⟩ := g2.tys
      rw [g0.cell, g1.cell] at hcs
      have q0 := hcs 0 (by decide)
      have q1 := hcs 1 (by decide)
      have q2 := hcs 2 (by decide)
      simp only [Nat.add_zero, List.getElem?_cons_zero, List.getElem?_cons_succ] at q0 q1 q2
      have hw2 := H.out.2.2.2 x (List.mem_of_getElem? hx)
      obtain ⟨md, dc, ts⟩ := x
      simp only at q0 q1 q2 h47 hrd hty hw2
      obtain ⟨ni, hni⟩ : ∃ ni, ts.length = ni := ⟨_, rfl⟩
      rw [hni] at q2 hrd h47
      have hfw := few_two (X := nX) (by omega) (hrd.keep hk1 (fun _ x => x.elim)) (hty.step hk1)
      have HC : Hid (∀ w', Keep (fun _ => False) w1 w' → b0 < w'.heap.size ∧ w'.cell? ⟨b0, o + i * 3, none⟩ = some (.int .i64 md) ∧ w'.cell? ⟨b0, o + i * 3 + 1, none⟩ = some (.int .i64 dc) ∧ w'.cell? ⟨b0, o + i * 3 + 2, none⟩ = some (.slice Ai ni ci)) := fun w' hk => ⟨Nat.lt_of_lt_of_le hb0 hk.size, hk.cell q0 (fun x => x), hk.cell q1 (fun x => x), hk.cell q2 (fun x => x)⟩
      have HL := Lib.hid (And.intro hLi hsl)
      have HTK : Hid (∀ (w' : World) (L' : List (Kt × Value)), TabI w1 w' b m most L' → Keep (fun _ => False) w1 w') := fun w' L' ht => by
        obtain ⟨_, _, _, _, _, hkb, _⟩ := ht
        exact hkb
      have hadd : ni ≤ 10 → ∀ (w' : World) (L' : List (Kt × Value)), L'.length ≤ 1000 → TabI w1 w' b m most L' → Calls Tryd.prog 30 #[.pointer (some ⟨b, 0, none⟩), .agg #[.int .i64 md, .int .i64 dc, .slice Ai ni ci]] w' fun e w'' =>
            e = .returned (.tuple #[.int .i64 (addT most L' (ts.all normB) (keyOfI md dc ts) (.slice Ai ni ci)).1, .int .i64 (addT most L' (ts.all normB) (keyOfI md dc ts) (.slice Ai ni ci)).2.1]) ∧ TabI w1 w'' b m most (addT most L' (ts.all normB) (keyOfI md dc ts) (.slice Ai ni ci)).2.2 :=
          fun h10 w' L' h1 ht => by
            have hk := HTK.out w' L' ht
            have hbj := join_small (ts := ts) (by rw [hni]; exact h10)
            exact add_any h10 h1 ((H.out.1.step K1.out).step hk) (hrd.keep hk (fun _ x => x.elim)) (hty.step hk) (by omega) ⟨hw2.1, hw2.2, by unfold keyOfI; simp only []; unfold maxLen; omega⟩ ht
      have HAD := Lib.hid hadd
      have HT := Lib.hid (And.intro hk1 ht)
      clear hvl hcs g0 g1 g2 hvs hx hty hrd hni hw2 hk1 ht hsl h47 hadd
      have i0 : (0 : Int) ≤ (i : Int) := by omega
      have i1 : (i : Int) < (n : Int) := by omega
      obtain ⟨bl, q0, q1, q2⟩ := HC.out _ HT.out.1
      go_upto_region 9 with (go_at_call 22; refine hfw.mono ?_; rintro e w3 ⟨⟨z, rfl, hz⟩, hk⟩; have K3 := Lib.hid (And.intro hk hz); clear hk hz hfw)
      clear bl q0 q1 q2
      cases z with
      | false =>
        go_wp2_with fail
        go_ret
        exact ⟨rfl, K1.out.trans (HT.out.1.trans K3.out.1 (fun _ _ x => x)) (fun _ _ x => x)⟩
      | true =>
        have HT3 := Lib.hid (HT.out.2.step K3.out.1)
        have hlen := len_any HT3.out
        obtain ⟨j, er, L1, ha1, ha2, hs1, hlen1, hcase⟩ := add_cases (most := most) (ok := ts.all normB) (k := keyOfI md dc ts) (v := .slice Ai ni ci) ⟨_, _, _, rfl⟩ HL.out.2
        have HW := Lib.hid (And.intro hs1 (And.intro hlen1 hcase))
        have hA1 := HAD.out (K3.out.2 rfl) w3 L (by omega) HT3.out
        rw [ha1] at hA1
        simp only at hA1
        have HA2 : Hid (∀ w', TabI w1 w' b m most L1 → Calls Tryd.prog 30 #[.pointer (some ⟨b, 0, none⟩), .agg #[.int .i64 md, .int .i64 dc, .slice Ai ni ci]] w' fun e w'' => e = .returned (.tuple #[.int .i64 (j : Int), .int .i64 er]) ∧ TabI w1 w'' b m most L1) := fun w' ht => by
          have := HAD.out (K3.out.2 rfl) w' L1 (by omega) ht
          rw [ha2] at this
          exact this
        obtain ⟨n0, hn0⟩ : ∃ n0, L.length = n0 := ⟨_, rfl⟩
        obtain ⟨n1, hn1⟩ : ∃ n1, L1.length = n1 := ⟨_, rfl⟩
        rw [hn0, hn1] at hlen1
        rw [hn0] at hlen hLi
        have HN := Lib.hid (And.intro hn0 hn1)
        clear ha1 ha2 hs1 hcase hn0 hn1
        obtain ⟨bl, q0, q1, q2⟩ := HC.out _ (HTK.out _ _ HT3.out)
        go_upto_region 13 with (first
          | (go_at_call 29; refine hlen.mono ?_; rintro e w' ⟨rfl, rfl⟩; clear hlen)
          | (go_at_call 30; refine hA1.mono ?_; rintro e w4 ⟨rfl, ht4⟩; have HT4 := Lib.hid ht4; clear ht4 hA1))
        clear bl q0 q1 q2
        obtain ⟨bl, q0, q1, q2⟩ := HC.out _ (HTK.out _ _ HT4.out)
        have hlen4 := len_any HT4.out
        rw [HN.out.2] at hlen4
        have hA4 := HA2.out _ HT4.out
        go_upto_region 15 with (first
          | (go_at_call 29; refine hlen4.mono ?_; rintro e w' ⟨rfl, rfl⟩; clear hlen4)
          | (go_at_call 30; refine hA4.mono ?_; rintro e w5 ⟨rfl, ht5⟩; have HT5 := Lib.hid ht5; clear ht5 hA4))
        clear bl q0 q1 q2
        have hlen5 := len_any HT5.out
        rw [HN.out.2] at hlen5
        have g2 : decide ((n1 : Int) > (n0 : Int) + 1) = false := by simp; omega
        have g2' : decide (n0 + 1 < n1) = false := by simp; omega
        have g3 : (((j : Nat) : Int) != ((j : Nat) : Int)) = false := by simp
        have g4 : (((n1 : Nat) : Int) != ((n1 : Nat) : Int)) = false := by simp
        rcases HW.out.2.2 with ⟨rfl, x, hx, hxk⟩ | ⟨her, rfl⟩
        · obtain ⟨Ax, nx, cx, hxv⟩ := HW.out.1 x (List.mem_of_getElem? hx)
          have hjl : j < n1 := by
            have := (List.getElem?_eq_some_iff.1 hx).1
            have := HN.out.2
            omega
          have hat := at_any HT5.out hx hxv (by omega)
          rw [hxk] at hat
          unfold keyOfI at hat
          simp only at hat
          clear hx hxk hxv
          go_upto_region 17 with (go_at_call 29; refine hlen5.mono ?_; rintro e w' ⟨rfl, rfl⟩; clear hlen5)
          clear hlen1
          go_upto_region 18 with (go_at_call 31; refine hat.mono ?_; rintro e w6 ⟨rfl, hk6⟩; have K6 := Lib.hid hk6; clear hk6 hat)
          have at7 : At (w6.alloc (.cells #[.int .i64 md, .int .i64 dc, .slice Ax nx cx] 41)) w6.heap.size 41 #[.int .i64 md, .int .i64 dc, .slice Ax nx cx] := At.new _ _ _
          have k7 : Keep (fun _ => False) w1 (w6.alloc (.cells #[.int .i64 md, .int .i64 dc, .slice Ax nx cx] 41)) := ((HTK.out _ _ HT5.out).trans K6.out (fun _ _ x => x)).alloc _
          have k57 : Keep (fun _ => False) w5 (w6.alloc (.cells #[.int .i64 md, .int .i64 dc, .slice Ax nx cx] 41)) := K6.out.alloc _
          have HZ := Lib.hid (And.intro at7 (And.intro k7 k57))
          clear at7 k7 k57
          generalize (w6.alloc (.cells #[.int .i64 md, .int .i64 dc, .slice Ax nx cx] 41)) = w7 at *
          generalize w6.heap.size = bx at *
          have hsk : Hid (∀ w', Keep (fun _ => False) w7 w' → (bx < w'.heap.size ∧ w'.cell? ⟨bx, 1, none⟩ = some (.int .i64 dc)) ∧ (b0 < w'.heap.size ∧ w'.cell? ⟨b0, o + i * 3 + 1, none⟩ = some (.int .i64 dc))) := fun w' hk => ⟨⟨(hk.at_ HZ.out.1 (fun x => x)).lt, (hk.at_ HZ.out.1 (fun x => x)).cell 1⟩, (HC.out w' (HZ.out.2.1.trans hk (fun _ _ x => x))).1, (HC.out w' (HZ.out.2.1.trans hk (fun _ _ x => x))).2.2.1⟩
          have kd : Hid (Keep (fun _ => False) w7 w7.drew) := (Keep.refl _ _).drew
          have f1 : decide ((j : Int) < 0) = false := by simp
          have f2 : decide ((j : Int) ≥ (n1 : Int)) = false := by simp; omega
          have f2' : decide (n1 ≤ j) = false := by simp; omega
          refine wp_region_held_n (S := fun w' => (bx < w'.heap.size ∧ w'.cell? ⟨bx, 1, none⟩ = some (.int .i64 dc)) ∧ (b0 < w'.heap.size ∧ w'.cell? ⟨b0, o + i * 3 + 1, none⟩ = some (.int .i64 dc))) 25 rfl (by kernel_rfl) ?_ (fun hHeld => ?_)
          · exact hsk.out _ kd.out
          refine' wpAnyH_tk (i := 0) (v := _) rfl (by kernel_rfl) (by decide +kernel) (by decide +kernel) (fun _ _ _ h => h) (Or.inl ⟨by rfl, ?_⟩) (by assumption) ?_
          rotate_left
          · (intro w hSw; (try dsimp only at hSw); (try go_simp); (try (with_reducible rfl)))
          (try simp only [Act.put, List.setIfInBounds_toArray, List.set_cons_zero, List.set_cons_succ])
          refine' wpAnyH_tk (i := 1) (v := _) rfl (by kernel_rfl) (by decide +kernel) (by decide +kernel) (fun _ _ _ h => h) (Or.inl ⟨by rfl, ?_⟩) (by assumption) ?_
          rotate_left
          · (intro w hSw; (try dsimp only at hSw); (try go_simp); (try (with_reducible rfl)))
          (try simp only [Act.put, List.setIfInBounds_toArray, List.set_cons_zero, List.set_cons_succ])
          refine' wpAnyH_tk (i := 2) (v := _) rfl (by kernel_rfl) (by decide +kernel) (by decide +kernel) (fun _ _ _ h => h) (Or.inl ⟨by rfl, ?_⟩) (by assumption) ?_
          rotate_left
          · (intro w hSw; (try dsimp only at hSw); (try go_simp); (try (with_reducible rfl)))
          (try simp only [Act.put, List.setIfInBounds_toArray, List.set_cons_zero, List.set_cons_succ])
          refine' wpAnyH_tk (i := 3) (v := _) rfl (by kernel_rfl) (by decide +kernel) (by decide +kernel) (fun _ _ _ h => h) (Or.inl ⟨by rfl, ?_⟩) (by assumption) ?_
          rotate_left
          · (intro w hSw; (try dsimp only at hSw); (try go_simp); (try (with_reducible rfl)))
          (try simp only [Act.put, List.setIfInBounds_toArray, List.set_cons_zero, List.set_cons_succ])
          refine' wpAnyH_tk (i := 4) (v := _) rfl (by kernel_rfl) (by decide +kernel) (by decide +kernel) (fun _ _ _ h => h) (Or.inl ⟨by rfl, ?_⟩) (by assumption) ?_
          rotate_left
          · (intro w hSw; (try dsimp only at hSw); (try go_simp); (try (with_reducible rfl)))
          (try simp only [Act.put, List.setIfInBounds_toArray, List.set_cons_zero, List.set_cons_succ])
          refine' wpAnyH_tk (i := 5) (v := _) rfl (by kernel_rfl) (by decide +kernel) (by decide +kernel) (fun _ _ _ h => h) (Or.inl ⟨by rfl, ?_⟩) (by assumption) ?_
          rotate_left
          · (intro w hSw; (try dsimp only at hSw); (try go_simp); (try (with_reducible rfl)))
          (try simp only [Act.put, List.setIfInBounds_toArray, List.set_cons_zero, List.set_cons_succ])
          refine' wpAnyH_tk (i := 6) (v := _) rfl (by kernel_rfl) (by decide +kernel) (by decide +kernel) (fun _ _ _ h => h) (Or.inl ⟨by rfl, ?_⟩) (by assumption) ?_
          rotate_left
          · (intro w hSw; (try dsimp only at hSw); (try go_simp); (try (with_reducible rfl)))
          (try simp only [Act.put, List.setIfInBounds_toArray, List.set_cons_zero, List.set_cons_succ])
          refine' wpAnyH_tk (i := 7) (v := _) rfl (by kernel_rfl) (by decide +kernel) (by decide +kernel) (fun _ _ _ h => h) (Or.inl ⟨by rfl, ?_⟩) (by assumption) ?_
          rotate_left
          · (intro w hSw; (try dsimp only at hSw); (try go_simp); (try (with_reducible rfl)))
          (try simp only [Act.put, List.setIfInBounds_toArray, List.set_cons_zero, List.set_cons_succ])
          refine' wpAnyH_tk (i := 8) (v := _) rfl (by kernel_rfl) (by decide +kernel) (by decide +kernel) (fun _ _ _ h => h) (Or.inl ⟨by rfl, ?_⟩) (by assumption) ?_
          rotate_left
          · (intro w hSw; (try dsimp only at hSw); (try go_simp); (try (with_reducible rfl)))
          (try simp only [Act.put, List.setIfInBounds_toArray, List.set_cons_zero, List.set_cons_succ])
          refine' wpAnyH_tk (i := 9) (v := _) rfl (by kernel_rfl) (by decide +kernel) (by decide +kernel) (fun _ _ _ h => h) (Or.inl ⟨by rfl, ?_⟩) (by assumption) ?_
          rotate_left
          · (intro w hSw; (try dsimp only at hSw); (try go_simp); (try (with_reducible rfl)))
          (try simp only [Act.put, List.setIfInBounds_toArray, List.set_cons_zero, List.set_cons_succ])
          refine' wpAnyH_tk (i := 10) (v := _) rfl (by kernel_rfl) (by decide +kernel) (by decide +kernel) (fun _ _ _ h => h) (Or.inl ⟨by rfl, ?_⟩) (by assumption) ?_
          rotate_left
          · (intro w hSw; (try dsimp only at hSw); (try go_simp); (try (with_reducible rfl)))
          (try simp only [Act.put, List.setIfInBounds_toArray, List.set_cons_zero, List.set_cons_succ])
          refine' wpAnyH_tk (i := 11) (v := _) rfl (by kernel_rfl) (by decide +kernel) (by decide +kernel) (fun _ _ _ h => h) (Or.inl ⟨by rfl, ?_⟩) (by assumption) ?_
          rotate_left
          · (intro w hSw; (try dsimp only at hSw); (try go_simp); (try (with_reducible rfl)))
          (try simp only [Act.put, List.setIfInBounds_toArray, List.set_cons_zero, List.set_cons_succ])
          refine' wpAnyH_tk (i := 12) (v := _) rfl (by kernel_rfl) (by decide +kernel) (by decide +kernel) (fun _ _ _ h => h) (Or.inl ⟨by rfl, ?_⟩) (by assumption) ?_
          rotate_left
          · (intro w hSw; (try dsimp only at hSw); (try go_simp); (try (with_reducible rfl)))
          (try simp only [Act.put, List.setIfInBounds_toArray, List.set_cons_zero, List.set_cons_succ])
          refine' wpAnyH_tk (i := 13) (v := _) rfl (by kernel_rfl) (by decide +kernel) (by decide +kernel) (fun _ _ _ h => h) (Or.inl ⟨by rfl, ?_⟩) (by assumption) ?_
          rotate_left
          · (intro w hSw; (try dsimp only at hSw); (try go_simp); (try (with_reducible rfl)))
          (try simp only [Act.put, List.setIfInBounds_toArray, List.set_cons_zero, List.set_cons_succ])
          refine' wpAnyH_tk (i := 14) (v := _) rfl (by kernel_rfl) (by decide +kernel) (by decide +kernel) (fun _ _ _ h => h) (Or.inl ⟨by rfl, ?_⟩) (by assumption) ?_
          rotate_left
          · (intro w hSw; (try dsimp only at hSw); (try go_simp); (try (with_reducible rfl)))
          (try simp only [Act.put, List.setIfInBounds_toArray, List.set_cons_zero, List.set_cons_succ])
          refine' wpAnyH_tk (i := 15) (v := _) rfl (by kernel_rfl) (by decide +kernel) (by decide +kernel) (fun _ _ _ h => h) (Or.inl ⟨by rfl, ?_⟩) (by assumption) ?_
          rotate_left
          · (intro w hSw; (try dsimp only at hSw); (try go_simp); (try (with_reducible rfl)))
          (try simp only [Act.put, List.setIfInBounds_toArray, List.set_cons_zero, List.set_cons_succ])
          refine' wpAnyH_tk (i := 16) (v := _) rfl (by kernel_rfl) (by decide +kernel) (by decide +kernel) (fun _ _ _ h => h) (Or.inl ⟨by rfl, ?_⟩) (by assumption) ?_
          rotate_left
          · (intro w hSw; (try dsimp only at hSw); (try go_simp); (try (with_reducible rfl)))
          (try simp only [Act.put, List.setIfInBounds_toArray, List.set_cons_zero, List.set_cons_succ])
          refine' wpAnyH_tk (i := 17) (v := _) rfl (by kernel_rfl) (by decide +kernel) (by decide +kernel) (fun _ _ _ h => h) (Or.inl ⟨by rfl, ?_⟩) (by assumption) ?_
          rotate_left
          · (intro w hSw; (try dsimp only at hSw); (try go_simp); (try (with_reducible rfl)))
          (try simp only [Act.put, List.setIfInBounds_toArray, List.set_cons_zero, List.set_cons_succ])
          refine' wpAnyH_tk (i := 18) (v := _) rfl (by kernel_rfl) (by decide +kernel) (by decide +kernel) (fun _ _ _ h => h) (Or.inl ⟨by rfl, ?_⟩) (by assumption) ?_
          rotate_left
          · (intro w hSw; (try dsimp only at hSw); (try go_simp); (try (with_reducible rfl)))
          (try simp only [Act.put, List.setIfInBounds_toArray, List.set_cons_zero, List.set_cons_succ])
          refine' wpAnyH_tk (i := 19) (v := _) rfl (by kernel_rfl) (by decide +kernel) (by decide +kernel) (fun _ _ _ h => h) (Or.inl ⟨by rfl, ?_⟩) (by assumption) ?_
          rotate_left
          · (intro w hSw; (try dsimp only at hSw); (try go_simp); (try (with_reducible rfl)))
          (try simp only [Act.put, List.setIfInBounds_toArray, List.set_cons_zero, List.set_cons_succ])
          refine' wpAnyH_tk (i := 20) (v := _) rfl (by kernel_rfl) (by decide +kernel) (by decide +kernel) (fun _ _ _ h => h) (Or.inl ⟨by rfl, ?_⟩) (by assumption) ?_
          rotate_left
          · (intro w hSw; (try dsimp only at hSw); (try go_simp); (try (with_reducible rfl)))
          (try simp only [Act.put, List.setIfInBounds_toArray, List.set_cons_zero, List.set_cons_succ])
          refine' wpAnyH_tk (i := 21) (v := _) rfl (by kernel_rfl) (by decide +kernel) (by decide +kernel) (fun _ _ _ h => h) (Or.inl ⟨by rfl, ?_⟩) (by assumption) ?_
          rotate_left
          · (intro w hSw; (try dsimp only at hSw); (try go_simp); (try (with_reducible rfl)))
          (try simp only [Act.put, List.setIfInBounds_toArray, List.set_cons_zero, List.set_cons_succ])
          refine' wpAnyH_tk (i := 22) (v := _) rfl (by kernel_rfl) (by decide +kernel) (by decide +kernel) (fun _ _ _ h => h) (Or.inl ⟨by rfl, ?_⟩) (by assumption) ?_
          rotate_left
          · (intro w hSw; (try dsimp only at hSw); (try go_simp); (try (with_reducible rfl)))
          (try simp only [Act.put, List.setIfInBounds_toArray, List.set_cons_zero, List.set_cons_succ])
          refine' wpAnyH_tk (i := 23) (v := _) rfl (by kernel_rfl) (by decide +kernel) (by decide +kernel) (fun _ _ _ h => h) (Or.inl ⟨by rfl, ?_⟩) (by assumption) ?_
          rotate_left
          · (intro w hSw; (try dsimp only at hSw); (try go_simp); (try (with_reducible rfl)))
          (try simp only [Act.put, List.setIfInBounds_toArray, List.set_cons_zero, List.set_cons_succ])
          refine' wpAnyH_tk (i := 24) (v := _) rfl (by kernel_rfl) (by decide +kernel) (by decide +kernel) (fun _ _ _ h => h) (Or.inl ⟨by rfl, ?_⟩) (by assumption) ?_
          rotate_left
          · (intro w hSw; (try dsimp only at hSw); (try go_simp); (try (with_reducible rfl)))
          (try simp only [Act.put, List.setIfInBounds_toArray, List.set_cons_zero, List.set_cons_succ])
          refine wpAnyH_done (by decide +kernel) ?_ _
          go_wp2_with fail
          go_roundg (n - (i + 1))
          case measure => omega
          case rel => exact ⟨i + 1, L1, by go_num, by omega, rfl, by have := HN.out.2; have := HN.out.1; rcases HW.out.2.1 with h | ⟨_, h⟩ <;> omega, HW.out.1, (HT5.out.step HZ.out.2.2).step kd.out⟩
        · have hat := at_nought HT5.out HW.out.1
          have hl0 : n1 = n0 := by
            rcases hlen1 with h | ⟨h, _⟩
            · exact h
            · rcases her with h2 | h2 <;> omega
          subst hl0
          rcases her with rfl | rfl
          all_goals
            go_upto_region 17 with (go_at_call 29; refine hlen5.mono ?_; rintro e w' ⟨rfl, rfl⟩; clear hlen5)
            clear hlen1
            go_upto_region 18 with (go_at_call 31; refine hat.mono ?_; rintro e w6 ⟨⟨z1, z2, Ax, nx, cx, qx, rfl⟩, hk6⟩; have K6 := Lib.hid hk6; clear hk6 hat)
            have k57 : Keep (fun _ => False) w5 (w6.alloc (.cells #[.int .i64 z1, .int .i64 z2, .slice Ax nx cx] 41)) := K6.out.alloc _
            have HZ := Lib.hid k57
            clear k57
            generalize (w6.alloc (.cells #[.int .i64 z1, .int .i64 z2, .slice Ax nx cx] 41)) = w7 at *
            generalize w6.heap.size = bx at *
            have kd : Hid (Keep (fun _ => False) w7 w7.drew) := (Keep.refl _ _).drew
            refine wp_region_held_n (S := fun w' => True) 25 rfl (by kernel_rfl) ?_ (fun hHeld => ?_)
            · trivial
            refine' wpAnyH_tk (i := 0) (v := _) rfl (by kernel_rfl) (by decide +kernel) (by decide +kernel) (fun _ _ _ h => h) (Or.inl ⟨by rfl, ?_⟩) (by assumption) ?_
            rotate_left
            · (intro w hSw; (try dsimp only at hSw); (try go_simp); (try (with_reducible rfl)))
            (try simp only [Act.put, List.setIfInBounds_toArray, List.set_cons_zero, List.set_cons_succ])
            refine' wpAnyH_tk (i := 1) (v := _) rfl (by kernel_rfl) (by decide +kernel) (by decide +kernel) (fun _ _ _ h => h) (Or.inl ⟨by rfl, ?_⟩) (by assumption) ?_
            rotate_left
            · (intro w hSw; (try dsimp only at hSw); (try go_simp); (try (with_reducible rfl)))
            (try simp only [Act.put, List.setIfInBounds_toArray, List.set_cons_zero, List.set_cons_succ])
            refine' wpAnyH_tk (i := 2) (v := _) rfl (by kernel_rfl) (by decide +kernel) (by decide +kernel) (fun _ _ _ h => h) (Or.inl ⟨by rfl, ?_⟩) (by assumption) ?_
            rotate_left
            · (intro w hSw; (try dsimp only at hSw); (try go_simp); (try (with_reducible rfl)))
            (try simp only [Act.put, List.setIfInBounds_toArray, List.set_cons_zero, List.set_cons_succ])
            refine wpAnyH_tk (i := 3) (v := undef) rfl (by kernel_rfl) (by decide +kernel) (by decide +kernel) (fun _ _ _ h => h) (Or.inr ⟨by rfl, rfl⟩) (by assumption) ?_
            (try simp only [Act.put, List.setIfInBounds_toArray, List.set_cons_zero, List.set_cons_succ])
            refine wpAnyH_tk (i := 4) (v := undef) rfl (by kernel_rfl) (by decide +kernel) (by decide +kernel) (fun _ _ _ h => h) (Or.inr ⟨by rfl, rfl⟩) (by assumption) ?_
            (try simp only [Act.put, List.setIfInBounds_toArray, List.set_cons_zero, List.set_cons_succ])
            refine wpAnyH_tk (i := 5) (v := undef) rfl (by kernel_rfl) (by decide +kernel) (by decide +kernel) (fun _ _ _ h => h) (Or.inr ⟨by rfl, rfl⟩) (by assumption) ?_
            (try simp only [Act.put, List.setIfInBounds_toArray, List.set_cons_zero, List.set_cons_succ])
            refine wpAnyH_tk (i := 6) (v := undef) rfl (by kernel_rfl) (by decide +kernel) (by decide +kernel) (fun _ _ _ h => h) (Or.inr ⟨by rfl, rfl⟩) (by assumption) ?_
            (try simp only [Act.put, List.setIfInBounds_toArray, List.set_cons_zero, List.set_cons_succ])
            refine wpAnyH_tk (i := 7) (v := undef) rfl (by kernel_rfl) (by decide +kernel) (by decide +kernel) (fun _ _ _ h => h) (Or.inr ⟨by rfl, rfl⟩) (by assumption) ?_
            (try simp only [Act.put, List.setIfInBounds_toArray, List.set_cons_zero, List.set_cons_succ])
            refine wpAnyH_tk (i := 8) (v := undef) rfl (by kernel_rfl) (by decide +kernel) (by decide +kernel) (fun _ _ _ h => h) (Or.inr ⟨by rfl, rfl⟩) (by assumption) ?_
            (try simp only [Act.put, List.setIfInBounds_toArray, List.set_cons_zero, List.set_cons_succ])
            refine wpAnyH_tk (i := 9) (v := undef) rfl (by kernel_rfl) (by decide +kernel) (by decide +kernel) (fun _ _ _ h => h) (Or.inr ⟨by rfl, rfl⟩) (by assumption) ?_
            (try simp only [Act.put, List.setIfInBounds_toArray, List.set_cons_zero, List.set_cons_succ])
            refine wpAnyH_tk (i := 10) (v := undef) rfl (by kernel_rfl) (by decide +kernel) (by decide +kernel) (fun _ _ _ h => h) (Or.inr ⟨by rfl, rfl⟩) (by assumption) ?_
            (try simp only [Act.put, List.setIfInBounds_toArray, List.set_cons_zero, List.set_cons_succ])
            refine wpAnyH_tk (i := 11) (v := undef) rfl (by kernel_rfl) (by decide +kernel) (by decide +kernel) (fun _ _ _ h => h) (Or.inr ⟨by rfl, rfl⟩) (by assumption) ?_
            (try simp only [Act.put, List.setIfInBounds_toArray, List.set_cons_zero, List.set_cons_succ])
            refine wpAnyH_tk (i := 12) (v := undef) rfl (by kernel_rfl) (by decide +kernel) (by decide +kernel) (fun _ _ _ h => h) (Or.inr ⟨by rfl, rfl⟩) (by assumption) ?_
            (try simp only [Act.put, List.setIfInBounds_toArray, List.set_cons_zero, List.set_cons_succ])
            refine wpAnyH_tk (i := 13) (v := undef) rfl (by kernel_rfl) (by decide +kernel) (by decide +kernel) (fun _ _ _ h => h) (Or.inr ⟨by rfl, rfl⟩) (by assumption) ?_
            (try simp only [Act.put, List.setIfInBounds_toArray, List.set_cons_zero, List.set_cons_succ])
            refine wpAnyH_tk (i := 14) (v := undef) rfl (by kernel_rfl) (by decide +kernel) (by decide +kernel) (fun _ _ _ h => h) (Or.inr ⟨by rfl, rfl⟩) (by assumption) ?_
            (try simp only [Act.put, List.setIfInBounds_toArray, List.set_cons_zero, List.set_cons_succ])
            refine wpAnyH_tk (i := 15) (v := undef) rfl (by kernel_rfl) (by decide +kernel) (by decide +kernel) (fun _ _ _ h => h) (Or.inr ⟨by rfl, rfl⟩) (by assumption) ?_
            (try simp only [Act.put, List.setIfInBounds_toArray, List.set_cons_zero, List.set_cons_succ])
            refine wpAnyH_tk (i := 16) (v := undef) rfl (by kernel_rfl) (by decide +kernel) (by decide +kernel) (fun _ _ _ h => h) (Or.inr ⟨by rfl, rfl⟩) (by assumption) ?_
            (try simp only [Act.put, List.setIfInBounds_toArray, List.set_cons_zero, List.set_cons_succ])
            refine wpAnyH_tk (i := 17) (v := undef) rfl (by kernel_rfl) (by decide +kernel) (by decide +kernel) (fun _ _ _ h => h) (Or.inr ⟨by rfl, rfl⟩) (by assumption) ?_
            (try simp only [Act.put, List.setIfInBounds_toArray, List.set_cons_zero, List.set_cons_succ])
            refine wpAnyH_tk (i := 18) (v := undef) rfl (by kernel_rfl) (by decide +kernel) (by decide +kernel) (fun _ _ _ h => h) (Or.inr ⟨by rfl, rfl⟩) (by assumption) ?_
            (try simp only [Act.put, List.setIfInBounds_toArray, List.set_cons_zero, List.set_cons_succ])
            refine wpAnyH_tk (i := 19) (v := undef) rfl (by kernel_rfl) (by decide +kernel) (by decide +kernel) (fun _ _ _ h => h) (Or.inr ⟨by rfl, rfl⟩) (by assumption) ?_
            (try simp only [Act.put, List.setIfInBounds_toArray, List.set_cons_zero, List.set_cons_succ])
            refine wpAnyH_tk (i := 20) (v := undef) rfl (by kernel_rfl) (by decide +kernel) (by decide +kernel) (fun _ _ _ h => h) (Or.inr ⟨by rfl, rfl⟩) (by assumption) ?_
            (try simp only [Act.put, List.setIfInBounds_toArray, List.set_cons_zero, List.set_cons_succ])
            refine wpAnyH_tk (i := 21) (v := undef) rfl (by kernel_rfl) (by decide +kernel) (by decide +kernel) (fun _ _ _ h => h) (Or.inr ⟨by rfl, rfl⟩) (by assumption) ?_
            (try simp only [Act.put, List.setIfInBounds_toArray, List.set_cons_zero, List.set_cons_succ])
            refine wpAnyH_tk (i := 22) (v := undef) rfl (by kernel_rfl) (by decide +kernel) (by decide +kernel) (fun _ _ _ h => h) (Or.inr ⟨by rfl, rfl⟩) (by assumption) ?_
            (try simp only [Act.put, List.setIfInBounds_toArray, List.set_cons_zero, List.set_cons_succ])
            refine wpAnyH_tk (i := 23) (v := undef) rfl (by kernel_rfl) (by decide +kernel) (by decide +kernel) (fun _ _ _ h => h) (Or.inr ⟨by rfl, rfl⟩) (by assumption) ?_
            (try simp only [Act.put, List.setIfInBounds_toArray, List.set_cons_zero, List.set_cons_succ])
            refine' wpAnyH_tk (i := 24) (v := _) rfl (by kernel_rfl) (by decide +kernel) (by decide +kernel) (fun _ _ _ h => h) (Or.inl ⟨by rfl, ?_⟩) (by assumption) ?_
            rotate_left
            · (intro w hSw; (try dsimp only at hSw); (try go_simp); (try (with_reducible rfl)))
            (try simp only [Act.put, List.setIfInBounds_toArray, List.set_cons_zero, List.set_cons_succ])
            refine wpAnyH_done (by decide +kernel) ?_ _
            go_wp2_with fail
            go_roundg (n - (i + 1))
            case measure => omega
            case rel => exact ⟨i + 1, L1, by go_num, by omega, rfl, by have := HN.out.2; have := HN.out.1; omega, HW.out.1, (HT5.out.step HZ.out).step kd.out⟩
    · have d1 : decide ((i : Int) < (n : Int)) = false := by simp; omega
      have d1' : decide (i < n) = false := by simp; omega
      have hk1 : Keep (fun _ => False) w1 wr := by
        obtain ⟨_, _, _, _, _, hkb, _⟩ := ht
        exact hkb
      have HQ := Lib.hid hk1
      clear ht hsl hk1
      go_wp2_with fail
      go_ret
      exact ⟨rfl, K1.out.trans HQ.out (fun _ _ x => x)⟩
end Go.Proofs.YtbanpohholnkaaaDoor

namespace Go.Proofs.YtbanpohholnkaaaDoor
open Go.RowKit Go.ChangeShapes Go.WideShapes Go.ChangeAt Go.Deep

section
variable {H : Type} {enc : TypeId × Value → H} {W : World}
set_option maxRecDepth 100000 in
set_option maxHeartbeats 1000000 in
theorem open_in {fuel : Nat} {cs : List Value} {y : DataW H × List MemPlace} (h : DataW.trod enc Tryd.prog W 0 (fun _ => true) true fuel 41 cs = some y) (hlt : ∀ x ∈ y.2, x.block < W.heap.size) (hw : Weighs Tryd.prog 41 y.1) :
    ∃ x : Ins, DtsV W nX cs x.enc ∧ (Lit.int .i64 x.mod).wf = true ∧ (Lit.int .i64 x.decl).wf = true := by
  obtain ⟨xs, k, hk, hxy, hcl, hxl, hfl⟩ := DataW.trod_struct Tryd.underlying41 h
  have hcl3 : cs.length = 3 := hcl.trans (by kernel_rfl)
  match xs, hxl, cs, hcl3 with
  | [y0, y1, y2], _, [v0, v1, v2], _ =>
    have g0 := hfl 0 _ rfl
    have g1 := hfl 1 _ rfl
    have g2 := hfl 2 _ rfl
    simp [show Tryd.prog.cellsOf 3 = 1 by kernel_rfl, show Tryd.prog.cellsOf 23 = 1 by kernel_rfl] at g0 g1 g2
    subst hxy
    simp only [List.flatMap_cons, List.flatMap_nil, List.append_nil, List.mem_append] at hlt
    have hwe : ∀ n, n ∈ y2.1.weights Tryd.prog 23 → n ≤ reachBytes := fun n hn => hw n (by
      simp only [DataW.weights, Tryd.underlying41, List.map_cons, List.map_nil, DataW.weightsEach, List.mem_append]
      exact .inr (.inr (.inl hn)))
    obtain ⟨z, hz, _, wz⟩ := DataW.trod_int Tryd.underlying3 g0
    obtain ⟨u, hu, _, wu⟩ := DataW.trod_int Tryd.underlying3 g1
    simp only [List.cons.injEq, and_true] at hz hu
    subst hz hu
    obtain ⟨A, n, c, rs, ts, rfl, hb, hr, ht⟩ := open_tys g2 (fun x hx => hlt x (.inr (.inr hx))) hwe
    have hl : ts.length = n := by rw [← ht.len]; exact hr.nlen
    subst hl
    exact ⟨⟨z, u, ts⟩, DtsV.mk_cons (DtV.mk_cell rfl) (DtsV.mk_cons (DtV.mk_cell rfl) (DtsV.mk_cons (DtV.mk_tys (show ts.length ≤ 140737488355328 by omega) hr ht) DtsV.nil_)), wz, wu⟩
theorem rows_of {α : Type} {k : Nat} {enc : α → List Dt} (hk : ∀ x, (enc x).length = k) : ∀ (l : List α) (vss : List (List Value)), vss.length = l.length → (∀ (i : Nat) (x : α) (vs : List Value), l[i]? = some x → vss[i]? = some vs → DtsV W nX vs (enc x)) → DtsV W nX vss.flatten (l.flatMap enc)
  | [], [], _, _ => DtsV.nil_
  | x :: l, vs :: vss, hl, h => by
    rw [List.flatten_cons, List.flatMap_cons]
    exact (h 0 x vs rfl rfl).append (rows_of hk l vss (by simpa using hl) fun i x' vs' h1 h2 => h (i + 1) x' vs' (by simpa using h1) (by simpa using h2))
  | [], _ :: _, hl, _ => by simp at hl
  | _ :: _, [], hl, _ => by simp at hl
theorem flatten_get {k : Nat} : ∀ (vss : List (List Value)), (∀ vs ∈ vss, vs.length = k) → ∀ (i j : Nat) (vs : List Value), vss[i]? = some vs → j < k → vss.flatten[i * k + j]? = vs[j]?
  | [], _, i, j, vs, h, _ => by simp at h
  | us :: vss, hk, 0, j, vs, h, hj => by
    simp only [List.getElem?_cons_zero, Option.some.injEq] at h
    subst h
    rw [List.flatten_cons, Nat.zero_mul, Nat.zero_add, List.getElem?_append_left (by rw [hk us (by simp)]; exact hj)]
  | us :: vss, hk, i + 1, j, vs, h, hj => by
    have hu := hk us (by simp)
    rw [List.flatten_cons, List.getElem?_append_right (by rw [hu, Nat.succ_mul]; omega), hu, show (i + 1) * k + j - k = i * k + j by rw [Nat.succ_mul]; omega]
    exact flatten_get vss (fun vs hvs => hk vs (List.mem_cons_of_mem _ hvs)) i j vs (by simpa using h) hj
theorem flatten_len {k : Nat} : ∀ (vss : List (List Value)), (∀ vs ∈ vss, vs.length = k) → vss.flatten.length = vss.length * k
  | [], _ => by simp
  | us :: vss, hk => by
    rw [List.flatten_cons, List.length_append, hk us (by simp), flatten_len vss (fun vs h => hk vs (List.mem_cons_of_mem _ h)), List.length_cons, Nat.succ_mul]
    omega
set_option maxRecDepth 100000 in
set_option maxHeartbeats 1000000 in
theorem open_ins {fuel : Nat} {v : Value} {y : DataW H × List MemPlace} (h : DataW.trod enc Tryd.prog W 0 (fun _ => true) true fuel 37 [v] = some y) (hlt : ∀ x ∈ y.2, x.block < W.heap.size) (hwe : Weighs Tryd.prog 37 y.1) :
    ∃ l : List Ins, DtV W nX v (rowsD 3 Ins.enc l) ∧ ∀ x ∈ l, (Lit.int .i64 x.mod).wf = true ∧ (Lit.int .i64 x.decl).wf = true := by
  rcases DataW.trod_slice Tryd.underlying37 h with ⟨hcs, hx⟩ | ⟨a, len, cap, elems, rest, n, hfn, hcs, hx, _, hl, hm, hlen, hel, _, _⟩
  · simp only [List.cons.injEq, and_true] at hcs
    subst hcs
    exact ⟨[], DtV.mk_list (Nat.zero_le _) (Rd.nil _ _ 3) DtsV.nil_, by simp⟩
  · simp only [List.cons.injEq, and_true] at hcs
    subst hcs
    rw [hx] at hlt hwe
    have ce : Tryd.prog.cellsOf 41 = 3 := by kernel_rfl
    rw [ce] at hel hlt
    have hb47 : len ≤ 140737488355328 := by
      have := hwe (((elems.map (·.1)).length + (rest.map (·.1)).length) * Tryd.prog.bytesOf 41) (by simp only [DataW.weights, Tryd.underlying37]; exact List.mem_cons_self)
      have h2 := reach_le this (by rw [show Tryd.prog.bytesOf 41 = 40 by kernel_rfl]; omega)
      simp only [List.length_map] at h2
      omega
    have each : ∀ i, ∃ x : Ins × List Value, i < len → (∀ j, j < 3 → W.cell? (a.add (i * 3 + j)) = x.2[j]?) ∧ x.2.length = 3 ∧ DtsV W nX x.2 x.1.enc ∧ (Lit.int .i64 x.1.mod).wf = true ∧ (Lit.int .i64 x.1.decl).wf = true := by
      intro i
      by_cases hi : i < len
      · have he := hel i hi
        obtain ⟨e, hee⟩ : ∃ e, elems[i]? = some e := ⟨_, List.getElem?_eq_getElem (by omega)⟩
        rw [hee] at he
        obtain ⟨cs', hc1, hc2⟩ := Option.bind_eq_some_iff.1 he
        obtain ⟨_, hcn, hcell⟩ := World.cells?_some hc1
        have hem : e ∈ elems := List.mem_of_getElem? hee
        obtain ⟨x, hd, w1, w2⟩ := open_in hc2 (fun x hx => hlt x (List.mem_append_right _ (List.mem_flatMap.2 ⟨e, List.mem_append_left _ hem, hx⟩))) (by
          refine weighs_all (l := elems.map (·.1)) (fun m hm => hwe m ?_) (List.mem_map.2 ⟨e, hem, rfl⟩)
          simp only [DataW.weights, Tryd.underlying37]
          exact List.mem_cons_of_mem _ (List.mem_append_left _ hm))
        refine ⟨(x, cs'), fun _ => ⟨fun j hj => ?_, hd.len, hd, w1, w2⟩⟩
        have hl3 : cs'.length = 3 := hd.len
        have := hcell j (by rw [← hcn, hl3]; exact hj)
        rw [Go.Deep.add_add] at this
        exact this
      · exact ⟨(⟨0, 0, []⟩, []), fun h => absurd h hi⟩
    obtain ⟨f, hf⟩ := Classical.axiomOfChoice each
    have hvk : ∀ vs ∈ (List.range len).map fun i => (f i).2, vs.length = 3 := fun vs hvs => by
      obtain ⟨i, hi, rfl⟩ := List.mem_map.1 hvs
      exact (hf i (List.mem_range.1 hi)).2.1
    refine ⟨(List.range len).map fun i => (f i).1, ?_, fun x hx => ?_⟩
    · have hlen' : ((List.range len).map fun i => (f i).1).length = len := by simp
      unfold rowsD
      rw [hlen']
      refine DtV.mk_list (xs := ((List.range len).map fun i => (f i).2).flatten) hb47 ⟨by rw [flatten_len _ hvk]; simp, some a, cap, rfl, hl, fun hn => ?_⟩ (rows_of (k := 3) (enc := Ins.enc) (fun _ => rfl) ((List.range len).map fun i => (f i).1) ((List.range len).map fun i => (f i).2) (by rw [List.length_map, List.length_map]) fun i x vs h1 h2 => ?_)
      · have h0 := (hf 0 hn).1 0 (by decide)
        rw [List.getElem?_eq_getElem (by rw [(hf 0 hn).2.1]; decide)] at h0
        obtain ⟨b, o, rfl⟩ := addr_plain h0 rfl
        have hb : b < W.heap.size := hlt (.cell b o) (List.mem_append_left _ (MemPlace.mem_row.2 ⟨0, by omega, by simp⟩))
        refine ⟨b, o, rfl, hb, fun x => x, fun j hj => ?_⟩
        have hq : ((List.range len).map fun i => (f i).2)[j / 3]? = some (f (j / 3)).2 := by simp [show j / 3 < len by omega]
        have h3 := (hf (j / 3) (by omega)).1 (j % 3) (by omega)
        have h4 := flatten_get _ hvk (j / 3) (j % 3) _ hq (by omega)
        rw [show j / 3 * 3 + j % 3 = j by omega] at h3 h4
        rw [add_plain] at h3
        rw [h3, h4]
      · have hil : i < len := by
          have := (List.getElem?_eq_some_iff.1 h1).1
          simpa using this
        simp [hil] at h1
        simp [hil] at h2
        subst h1 h2
        exact (hf i hil).2.2.1
    · obtain ⟨i, hi, rfl⟩ := List.mem_map.1 hx
      exact (hf i (List.mem_range.1 hi)).2.2.2
end
end Go.Proofs.YtbanpohholnkaaaDoor

namespace Go.Proofs.YtbanpohholnkaaaDoor
open Go Go.RowKit Go.ChangeShapes Go.WideShapes Go.ChangeAt

set_option maxRecDepth 100000 in
theorem instAgain_lifted (os : Os) (started : os.Started) (H : Type) (enc : TypeId × Value → H) :
    ReturnsInHanded {} Tryd.checked os 11 .any (fun w args => (Rows.instAgainSpec.pre enc Tryd.prog Tryd.f11 [] false w args ∧ laidMetH Tryd.prog laids w) ∧ sizedMet enc Tryd.prog Tryd.f11 (OpenSpec.ofChange Rows.instAgainSpec) false w args)
      (Rows.instAgainSpec.post enc Tryd.prog Tryd.f11 false true false false) := by
  refine returnsInHanded_of_change_and (C := Tryd.checked) (X := fun w _ => laidMetH Tryd.prog laids w) (fun _ _ _ hh h => h.of_heap hh) ownP started (by kernel_rfl) Tryd.func11
    (ChangeSpec.witness_shaped (enc := enc) (C := Tryd.checked) (os := os) (X := fun w _ => laidMetH Tryd.prog laids w) false (World.doorLaid Tryd.prog 400 os) #[.int .i64 0, .slice none 0 0] 8 rfl (World.shaped_of_RefB (by kernel_rfl) (by kernel_rfl)) (by kernel_rfl) (by kernel_rfl) (by kernel_rfl) (door_met os _)) ?_
  intro W base args ds gs before hval0 hW _ hsz hL _
  have hval : ∀ (j : Nat) t v, Tryd.f11.params[j]? = some t → args[j]? = some v → Value.okWide Tryd.prog W .any base t v := hval0
  have hW' := hW
  obtain ⟨p, q, hA0, hV, rfl, hfz, hnd⟩ := hW
  have hA : DataW.TrodAll enc Tryd.prog W 0 (fun _ => true) true Tryd.f11.params.toList args.toList ds p := hA0
  rw [Tryd.params11] at hA hval hsz
  obtain ⟨v0, v1, d0, d1, p0, p1, rfl, rfl, rfl, h0, h1⟩ := trodAll_two hA
  obtain ⟨rfl, rfl⟩ := trodVars_none hV
  obtain ⟨a0, rfl, rfl, rfl, wa0⟩ := open_int Tryd.underlying3 (hval 0 3 v0 rfl rfl) h0
  obtain ⟨a1, n1, c1, rfl⟩ := okWide_slice Tryd.underlying37 (hval 1 37 v1 rfl rfl)
  obtain ⟨fu1, hf1⟩ := h1
  obtain ⟨ls1, hd1, hw1⟩ := open_ins (v := .slice a1 n1 c1) hf1 (fun x hx => hW'.lt x (by simp [hx])) (weighs_at hsz (j := 1) rfl rfl)
  have hn1 : n1 = ls1.length := by
    obtain ⟨_, A, c, xs, he, _⟩ := DtV.list hd1
    simp only [Value.slice.injEq] at he
    exact he.2.1
  refine (again_law (tab_of_laid hL) hn1 hd1 hw1).mono fun e W' ⟨he, hk⟩ => ?_
  exact ⟨_, he, law_post laidOut (by kernel_rfl) (by kernel_rfl) Tryd.underlying4 rfl hW' rfl rfl rfl hk⟩
theorem instAgain_row : Rows.InstAgainSaid :=
  OpenClaim.holds_of_wide 11 Tryd.f11 rfl rfl rfl rfl rfl rfl rfl ⟨rfl, rfl, rfl, rfl, rfl⟩ rfl rfl rfl rfl rfl (by kernel_rfl) Tryd.func11 (by kernel_rfl)
    (of_decide_eq_true (by kernel_rfl)) (by unfold Func.isWrapper; first | (rw [if_pos (by decide +kernel)]; kernel_rfl) | (rw [if_neg (by decide +kernel)]; exact ⟨rfl, rfl⟩))
    (fun os started H enc _ => instAgain_lifted os started H enc)
/-- THE STATEMENT. -/
theorem instAgain_holds : Rows.InstAgainCardSaid :=
  Claim7.holds_tied_plain_at .later [] [.listed, .data] true Rows.instAgainCard.stood.harness Rows.instAgainCard.stood.looks
    instAgain_row (fun _ h => by cases h) (by kernel_rfl) (fun _ h => by cases h) instAgain_row_tie rfl ⟨rfl, rfl⟩ (by kernel_rfl) rfl
    (fun f fn hf hfn => by
      obtain rfl : f = 11 := Option.some.inj ((show Tryd.prog.funcNamed Rows.instAgainRow.func = some 11 by kernel_rfl).symm.trans hf) |>.symm
      obtain rfl : fn = Tryd.f11 := (Option.some.inj (Tryd.func11.symm.trans hfn)).symm
      exact ⟨by kernel_rfl, fun j t ht => by
        rw [Tryd.params11] at ht
        have hm : t ∈ [3, 37] := by simpa using Array.mem_of_getElem? ht
        have hall : ([3, 37].all fun u => !Tryd.prog.wantsStandIn u) = true := by kernel_rfl
        exact (show Tryd.prog.wantsStandIn t = false by simpa using List.all_eq_true.1 hall t hm)⟩)
    (by kernel_rfl)
#print axioms instAgain_holds
end Go.Proofs.YtbanpohholnkaaaDoor
