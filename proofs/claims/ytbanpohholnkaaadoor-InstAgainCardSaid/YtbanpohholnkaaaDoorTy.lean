/-
  Types as plain data, and how they lie in memory. Conditions: none; plain lemmas.
-/
import Derived.Test.YtbanpohholnkaaaDoorMem
namespace Go.Proofs.YtbanpohholnkaaaDoor
open Go.RowKit

inductive Ty where
  | mk (kind : Int) (name : ByteArray) (names : List ByteArray) (kids : List Ty)
namespace Ty
def kind : Ty → Int | .mk k _ _ _ => k
def name : Ty → ByteArray | .mk _ n _ _ => n
def names : Ty → List ByteArray | .mk _ _ ns _ => ns
def kids : Ty → List Ty | .mk _ _ _ ks => ks
end Ty
mutual
def Ty.size : Ty → Nat
  | .mk _ _ _ ks => 1 + sizeL ks
def sizeL : List Ty → Nat
  | [] => 0
  | t :: ts => t.size + sizeL ts
end
mutual
def Ty.ht : Ty → Nat
  | .mk _ _ _ ks => 1 + htL ks
def htL : List Ty → Nat
  | [] => 0
  | t :: ts => max t.ht (htL ts)
end
theorem Ty.size_eq (t : Ty) : t.size = 1 + sizeL t.kids := by cases t; rfl
theorem Ty.ht_eq (t : Ty) : t.ht = 1 + htL t.kids := by cases t; rfl
theorem Ty.size_pos (t : Ty) : 1 ≤ t.size := by rw [t.size_eq]; omega
theorem Ty.ht_pos (t : Ty) : 1 ≤ t.ht := by rw [t.ht_eq]; omega
theorem sizeL_append (a b : List Ty) : sizeL (a ++ b) = sizeL a + sizeL b := by
  induction a with
  | nil => simp [sizeL]
  | cons t a ih => simp only [List.cons_append, sizeL, ih]; omega
theorem htL_append (a b : List Ty) : htL (a ++ b) = max (htL a) (htL b) := by
  induction a with
  | nil => simp [htL]
  | cons t a ih => simp only [List.cons_append, htL, ih]; omega
theorem size_mem {t : Ty} {ks : List Ty} (h : t ∈ ks) : t.size ≤ sizeL ks := by
  induction ks with
  | nil => cases h
  | cons a ks ih =>
    simp only [sizeL]
    rcases List.mem_cons.1 h with rfl | h
    · omega
    · have := ih h; omega
theorem ht_mem {t : Ty} {ks : List Ty} (h : t ∈ ks) : t.ht ≤ htL ks := by
  induction ks with
  | nil => cases h
  | cons a ks ih =>
    simp only [htL]
    rcases List.mem_cons.1 h with rfl | h
    · omega
    · have := ih h; omega
theorem length_le_sizeL (ks : List Ty) : ks.length ≤ sizeL ks := by
  induction ks with
  | nil => simp
  | cons a ks ih => simp only [sizeL, List.length_cons]; have := a.size_pos; omega
theorem Ty.kid_lt {t k : Ty} (h : k ∈ t.kids) : k.size < t.size := by
  have := size_mem h
  rw [t.size_eq]
  omega
theorem Ty.ext' {a b : Ty} (h1 : a.kind = b.kind) (h2 : a.name = b.name) (h3 : a.names = b.names) (h4 : a.kids = b.kids) : a = b := by
  cases a; cases b; cases h1; cases h2; cases h3; cases h4; rfl
/-- Induction over the size. -/
theorem Ty.ind {P : Ty → Prop} (h : ∀ t, (∀ k, k.size < t.size → P k) → P t) : ∀ t, P t := by
  have : ∀ n t, t.size ≤ n → P t := by
    intro n
    induction n with
    | zero => intro t ht; have := t.size_pos; omega
    | succ n ih => exact fun t ht => h t fun k hk => ih k (by omega)
  exact fun t => this t.size t (Nat.le_refl _)
noncomputable def sameT (a b : Ty) : Bool := @decide (a = b) (Classical.propDecidable _)
theorem sameT_iff {a b : Ty} : sameT a b = true ↔ a = b := by simp [sameT]
theorem sameT_refl (a : Ty) : sameT a a = true := sameT_iff.2 rfl
theorem sameT_ne {a b : Ty} (h : a ≠ b) : sameT a b = false := by
  cases h' : sameT a b with
  | false => rfl
  | true => exact absurd (sameT_iff.1 h') h
theorem sameT_comm (a b : Ty) : sameT a b = sameT b a := by
  by_cases h : a = b
  · rw [h]
  · rw [sameT_ne h, sameT_ne (Ne.symm h)]

/-- A type's value: its four cells. -/
structure Tv where
  k : Int
  nm : ByteArray
  An : Option Addr
  nn : Nat
  cn : Nat
  Ak : Option Addr
  nk : Nat
  ck : Nat
def Tv.vals (r : Tv) : List Value := [.int .i64 r.k, .string r.nm, .slice r.An r.nn r.cn, .slice r.Ak r.nk r.ck]
def Tv.val (r : Tv) : Value := .agg #[.int .i64 r.k, .string r.nm, .slice r.An r.nn r.cn, .slice r.Ak r.nk r.ck]
def tv0 : Tv := ⟨0, ⟨#[]⟩, none, 0, 0, none, 0, 0⟩
def ty0 : Ty := .mk 0 ⟨#[]⟩ [] []
def tflat (rs : List Tv) : List Value := rs.flatMap Tv.vals
def strs (l : List ByteArray) : List Value := l.map Value.string
theorem strs_append (a b : List ByteArray) : strs (a ++ b) = strs a ++ strs b := by simp [strs]
theorem strs_length (l : List ByteArray) : (strs l).length = l.length := by simp [strs]
theorem strs_one (l : List ByteArray) : ∀ u ∈ strs l, u.oneCell' = true := by
  intro u hu
  obtain ⟨s, _, rfl⟩ := List.mem_map.1 hu
  rfl
theorem tflat_cons (r : Tv) (rs : List Tv) : tflat (r :: rs) = r.vals ++ tflat rs := rfl
theorem tflat_append (a b : List Tv) : tflat (a ++ b) = tflat a ++ tflat b := by simp [tflat]
theorem tflat_length (rs : List Tv) : (tflat rs).length = rs.length * 4 := by
  induction rs with
  | nil => rfl
  | cons r rs ih => rw [tflat_cons, List.length_append, ih, List.length_cons]; simp [Tv.vals]; omega
theorem tflat_one (rs : List Tv) : ∀ u ∈ tflat rs, u.oneCell' = true := by
  intro u hu
  obtain ⟨r, _, hr⟩ := List.mem_flatMap.1 hu
  simp only [Tv.vals, List.mem_cons, List.not_mem_nil, or_false] at hr
  rcases hr with rfl | rfl | rfl | rfl <;> rfl
theorem tflat_get (rs : List Tv) (i : Nat) (r : Tv) (h : rs[i]? = some r) :
    (tflat rs)[i * 4]? = some (.int .i64 r.k) ∧ (tflat rs)[i * 4 + 1]? = some (.string r.nm) ∧ (tflat rs)[i * 4 + 2]? = some (.slice r.An r.nn r.cn) ∧ (tflat rs)[i * 4 + 3]? = some (.slice r.Ak r.nk r.ck) := by
  induction rs generalizing i with
  | nil => simp at h
  | cons d l ih =>
    cases i with
    | zero =>
      simp only [List.getElem?_cons_zero, Option.some.injEq] at h
      subst h
      simp [tflat_cons, Tv.vals]
    | succ i =>
      obtain ⟨a, b, c, d'⟩ := ih i (by simpa using h)
      have e1 : (i + 1) * 4 = i * 4 + 4 := by omega
      have e2 : ∀ j, (tflat (d :: l))[i * 4 + 4 + j]? = (tflat l)[i * 4 + j]? := by
        intro j
        rw [tflat_cons, List.getElem?_append_right (by simp [Tv.vals]; omega)]
        congr 1
        simp [Tv.vals]
        omega
      have e0 : (tflat (d :: l))[i * 4 + 4]? = (tflat l)[i * 4]? := e2 0
      rw [e1, e0, e2 1, e2 2, e2 3]
      exact ⟨a, b, c, d'⟩

mutual
def TyV (w : World) (X : Nat → Prop) : Tv → Ty → Prop
  | r, .mk k nm ns ks => (r.k = k ∧ r.nn ≤ 140737488355328 ∧ r.nk ≤ 140737488355328) ∧ r.nm = nm ∧ r.nn = ns.length ∧ Rd w X 1 (.slice r.An r.nn r.cn) r.nn (strs ns) ∧ ∃ rs, r.nk = ks.length ∧ Rd w X 4 (.slice r.Ak r.nk r.ck) r.nk (tflat rs) ∧ TysV w X rs ks
def TysV (w : World) (X : Nat → Prop) : List Tv → List Ty → Prop
  | [], [] => True
  | r :: rs, t :: ts => TyV w X r t ∧ TysV w X rs ts
  | [], _ :: _ => False
  | _ :: _, [] => False
end
section
variable {w w' : World} {X Y Z : Nat → Prop}
theorem TyV.out {r : Tv} {t : Ty} (h : TyV w X r t) : (r.k = t.kind ∧ r.nn ≤ 140737488355328 ∧ r.nk ≤ 140737488355328) ∧ r.nm = t.name ∧ r.nn = t.names.length ∧ Rd w X 1 (.slice r.An r.nn r.cn) r.nn (strs t.names) ∧ ∃ rs, r.nk = t.kids.length ∧ Rd w X 4 (.slice r.Ak r.nk r.ck) r.nk (tflat rs) ∧ TysV w X rs t.kids := by
  cases t; exact h
theorem TyV.mk {r : Tv} {t : Ty} (h1 : r.k = t.kind ∧ r.nn ≤ 140737488355328 ∧ r.nk ≤ 140737488355328) (h2 : r.nm = t.name) (h3 : r.nn = t.names.length) (h4 : Rd w X 1 (.slice r.An r.nn r.cn) r.nn (strs t.names)) {rs : List Tv} (h5 : r.nk = t.kids.length) (h6 : Rd w X 4 (.slice r.Ak r.nk r.ck) r.nk (tflat rs)) (h7 : TysV w X rs t.kids) : TyV w X r t := by
  cases t; exact ⟨h1, h2, h3, h4, rs, h5, h6, h7⟩
theorem TysV.len : ∀ {rs : List Tv} {ts : List Ty}, TysV w X rs ts → rs.length = ts.length
  | [], [], _ => rfl
  | _ :: _, _ :: _, h => by simp only [List.length_cons, h.2.len]
  | [], _ :: _, h => nomatch h
  | _ :: _, [], h => nomatch h
theorem TysV.at_ : ∀ {rs : List Tv} {ts : List Ty}, TysV w X rs ts → ∀ {i : Nat} {t : Ty}, ts[i]? = some t → ∃ r, rs[i]? = some r ∧ TyV w X r t
  | [], [], _, i, t, h => by simp at h
  | r :: rs, t0 :: ts, hh, i, t, h => by
    cases i with
    | zero =>
      simp only [List.getElem?_cons_zero, Option.some.injEq] at h
      subst h
      exact ⟨r, rfl, hh.1⟩
    | succ i => simpa using hh.2.at_ (i := i) (by simpa using h)
  | [], _ :: _, hh, _, _, _ => nomatch hh
  | _ :: _, [], hh, _, _, _ => nomatch hh
theorem TysV.map' : ∀ {rs : List Tv} {ts : List Ty}, TysV w X rs ts → (∀ r t, t ∈ ts → TyV w X r t → TyV w' Y r t) → TysV w' Y rs ts
  | [], [], _, _ => trivial
  | _ :: _, _ :: _, h, hh => ⟨hh _ _ List.mem_cons_self h.1, h.2.map' fun r t ht => hh r t (List.mem_cons_of_mem _ ht)⟩
  | [], _ :: _, h, _ => nomatch h
  | _ :: _, [], h, _ => nomatch h
theorem TysV.append : ∀ {rs rs' : List Tv} {ts ts' : List Ty}, TysV w X rs ts → TysV w X rs' ts' → TysV w X (rs ++ rs') (ts ++ ts')
  | [], _, [], _, _, h => h
  | _ :: _, _, _ :: _, _, h, h' => ⟨h.1, h.2.append h'⟩
  | [], _, _ :: _, _, h, _ => nomatch h
  | _ :: _, _, [], _, h, _ => nomatch h
theorem TysV.snoc {rs : List Tv} {ts : List Ty} {r : Tv} {t : Ty} (h : TysV w X rs ts) (h' : TyV w X r t) : TysV w X (rs ++ [r]) (ts ++ [t]) := h.append ⟨h', trivial⟩
theorem TysV.take : ∀ {rs : List Tv} {ts : List Ty} (_ : TysV w X rs ts) (i : Nat), TysV w X (rs.take i) (ts.take i)
  | [], [], _, i => by simp [TysV]
  | _ :: _, _ :: _, h, 0 => by simp [TysV]
  | _ :: _, _ :: _, h, i + 1 => ⟨h.1, h.2.take i⟩
  | [], _ :: _, h, _ => nomatch h
  | _ :: _, [], h, _ => nomatch h
theorem TysV.drop : ∀ {rs : List Tv} {ts : List Ty} (_ : TysV w X rs ts) (i : Nat), TysV w X (rs.drop i) (ts.drop i)
  | [], [], _, i => by simp [TysV]
  | _ :: _, _ :: _, h, 0 => by simpa using h
  | _ :: _, _ :: _, h, i + 1 => by simpa using h.2.drop i
  | [], _ :: _, h, _ => nomatch h
  | _ :: _, [], h, _ => nomatch h
theorem TysV.of_get : ∀ {rs : List Tv} {ts : List Ty}, rs.length = ts.length → (∀ (i : Nat) (r : Tv) (t : Ty), rs[i]? = some r → ts[i]? = some t → TyV w X r t) → TysV w X rs ts
  | [], [], _, _ => trivial
  | r :: rs, t :: ts, hl, h => ⟨h 0 r t rfl rfl, TysV.of_get (by simpa using hl) fun i r' t' h1 h2 => h (i + 1) r' t' (by simpa using h1) (by simpa using h2)⟩
  | [], _ :: _, hl, _ => by simp at hl
  | _ :: _, [], hl, _ => by simp at hl
/-- What was read stays read. -/
theorem TyV.keep {r : Tv} {t : Ty} (h : TyV w X r t) (k : Keep Y w w') (hY : ∀ i, i < w.heap.size → Y i → X i) (hZ : ∀ i, i < w.heap.size → Z i → X i) : TyV w' Z r t := by
  induction t using Ty.ind generalizing r with
  | h t ih =>
    obtain ⟨h1, h2, h3, h4, rs, h5, h6, h7⟩ := h.out
    have rd : ∀ {size n : Nat} {v : Value} {xs : List Value}, Rd w X size v n xs → Rd w' Z size v n xs := by
      rintro size n v xs ⟨hl, A, cap, hv, hc, hr⟩
      refine ⟨hl, A, cap, hv, hc, fun hn => ?_⟩
      obtain ⟨b, o, hA, hb, hX, hcell⟩ := hr hn
      exact ⟨b, o, hA, Nat.lt_of_lt_of_le hb k.size, fun hz => hX (hZ b hb hz), fun j hj => (World.cell?_of_block (w := w) (a := ⟨b, o + j, none⟩) (k.block b hb (fun hy => hX (hY b hb hy)))).trans (hcell j hj)⟩
    exact TyV.mk h1 h2 h3 (rd h4) h5 (rd h6) (h7.map' fun r k hk hr => ih k (Ty.kid_lt hk) hr)
theorem TyV.step {r : Tv} {t : Ty} (h : TyV w X r t) (k : Keep (fun _ => False) w w') : TyV w' X r t := h.keep k (fun _ _ x => x.elim) (fun _ _ x => x)
theorem TyV.mono {r : Tv} {t : Ty} (h : TyV w X r t) (hZ : ∀ i, i < w.heap.size → Z i → X i) : TyV w Z r t := h.keep (Keep.refl (fun _ => False) w) (fun _ _ x => x.elim) hZ
theorem TysV.keep {rs : List Tv} {ts : List Ty} (h : TysV w X rs ts) (k : Keep Y w w') (hY : ∀ i, i < w.heap.size → Y i → X i) (hZ : ∀ i, i < w.heap.size → Z i → X i) : TysV w' Z rs ts := h.map' fun _ _ _ hr => hr.keep k hY hZ
theorem TysV.step {rs : List Tv} {ts : List Ty} (h : TysV w X rs ts) (k : Keep (fun _ => False) w w') : TysV w' X rs ts := h.map' fun _ _ _ hr => hr.step k
theorem TyV.zero (w : World) (X : Nat → Prop) : TyV w X tv0 ty0 := TyV.mk (rs := []) ⟨rfl, Nat.zero_le _, Nat.zero_le _⟩ rfl rfl (Rd.nil w X 1) rfl (Rd.nil w X 4) trivial
/-- The four cells of element i. -/
theorem Rd.tcells {A : Option Addr} {n c i : Nat} {rs : List Tv} {r : Tv} (h : Rd w X 4 (.slice A n c) n (tflat rs)) (hi : i < n) (hr : rs[i]? = some r) :
    ∃ b o, A = some ⟨b, o, none⟩ ∧ b < w.heap.size ∧ ¬ X b ∧ w.cell? ⟨b, o + i * 4, none⟩ = some (.int .i64 r.k) ∧ w.cell? ⟨b, o + i * 4 + 1, none⟩ = some (.string r.nm) ∧ w.cell? ⟨b, o + i * 4 + 2, none⟩ = some (.slice r.An r.nn r.cn) ∧ w.cell? ⟨b, o + i * 4 + 3, none⟩ = some (.slice r.Ak r.nk r.ck) := by
  obtain ⟨_, A', c', hv, _, hrr⟩ := h
  simp only [Value.slice.injEq, true_and] at hv
  obtain ⟨rfl, rfl⟩ := hv
  obtain ⟨b, o, rfl, hb, hx, hc⟩ := hrr (by omega)
  obtain ⟨g0, g1, g2, g3⟩ := tflat_get _ _ _ hr
  exact ⟨b, o, rfl, hb, hx, by rw [hc _ (by omega)]; exact g0, by rw [Nat.add_assoc, hc _ (by omega)]; exact g1, by rw [Nat.add_assoc, hc _ (by omega)]; exact g2, by rw [Nat.add_assoc, hc _ (by omega)]; exact g3⟩
theorem Rd.scell {A : Option Addr} {n c i : Nat} {l : List ByteArray} {s : ByteArray} (h : Rd w X 1 (.slice A n c) n (strs l)) (hi : i < n) (hr : l[i]? = some s) :
    ∃ b o, A = some ⟨b, o, none⟩ ∧ b < w.heap.size ∧ ¬ X b ∧ w.cell? ⟨b, o + i, none⟩ = some (.string s) := by
  obtain ⟨_, A', c', hv, _, hrr⟩ := h
  simp only [Value.slice.injEq, true_and] at hv
  obtain ⟨rfl, rfl⟩ := hv
  obtain ⟨b, o, rfl, hb, hx, hc⟩ := hrr (by omega)
  exact ⟨b, o, rfl, hb, hx, by rw [hc _ (by omega)]; simp [strs, hr]⟩
theorem Rd.nlen {A : Option Addr} {n c : Nat} {rs : List Tv} (h : Rd w X 4 (.slice A n c) n (tflat rs)) : rs.length = n := by
  have := h.1
  rw [tflat_length] at this
  omega
theorem Rd.slen {A : Option Addr} {n c : Nat} {l : List ByteArray} (h : Rd w X 1 (.slice A n c) n (strs l)) : l.length = n := by
  have := h.1
  rw [strs_length] at this
  omega
/-- Kid i of a type that lies in memory: its cells, and its reading. -/
theorem TyV.kid {r : Tv} {t : Ty} (h : TyV w X r t) {i : Nat} (hi : i < r.nk) : ∃ k q b o, t.kids[i]? = some k ∧ TyV w X q k ∧ r.Ak = some ⟨b, o, none⟩ ∧ b < w.heap.size ∧ ¬ X b ∧ w.cell? ⟨b, o + i * 4, none⟩ = some (.int .i64 q.k) ∧ w.cell? ⟨b, o + i * 4 + 1, none⟩ = some (.string q.nm) ∧ w.cell? ⟨b, o + i * 4 + 2, none⟩ = some (.slice q.An q.nn q.cn) ∧ w.cell? ⟨b, o + i * 4 + 3, none⟩ = some (.slice q.Ak q.nk q.ck) := by
  obtain ⟨_, _, _, _, rs, h5, h6, h7⟩ := h.out
  have hk : t.kids[i]? = some t.kids[i] := List.getElem?_eq_getElem (by omega)
  obtain ⟨q, hq, hv⟩ := h7.at_ hk
  obtain ⟨b, o, hA, hb, hx, c⟩ := h6.tcells hi hq
  exact ⟨_, q, b, o, hk, hv, hA, hb, hx, c⟩
end
theorem str_eq_iff {a b : ByteArray} : a.toList = b.toList ↔ a = b := by
  rw [ByteArray.toList_eq, ByteArray.toList_eq]
  refine ⟨fun h => ?_, fun h => by rw [h]⟩
  cases a; cases b
  simp only [Array.toList_inj] at h
  rw [h]
theorem str_beq (a : ByteArray) : (a.toList == a.toList) = true := by simp
theorem str_bne {a b : ByteArray} (h : a ≠ b) : (a.toList == b.toList) = false := by
  rw [beq_eq_false_iff_ne]
  exact fun e => h (str_eq_iff.1 e)
theorem E25 : Elem Tryd.prog 23 25 4 72 := Elem.mk' Tryd.underlying23 (z := .agg #[.int .i64 0, .string ⟨#[]⟩, .slice none 0 0, .slice none 0 0]) (by kernel_rfl) rfl (by decide)
theorem E9 : Elem Tryd.prog 22 9 1 16 := Elem.mk' Tryd.underlying22 (z := .string ⟨#[]⟩) (by kernel_rfl) rfl (by decide)
end Go.Proofs.YtbanpohholnkaaaDoor
