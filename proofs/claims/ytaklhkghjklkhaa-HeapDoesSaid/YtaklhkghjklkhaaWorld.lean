/-
  The reference's world as it lies in memory; walks: (*World).Is, Used, Objects. Conditions: at most 1000 objects of at most 1000 slots.
-/
import Derived.Test.YtaklhkghjklkhaaOpIn
namespace Go.Proofs.Ytaklhkghjklkhaa
open Go.RowKit

structure Wo where
  slots : List Sl
  gone : Bool
def vflat (es : List (Value × Wo)) : List Value := es.flatMap fun e => [e.1, .bool e.2.gone]
theorem vflat_cons (e : Value × Wo) (es : List (Value × Wo)) : vflat (e :: es) = [e.1, .bool e.2.gone] ++ vflat es := rfl
theorem vflat_append (a b : List (Value × Wo)) : vflat (a ++ b) = vflat a ++ vflat b := by simp [vflat]
theorem vflat_length (es : List (Value × Wo)) : (vflat es).length = es.length * 2 := by
  induction es with
  | nil => rfl
  | cons c l ih => rw [vflat_cons, List.length_append, ih]; simp; omega
theorem vflat_get (es : List (Value × Wo)) (i : Nat) (e : Value × Wo) (h : es[i]? = some e) :
    (vflat es)[i * 2]? = some e.1 ∧ (vflat es)[i * 2 + 1]? = some (.bool e.2.gone) := by
  induction es generalizing i with
  | nil => simp at h
  | cons d l ih =>
    cases i with
    | zero =>
      simp only [List.getElem?_cons_zero, Option.some.injEq] at h
      subst h
      simp [vflat_cons]
    | succ i =>
      obtain ⟨a, b⟩ := ih i (by simpa using h)
      have e1 : (i + 1) * 2 = i * 2 + 2 := by omega
      rw [vflat_cons, e1]
      simp [a, b]
theorem vflat_set (es : List (Value × Wo)) (i : Nat) (e : Value × Wo) (h : es[i]? = some e) (g : Bool) : vflat (es.set i (e.1, ⟨e.2.slots, g⟩)) = (vflat es).set (i * 2 + 1) (.bool g) := by
  induction es generalizing i with
  | nil => simp at h
  | cons d l ih =>
    cases i with
    | zero =>
      simp only [List.getElem?_cons_zero, Option.some.injEq] at h
      subst h
      simp [vflat_cons]
    | succ i =>
      have e1 : (i + 1) * 2 + 1 = i * 2 + 1 + 1 + 1 := by omega
      simp only [List.set_cons_succ, vflat_cons, ih i (by simpa using h), e1, List.cons_append, List.nil_append]

structure WV (w : World) (Z : Nat → Prop) (p : Nat) (c : Int) (lv : Value) (es : List (Value × Wo)) : Prop where
  head : At w p 42 #[.int .i64 c, lv]
  own : w.ownsRow 0 65 2 lv es.length (vflat es)
  rd : ∀ (i : Nat) (e : Value × Wo), es[i]? = some e → Rd w (fun k => fp p lv k ∨ Z k) 2 e.1 e.2.slots.length (sflat e.2.slots)
  len : es.length ≤ 1000
  small : ∀ e ∈ es, e.2.slots.length ≤ 1000
def worlds (es : List (Value × Wo)) : List Wo := es.map (·.2)
def isW (ws : List Wo) (k : Int) : Bool := decide (0 ≤ k) && match ws[k.toNat]? with
  | some o => !o.gone
  | none => false
theorem isW_neg {ws : List Wo} {k : Int} (h : k < 0) : isW ws k = false := by
  simp [isW]; omega
theorem isW_out {ws : List Wo} {k : Nat} (h : ws.length ≤ k) : isW ws k = false := by
  simp [isW, h]
theorem isW_at {ws : List Wo} {k : Nat} {o : Wo} (h : ws[k]? = some o) : isW ws k = !o.gone := by
  simp [isW, h]
theorem isW_nat {ws : List Wo} {k : Int} (h : isW ws k = true) : ∃ i o, k = (i : Nat) ∧ ws[i]? = some o ∧ o.gone = false := by
  unfold isW at h
  simp only [Bool.and_eq_true, decide_eq_true_eq] at h
  obtain ⟨h0, h1⟩ := h
  cases hk : ws[k.toNat]? with
  | none => simp [hk] at h1
  | some o => exact ⟨k.toNat, o, by omega, hk, by simpa [hk] using h1⟩

/-- What a walk needs of element i: where its two cells lie. -/
theorem WV.form {w : World} {Z : Nat → Prop} {p : Nat} {c : Int} {lv : Value} {es : List (Value × Wo)} (h : WV w Z p c lv es) (hp : 0 < es.length) :
    ∃ g cap, lv = .slice (some ⟨g, 0, none⟩) es.length cap ∧ g < w.heap.size ∧ g ≠ p ∧ ∀ i e, es[i]? = some e → w.cell? ⟨g, i * 2, none⟩ = some e.1 ∧ w.cell? ⟨g, i * 2 + 1, none⟩ = some (.bool e.2.gone) := by
  rcases own_cases h.own with ⟨_, h0, _⟩ | ⟨g, cap, rfl, hc, hg⟩
  · omega
  · refine ⟨g, cap, rfl, hg, own_ne_at h.own h.head (by decide), fun i e he => ?_⟩
    have hi : i < es.length := (List.getElem?_eq_some_iff.1 he).1
    obtain ⟨a, b⟩ := vflat_get es i e he
    exact ⟨by rw [h.own.cellAt _ (by omega), a], by rw [h.own.cellAt _ (by omega), b]⟩
theorem WV.val {w : World} {Z : Nat → Prop} {p : Nat} {c : Int} {lv : Value} {es : List (Value × Wo)} (h : WV w Z p c lv es) : ∃ A cap, lv = .slice A es.length cap := own_slice h.own

theorem WV.lt {w : World} {Z : Nat → Prop} {p : Nat} {c : Int} {lv : Value} {es : List (Value × Wo)} (h : WV w Z p c lv es) : ∀ i, fp p lv i → i < w.heap.size := by
  intro i hi
  rcases hi with rfl | hi
  · exact h.head.lt
  · exact own_lt h.own hi
theorem WV.keep {w w' : World} {Z Z' X : Nat → Prop} {p : Nat} {c : Int} {lv : Value} {es : List (Value × Wo)} (h : WV w Z p c lv es) (k : Keep X w w') (h1 : ∀ i, fp p lv i → ¬ X i) (h2 : ∀ i, X i → Z i) (h3 : ∀ i, Z' i → Z i ∨ w.heap.size ≤ i) : WV w' Z' p c lv es := by
  refine ⟨k.at_ h.head (h1 p (.inl rfl)), k.own h.own (fun g hg => h1 g (.inr hg)), fun i e he => ?_, h.len, h.small⟩
  have a := (h.rd i e he).mono (Y := fun k => fp p lv k ∨ Z k ∨ Z' k) (fun i hi hy => by
    rcases hy with hy | hy | hy
    · exact .inl hy
    · exact .inr hy
    · rcases h3 i hy with h | h
      · exact .inr h
      · omega)
  exact (a.keep k (fun i hi => .inr (.inl (h2 i hi)))).mono (fun i _ hy => hy.imp id .inr)
theorem WV.step {w w' : World} {Z : Nat → Prop} {p : Nat} {c : Int} {lv : Value} {es : List (Value × Wo)} (h : WV w Z p c lv es) (k : Keep (fun _ => False) w w') : WV w' Z p c lv es := h.keep k (fun _ _ x => x) (fun _ x => x.elim) (fun _ x => .inl x)

set_option maxHeartbeats 400000 in
theorem wis_neg (p : Addr) (r : Int) (w : World) (h : r < 0) :
    Calls Try.prog 25 #[.pointer (some p), .int .i64 r] w fun e w' => e = .returned (.bool false) ∧ w = w' := by
  have hd : decide (0 ≤ r) = false := by simp; omega
  go_enter Try.func25, Try.ntmps25
  go_wp2
  go_ret
  exact ⟨rfl, rfl⟩
set_option maxHeartbeats 400000 in
theorem wis_out (p : Nat) (r n cap : Nat) (A : Option Addr) (w : World) (h0 : w.cell? ⟨p, 1, none⟩ = some (.slice A n cap)) (h : n ≤ r) :
    Calls Try.prog 25 #[.pointer (some ⟨p, 0, none⟩), .int .i64 r] w fun e w' => e = .returned (.bool false) ∧ w = w' := by
  have hd : decide ((r : Int) < (n : Int)) = false := by simp; omega
  have hd' : decide (r < n) = false := by simp; omega
  go_enter Try.func25, Try.ntmps25
  go_wp2
  go_ret
  exact ⟨rfl, rfl⟩
set_option maxHeartbeats 400000 in
theorem wis_in (p g r n cap : Nat) (f : Bool) (w : World) (h0 : w.cell? ⟨p, 1, none⟩ = some (.slice (some ⟨g, 0, none⟩) n cap)) (hr : r < n) (h : w.cell? ⟨g, r * 2 + 1, none⟩ = some (.bool f)) :
    Calls Try.prog 25 #[.pointer (some ⟨p, 0, none⟩), .int .i64 r] w fun e w' => e = .returned (.bool !f) ∧ w = w' := by
  go_enter Try.func25, Try.ntmps25
  go_wp2
  go_ret
  exact ⟨rfl, rfl⟩
theorem wis_any {w : World} {Z : Nat → Prop} {p : Nat} {c : Int} {lv : Value} {es : List (Value × Wo)} (h : WV w Z p c lv es) (r : Int) :
    Calls Try.prog 25 #[.pointer (some ⟨p, 0, none⟩), .int .i64 r] w fun e w' => e = .returned (.bool (isW (worlds es) r)) ∧ w = w' := by
  by_cases hr : r < 0
  · rw [isW_neg hr]; exact wis_neg _ r w hr
  · obtain ⟨k, rfl⟩ : ∃ k : Nat, r = k := ⟨r.toNat, by omega⟩
    by_cases hk : es.length ≤ k
    · obtain ⟨A, cap, rfl⟩ := h.val
      rw [isW_out (by simpa [worlds] using hk)]
      exact wis_out p k _ cap A w (h.head.cell 1) hk
    · obtain ⟨g, cap, rfl, _, _, hc⟩ := h.form (by omega)
      have hkk : es[k]? = some es[k] := List.getElem?_eq_getElem (by omega)
      rw [isW_at (o := es[k].2) (by simp [worlds, hkk])]
      exact wis_in p g k _ cap _ w (h.head.cell 1) (by omega) (hc k _ hkk).2

def wosum (ws : List Wo) : Nat := (ws.map fun o => if o.gone then 0 else o.slots.length + 1).sum
def wocnt (ws : List Wo) : Nat := (ws.map fun o => if o.gone then 0 else 1).sum
theorem wosum_snoc (ws : List Wo) (o : Wo) : wosum (ws ++ [o]) = wosum ws + if o.gone then 0 else o.slots.length + 1 := by simp [wosum]
theorem wocnt_snoc (ws : List Wo) (o : Wo) : wocnt (ws ++ [o]) = wocnt ws + if o.gone then 0 else 1 := by simp [wocnt]
theorem wosum_le {ws : List Wo} (h : ∀ o ∈ ws, o.slots.length ≤ 1000) : wosum ws ≤ ws.length * 1001 := by
  induction ws with
  | nil => simp [wosum]
  | cons o t ih =>
    have h1 := ih (fun x hx => h x (List.mem_cons_of_mem _ hx))
    have h2 := h o List.mem_cons_self
    have e : wosum (o :: t) = (if o.gone then 0 else o.slots.length + 1) + wosum t := by simp [wosum]
    have h3 : (if o.gone then 0 else o.slots.length + 1) ≤ 1001 := by split <;> omega
    rw [e, List.length_cons]
    generalize (if o.gone then 0 else o.slots.length + 1) = z at *
    omega
theorem wocnt_le (ws : List Wo) : wocnt ws ≤ ws.length := by
  induction ws with
  | nil => simp [wocnt]
  | cons o t ih =>
    have e : wocnt (o :: t) = (if o.gone then 0 else 1) + wocnt t := by simp [wocnt]
    have h3 : (if o.gone then 0 else 1) ≤ 1 := by split <;> omega
    rw [e, List.length_cons]
    generalize (if o.gone then 0 else 1) = z at *
    omega
theorem WV.get {w : World} {Z : Nat → Prop} {p : Nat} {c : Int} {lv : Value} {es : List (Value × Wo)} (h : WV w Z p c lv es) {i : Nat} (hi : i < es.length) :
    ∃ e As cs, es[i]? = some e ∧ (worlds es).take (i + 1) = (worlds es).take i ++ [e.2] ∧ e.1 = .slice As e.2.slots.length cs ∧ e.2.slots.length ≤ 1000 ∧ wosum ((worlds es).take i) ≤ 1001000 ∧ wocnt ((worlds es).take i) ≤ 1000 := by
  have he : es[i]? = some es[i] := List.getElem?_eq_getElem hi
  obtain ⟨_, As, cs, hv, _⟩ := h.rd i _ he
  have hl := h.len
  refine ⟨es[i], As, cs, he, by simp [List.take_add_one, worlds, he], hv, h.small _ (List.mem_of_getElem? he), ?_, ?_⟩
  · have := wosum_le (ws := (worlds es).take i) (fun o ho => by
      obtain ⟨e, he, rfl⟩ := List.mem_map.1 (List.mem_of_mem_take ho)
      exact h.small e he)
    simp only [List.length_take, worlds, List.length_map] at this ⊢
    omega
  · have := wocnt_le ((worlds es).take i)
    simp only [List.length_take, worlds, List.length_map] at this ⊢
    omega

def UsA (ws : List Wo) (f : List Wo → Nat) (n : Nat) (w : World) (k : Nat) (a b : Value) (wr : World) : Prop :=
  ∃ i : Nat, b = .int .i64 i ∧ i ≤ n ∧ k = n - i ∧ a = .int .i64 (f (ws.take i)) ∧ w = wr
set_option maxHeartbeats 1000000 in
theorem wused_any {w : World} {Z : Nat → Prop} {p : Nat} {c : Int} {lv : Value} {es : List (Value × Wo)} (h : WV w Z p c lv es) :
    Calls Try.prog 26 #[.pointer (some ⟨p, 0, none⟩)] w fun e w' => e = .returned (.int .i64 (wosum (worlds es))) ∧ w = w' := by
  obtain ⟨A, cap, rfl⟩ := h.val
  have h1 : w.cell? ⟨p, 1, none⟩ = some (.slice A es.length cap) := h.head.cell 1
  generalize hn : es.length = n at *
  have HH := Lib.hid (And.intro h hn)
  have hn1 : n ≤ 1000 := by rw [← hn]; exact h.len
  have h0 : UsA (worlds es) wosum n w n (.int .i64 0) (.int .i64 0) w := ⟨0, rfl, Nat.zero_le _, rfl, rfl, rfl⟩
  have H0 := Lib.hid h0
  clear h hn h0
  go_enter Try.func26, Try.ntmps26
  go_wp2
  go_loopg [3, 4] n (UsA (worlds es) wosum n w)
  case atStart => exact H0.out
  case round =>
    clear H0
    obtain ⟨i, rfl, hi, rfl, rfl, rfl⟩ := hrel
    by_cases hlt : i < n
    · obtain ⟨h, hn⟩ := HH.out
      obtain ⟨e, As, cs, he, ht, hv, hs, hb, _⟩ := h.get (i := i) (by omega)
      obtain ⟨g, cap', hvv, hg, hgp, hc⟩ := h.form (by omega)
      rw [hn] at hvv
      simp only [Value.slice.injEq, true_and] at hvv
      obtain ⟨rfl, rfl⟩ := hvv
      obtain ⟨c0, c1⟩ := hc i e he
      rw [hv] at c0
      generalize hu : wosum ((worlds es).take i) = u at *
      generalize hsl : e.2.slots.length = sl at *
      have HT := Lib.hid (And.intro ht (And.intro hu hsl))
      clear h hn hc he hv ht hu hsl
      cases hgo : e.2.gone with
      | true =>
        rw [hgo] at c1
        have HGO := Lib.hid hgo
        clear hgo
        go_wp2
        go_roundg (n - (i + 1))
        case measure => omega
        case rel =>
          obtain ⟨ht, hu, hsl⟩ := HT.out
          exact ⟨i + 1, by go_num, by omega, rfl, by rw [ht, wosum_snoc, HGO.out, hu]; simp, rfl⟩
      | false =>
        rw [hgo] at c1
        have HGO := Lib.hid hgo
        clear hgo
        go_wp2
        go_roundg (n - (i + 1))
        case measure => omega
        case rel =>
          obtain ⟨ht, hu, hsl⟩ := HT.out
          exact ⟨i + 1, by go_num, by omega, rfl, by rw [ht, wosum_snoc, HGO.out, hu, hsl]; simp; omega, rfl⟩
    · obtain ⟨h, hn⟩ := HH.out
      have hie : i = n := by omega
      subst hie
      rw [List.take_of_length_le (by simp [worlds, hn])]
      clear h hn
      go_wp2
      go_ret
      exact ⟨rfl, rfl⟩
set_option maxHeartbeats 1000000 in
theorem wobjects_any {w : World} {Z : Nat → Prop} {p : Nat} {c : Int} {lv : Value} {es : List (Value × Wo)} (h : WV w Z p c lv es) :
    Calls Try.prog 27 #[.pointer (some ⟨p, 0, none⟩)] w fun e w' => e = .returned (.int .i64 (wocnt (worlds es))) ∧ w = w' := by
  obtain ⟨A, cap, rfl⟩ := h.val
  have h1 : w.cell? ⟨p, 1, none⟩ = some (.slice A es.length cap) := h.head.cell 1
  generalize hn : es.length = n at *
  have HH := Lib.hid (And.intro h hn)
  have hn1 : n ≤ 1000 := by rw [← hn]; exact h.len
  have h0 : UsA (worlds es) wocnt n w n (.int .i64 0) (.int .i64 0) w := ⟨0, rfl, Nat.zero_le _, rfl, rfl, rfl⟩
  have H0 := Lib.hid h0
  clear h hn h0
  go_enter Try.func27, Try.ntmps27
  go_wp2
  go_loopg [3, 4] n (UsA (worlds es) wocnt n w)
  case atStart => exact H0.out
  case round =>
    clear H0
    obtain ⟨i, rfl, hi, rfl, rfl, rfl⟩ := hrel
    by_cases hlt : i < n
    · obtain ⟨h, hn⟩ := HH.out
      obtain ⟨e, As, cs, he, ht, hv, hs, _, hb⟩ := h.get (i := i) (by omega)
      obtain ⟨g, cap', hvv, hg, hgp, hc⟩ := h.form (by omega)
      rw [hn] at hvv
      simp only [Value.slice.injEq, true_and] at hvv
      obtain ⟨rfl, rfl⟩ := hvv
      obtain ⟨c0, c1⟩ := hc i e he
      generalize hu : wocnt ((worlds es).take i) = u at *
      have HT := Lib.hid (And.intro ht hu)
      clear h hn hc he hv ht hu c0 hs
      cases hgo : e.2.gone with
      | true =>
        rw [hgo] at c1
        have HGO := Lib.hid hgo
        clear hgo
        go_wp2
        go_roundg (n - (i + 1))
        case measure => omega
        case rel =>
          obtain ⟨ht, hu⟩ := HT.out
          exact ⟨i + 1, by go_num, by omega, rfl, by rw [ht, wocnt_snoc, HGO.out, hu]; simp, rfl⟩
      | false =>
        rw [hgo] at c1
        have HGO := Lib.hid hgo
        clear hgo
        go_wp2
        go_roundg (n - (i + 1))
        case measure => omega
        case rel =>
          obtain ⟨ht, hu⟩ := HT.out
          exact ⟨i + 1, by go_num, by omega, rfl, by rw [ht, wocnt_snoc, HGO.out, hu]; simp, rfl⟩
    · obtain ⟨h, hn⟩ := HH.out
      have hie : i = n := by omega
      subst hie
      rw [List.take_of_length_le (by simp [worlds, hn])]
      clear h hn
      go_wp2
      go_ret
      exact ⟨rfl, rfl⟩
end Go.Proofs.Ytaklhkghjklkhaa
