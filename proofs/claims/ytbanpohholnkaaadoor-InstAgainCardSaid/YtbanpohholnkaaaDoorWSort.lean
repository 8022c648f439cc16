/-
  Walks: cmp.Compare of strings, record's closure; slices.SortFunc over fields by the shelf's contract. Conditions: none beyond what each says.
-/
import Derived.Test.YtbanpohholnkaaaDoorWWords
namespace Go.Proofs.YtbanpohholnkaaaDoor
open Go.RowKit Go.Lib Go.Sort

/-- a text is less than another one. -/
def ltS (a b : ByteArray) : Bool := ltStr a.data.toList b.data.toList
theorem bytesLess_lt : ∀ (x y : List UInt8), Op.bytesLess x y = decide (x < y)
  | [], [] => by simp [Op.bytesLess]
  | _ :: _, [] => by simp [Op.bytesLess]
  | [], _ :: _ => by simp [Op.bytesLess]
  | a :: x, b :: y => by
    rw [Op.bytesLess, bytesLess_lt x y]
    simp only [List.cons_lt_cons_iff]
    by_cases h1 : a < b <;> by_cases h2 : a = b <;> by_cases h3 : x < y <;> simp [h1, h2, h3]
theorem ltS_bytes (a b : ByteArray) : Op.bytesLess a.toList b.toList = ltS a b := by
  rw [ByteArray.toList_eq, ByteArray.toList_eq, bytesLess_lt]
  rfl
theorem ltS_irrefl (a : ByteArray) : ltS a a = false := swo_ltStr.irrefl _
theorem ltS_trans {a b c : ByteArray} (h1 : ltS a b = true) (h2 : ltS b c = true) : ltS a c = true := swo_ltStr.trans _ _ _ h1 h2
theorem ltS_ntrans {a b c : ByteArray} (h1 : ltS a b = false) (h2 : ltS b c = false) : ltS a c = false := swo_ltStr.ntrans _ _ _ h1 h2
theorem ltS_total {a b : ByteArray} (h1 : ltS a b = false) (h2 : ltS b a = false) : a = b := by
  unfold ltS ltStr at h1 h2
  simp only [decide_eq_false_iff_not, List.not_lt] at h1 h2
  have := List.le_antisymm h2 h1
  cases a; cases b
  simp only [Array.toList_inj] at this
  rw [this]
theorem ltS_asymm {a b : ByteArray} (h : ltS a b = true) : ltS b a = false := by
  cases h' : ltS b a with
  | false => rfl
  | true => have := ltS_trans h h'; rw [ltS_irrefl] at this; cases this
def cfS (a b : ByteArray) : Int := if ltS a b = true then -1 else if a = b then 0 else 1
theorem cfS_lt (a b : ByteArray) : decide (cfS a b < 0) = ltS a b := by
  unfold cfS
  cases ltS a b with
  | true => simp
  | false =>
    by_cases h : a = b
    · simp [h]
    · simp [h]
set_option maxHeartbeats 1000000 in
theorem nan_any (x : ByteArray) (w : World) : Calls Tryd.prog 100 #[.string x] w fun e w' => e = .returned (.bool false) ∧ w = w' := by
  go_enter Tryd.func100, Tryd.ntmps100
  go_wp2
  go_ret
  exact ⟨by simp, rfl⟩
set_option maxHeartbeats 1000000 in
theorem cmp_any (a b : ByteArray) (w : World) : Calls Tryd.prog 86 #[.string a, .string b] w fun e w' => e = .returned (.int .i64 (cfS a b)) ∧ w = w' := by
  have hl := ltS_bytes a b
  unfold cfS
  cases hb : ltS a b with
  | true =>
    rw [hb] at hl
    rw [if_pos rfl]
    go_enter Tryd.func86, Tryd.ntmps86
    go_wp2_with (go_at_call 100; refine (nan_any _ _).mono ?_; rintro e w' ⟨rfl, rfl⟩)
    go_ret
    exact ⟨rfl, rfl⟩
  | false =>
    rw [hb] at hl
    by_cases he : a = b
    · subst he
      have hd := str_beq a
      rw [if_neg (by decide), if_pos rfl]
      go_enter Tryd.func86, Tryd.ntmps86
      go_wp2_with (go_at_call 100; refine (nan_any _ _).mono ?_; rintro e w' ⟨rfl, rfl⟩)
      go_ret
      exact ⟨rfl, rfl⟩
    · have hd := str_bne he
      rw [if_neg (by decide), if_neg he]
      go_enter Tryd.func86, Tryd.ntmps86
      go_wp2_with (go_at_call 100; refine (nan_any _ _).mono ?_; rintro e w' ⟨rfl, rfl⟩)
      go_ret
      exact ⟨rfl, rfl⟩
instance : Inhabited Tv := ⟨tv0⟩
abbrev Fd := ByteArray × Tv
def encF (x : Fd) : List Value := .string x.1 :: x.2.vals
def fflat (l : List Fd) : List Value := l.flatMap encF
set_option maxHeartbeats 1000000 in
theorem rcmp_any (x y : Fd) (W : World) : Calls Tryd.prog 85 #[.agg (encF x).toArray, .agg (encF y).toArray] W fun e w' => e = .returned (.int .i64 (cfS x.1 y.1)) ∧ ∃ q os', w' = grow (W.drewN q) os' := by
  have hc := fun W' => cmp_any x.1 y.1 W'
  obtain ⟨s, k, nm, An, nn, cn, Ak, nk, ck⟩ := x
  obtain ⟨s', k', nm', An', nn', cn', Ak', nk', ck'⟩ := y
  unfold encF Tv.vals
  simp only at hc ⊢
  generalize cfS s s' = r at *
  go_enter Tryd.func85, Tryd.ntmps85
  go_wp2_with (go_at_call 86; refine (hc _).mono ?_; rintro e w' ⟨rfl, rfl⟩)
  go_ret
  exact ⟨rfl, 0, _, by rw [alloc_eq_grow, alloc_eq_grow, grow_grow]; rfl⟩

theorem encF_length (x : Fd) : (encF x).length = 5 := rfl
theorem encF_one (x : Fd) : ∀ v ∈ encF x, v.oneCell' = true := by
  intro v hv
  simp only [encF, Tv.vals, List.mem_cons, List.not_mem_nil, or_false] at hv
  rcases hv with rfl | rfl | rfl | rfl | rfl <;> rfl
theorem fflat_length (l : List Fd) : (fflat l).length = l.length * 5 := by
  induction l with
  | nil => rfl
  | cons x l ih =>
    have : fflat (x :: l) = encF x ++ fflat l := rfl
    rw [this, List.length_append, ih, encF_length, List.length_cons]
    omega
theorem fflat_at (l : List Fd) (t : Nat) (h : t < l.length * 5) : (fflat l)[t]? = (encF l[t / 5]!)[t % 5]? := by
  induction l generalizing t with
  | nil => simp at h
  | cons x l ih =>
    have e : fflat (x :: l) = encF x ++ fflat l := rfl
    rw [e]
    by_cases h5 : t < 5
    · have h0 : t / 5 = 0 := by omega
      have h1 : t % 5 = t := by omega
      rw [List.getElem?_append_left (by rw [encF_length]; exact h5), h0, h1]
      rfl
    · rw [List.getElem?_append_right (by rw [encF_length]; omega), encF_length, ih (t - 5) (by simp only [List.length_cons] at h; omega)]
      have h0 : t / 5 = (t - 5) / 5 + 1 := by omega
      have h1 : t % 5 = (t - 5) % 5 := by omega
      rw [h0, h1]
      rfl
theorem flatK_at (l : List Fd) (j : Nat) (h : j < l.length * 5) : some ((flatK encF 5 l.toArray)[j]!) = (fflat l)[j]? := by
  rw [fflat_at l j h, get_flatK _ _ _ _ (by simpa using h)]
  have hm : j % 5 < (encF l[j / 5]!).length := by rw [encF_length]; omega
  have hj : j / 5 < l.length := by omega
  have e : l.toArray[j / 5]! = l[j / 5]! := by simp
  rw [e, List.getElem?_eq_getElem hm, getElem!_pos (encF l[j / 5]!) (j % 5) hm]
theorem swoF : SWO (ltOf fun x y : Fd => cfS x.1 y.1) where
  irrefl x := by show decide (cfS x.1 x.1 < 0) = false; rw [cfS_lt]; exact ltS_irrefl _
  trans x y z h1 h2 := by
    show decide (cfS x.1 z.1 < 0) = true
    have a : decide (cfS x.1 y.1 < 0) = true := h1
    have b : decide (cfS y.1 z.1 < 0) = true := h2
    rw [cfS_lt] at *
    exact ltS_trans a b
  ntrans x y z h1 h2 := by
    show decide (cfS x.1 z.1 < 0) = false
    have a : decide (cfS x.1 y.1 < 0) = false := h1
    have b : decide (cfS y.1 z.1 < 0) = false := h2
    rw [cfS_lt] at *
    exact ltS_ntrans a b
/-- No later one is less than an earlier one. -/
def SortedF (l : List Fd) : Prop := ∀ (i j : Nat) (x y : Fd), i < j → l[i]? = some x → l[j]? = some y → ltS y.1 x.1 = false
theorem keep_sortWorld {w : World} {g n : Nat} {d : Array Fd} {os : Array Obj} : Keep (fun i => i = g) w (sortWorldK encF 5 w g 0 n d os) := by
  refine ⟨rfl, rfl, rfl, by simp [sortWorldK, putRowK, putRow, mapBlock, Sort.ahead], fun k hk hne => ?_⟩
  unfold sortWorldK
  rw [heap_grow_old _ _ (by simpa [putRowK, putRow, mapBlock, Sort.ahead] using hk)]
  have : g ≠ k := fun e => hne e.symm
  simp [putRowK, putRow, mapBlock, Sort.ahead, Array.getElem?_modify, this]
set_option maxHeartbeats 1000000 in
theorem sort_any {w : World} {n : Nat} {A : Option Addr} {cap : Nat} {l : List Fd} (hn : n = l.length) (hb : n ≤ 1000) (ho : w.ownsRow 0 100 5 (.slice A n cap) n (fflat l)) :
    Calls Tryd.prog 84 #[.slice A n cap, .func (.func 85) #[] #[]] w fun e w' => e = .returned (.tuple #[]) ∧ ∃ l' : List Fd, l'.Perm l ∧ SortedF l' ∧ Rd w' (fun _ => False) 5 (.slice A n cap) n (fflat l') ∧ Keep (fun i => (Value.slice A n cap).ownBlock = some i) w w' := by
  subst hn
  rcases own_cases ho with ⟨hv, h0, _⟩ | ⟨g, cap', hv, hc, hg⟩
  · simp only [Value.slice.injEq] at hv
    obtain ⟨rfl, _, rfl⟩ := hv
    have hl : l = [] := List.eq_nil_of_length_eq_zero h0
    subst hl
    refine (AnyF.slices_SortFunc_none Tryd.laysSort none 0 _ w).mono ?_
    rintro e w' ⟨rfl, rfl⟩
    exact ⟨rfl, [], List.Perm.refl _, fun i j x y _ h => by simp at h, Rd.nil _ _ 5, Keep.refl _ _⟩
  · simp only [Value.slice.injEq, true_and] at hv
    obtain ⟨rfl, rfl⟩ := hv
    have hH : HoldsK encF 5 w g 0 l.toArray := by
      intro j hj
      have hj' : j < l.length * 5 := by simpa using hj
      refine ⟨?_, ?_⟩
      · rw [Nat.zero_add, ho.cellAt j hj', ← flatK_at l j hj']
        rfl
      · rw [Nat.zero_add]
        exact ho.frozenAt j
    have eg : ∀ args w, (callFunc 85 args).run Tryd.prog w = .ok (.enter 85 args) w := enters_of Tryd.func85 (by kernel_rfl) rfl
    have hcmp : CmpLays Tryd.prog 85 #[] encF 5 (fun x y : Fd => cfS x.1 y.1) g 0 l.toArray.size w := fun m os dk hdk x y => rcmp_any x y _
    have hcon := AnyQ.slices_SortFunc Tryd.laysSort 5 Tryd.isAgg100 Tryd.sizeOf100 encF encF_length encF_one (fun x y : Fd => cfS x.1 y.1) swoF 85 #[] g 0 cap l.toArray w eg hcmp hH hg (by simp; omega)
    refine hcon.mono ?_
    rintro e w' ⟨rfl, d', m, os, hp, hs, rfl⟩
    obtain ⟨hsz, _, hperm⟩ := hp
    have hsz' : d'.size = l.length := by simpa using hsz
    refine ⟨rfl, d'.toList, ?_, ?_, ?_, ?_⟩
    · have e1 : (d'.extract 0 l.toArray.size).toList = d'.toList := by simp [← hsz']
      have e2 : (l.toArray.extract 0 l.toArray.size).toList = l := by simp
      rw [e1, e2] at hperm
      exact hperm
    · intro i j x y hij hx hy
      have hi := (List.getElem?_eq_some_iff.1 hx).1
      have hj := (List.getElem?_eq_some_iff.1 hy).1
      have := hs i j (Nat.zero_le _) hij (by simp at hj; simp; omega)
      have ex : d'[i]! = x := by
        have h1 := (List.getElem?_eq_some_iff.1 hx).2
        rw [getElem!_pos d' i (by simpa using hi)]
        simpa using h1
      have ey : d'[j]! = y := by
        have h1 := (List.getElem?_eq_some_iff.1 hy).2
        rw [getElem!_pos d' j (by simpa using hj)]
        simpa using h1
      rw [ex, ey] at this
      have this' : decide (cfS y.1 x.1 < 0) = false := this
      rw [cfS_lt] at this'
      exact this'
    · refine ⟨by rw [fflat_length]; simp [hsz'], _, cap, rfl, hc, fun _ => ⟨g, 0, rfl, Nat.lt_of_lt_of_le hg keep_sortWorld.size, fun x => x, fun j hj => ?_⟩⟩
      have hH' := holds_putRow id (Sort.ahead w m) g 0 (flatK encF 5 l.toArray) (flatK encF 5 d') (by exact hH) (by simp [hsz'])
      have hc1 := (hH' j (by simp [hsz']; exact hj)).1
      unfold sortWorldK
      rw [cell?_grow _ _ _ (by simpa [putRowK, putRow, mapBlock, Sort.ahead] using hg)]
      refine hc1.trans ?_
      have := flatK_at d'.toList j (by simp [hsz']; exact hj)
      simpa using this
    · exact keep_sortWorld.mono (fun i _ hi => by rw [hi]; rfl)
end Go.Proofs.YtbanpohholnkaaaDoor
