/-
  Walks: lex.words, slices.Contains of strings, lex.Name. Conditions: the table strings.asciiSpace lies as the program lays it.
-/
import Derived.Test.YtbanpohholnkaaaDoorWUnion
import Derived.Test.YtbanpohholnkaaaDoorShelf
namespace Go.Proofs.YtbanpohholnkaaaDoor
open Go.RowKit

/-- The table that strings.Fields reads. -/
def Tab (w : World) : Prop := ∀ c : Nat, c < 256 → w.cell? ⟨Tryd.lays157_ren.g 0, c, none⟩ = some (.int .u8 (if Lib.isSp (UInt8.ofNat c) then 1 else 0))
theorem Tab.step {w w' : World} (h : Tab w) (k : Keep (fun _ => False) w w') : Tab w' := fun c hc => k.cell (h c hc) (fun x => x)
def wordsS : ByteArray := ⟨#[97, 110, 100, 32, 97, 110, 121, 32, 97, 115, 32, 98, 111, 111, 108, 32, 101, 108, 115, 101, 32, 101, 120, 112, 111, 114, 116, 32, 102, 97, 108, 115, 101, 32, 102, 110, 32, 102, 117, 110, 99, 116, 105, 111, 110, 32, 105, 102, 32, 105, 109, 112, 111, 114, 116, 32, 105, 110, 32, 105, 110, 116, 32, 105, 115, 32, 108, 101, 116, 32, 110, 111, 116, 32, 110, 117, 108, 108, 32, 111, 114, 32, 112, 114, 105, 110, 116, 32, 114, 101, 97, 100, 32, 114, 101, 99, 111, 114, 100, 32, 115, 116, 114, 32, 116, 104, 101, 110, 32, 116, 114, 117, 101, 32, 119, 105, 116, 104]⟩
theorem words_fields : (Lib.fields wordsS.data.toList).map (fun l => Value.string ⟨l.toArray⟩) = strs wordsL := by
  have h : Lib.fields wordsS.data.toList = wordsL.map (·.data.toList) := by decide +kernel
  rw [h]
  simp [strs, Function.comp_def]
theorem words_len : (Lib.fields wordsS.data.toList).length = 25 := by decide +kernel
theorem words_ascii : ∀ (j : Nat) b, wordsS.data.toList[j]? = some b → b.toNat < 128 := by
  have h : wordsS.data.toList.all (fun b => decide (b.toNat < 128)) = true := by decide +kernel
  intro j b hb
  simpa using List.all_eq_true.1 h b (List.mem_of_getElem? hb)
theorem info9 : (Tryd.prog.info? (Tryd.lays157_ren.t 9)).map (fun i => (i.zero, i.size, i.bytes)) = some (some (.string ByteArray.empty), 1, 16) := by kernel_rfl
set_option maxRecDepth 100000 in
theorem fields_any (w : World) (h : Tab w) : Calls Tryd.prog 103 #[.string wordsS] w fun e w' => e = .returned (.slice (some ⟨w.heap.size, 0, none⟩) 25 25) ∧ w' = w.alloc (.cells (strs wordsL).toArray 9) := by
  have hc := Any.strings_Fields_core Tryd.lays157 info9 wordsS w (by decide +kernel) words_ascii h
  rw [words_fields, words_len] at hc
  exact hc
set_option maxHeartbeats 1000000 in
set_option maxRecDepth 100000 in
theorem words_any (w : World) (h : Tab w) : Calls Tryd.prog 97 #[] w fun e w' => e = .returned (.slice (some ⟨w.heap.size, 0, none⟩) 25 25) ∧ w' = w.alloc (.cells (strs wordsL).toArray 9) := by
  have hf := fields_any w h
  clear h
  generalize (Obj.cells (strs wordsL).toArray 9) = o at *
  have hw : wordsS = ⟨#[97, 110, 100, 32, 97, 110, 121, 32, 97, 115, 32, 98, 111, 111, 108, 32, 101, 108, 115, 101, 32, 101, 120, 112, 111, 114, 116, 32, 102, 97, 108, 115, 101, 32, 102, 110, 32, 102, 117, 110, 99, 116, 105, 111, 110, 32, 105, 102, 32, 105, 109, 112, 111, 114, 116, 32, 105, 110, 32, 105, 110, 116, 32, 105, 115, 32, 108, 101, 116, 32, 110, 111, 116, 32, 110, 117, 108, 108, 32, 111, 114, 32, 112, 114, 105, 110, 116, 32, 114, 101, 97, 100, 32, 114, 101, 99, 111, 114, 100, 32, 115, 116, 114, 32, 116, 104, 101, 110, 32, 116, 114, 117, 101, 32, 119, 105, 116, 104]⟩ := rfl
  rw [hw] at hf
  clear hw
  go_enter Tryd.func97, Tryd.ntmps97
  go_wp2_with (go_at_call 103; refine hf.mono ?_; rintro e w' ⟨rfl, rfl⟩)
  go_ret
  exact ⟨rfl, rfl⟩
def IdxA (w : World) (l : List ByteArray) (s : ByteArray) (n : Nat) (k : Nat) (b : Value) (wr : World) : Prop :=
  ∃ i : Nat, b = .int .i64 i ∧ i ≤ n ∧ k = n - i ∧ (∀ x ∈ l.take i, x ≠ s) ∧ w = wr
set_option maxHeartbeats 1000000 in
theorem index_any {w : World} {X : Nat → Prop} {A : Option Addr} {n c : Nat} {l : List ByteArray} (s : ByteArray) (hb : n ≤ 140737488355328) (h : Rd w X 1 (.slice A n c) n (strs l)) :
    Calls Tryd.prog 75 #[.slice A n c, .string s] w fun e w' => ∃ z : Int, e = .returned (.int .i64 z) ∧ (0 ≤ z ↔ s ∈ l) ∧ (∀ i : Nat, z = i → l[i]? = some s ∧ ∀ x ∈ l.take i, x ≠ s) ∧ w = w' := by
  have hl := h.slen
  have H := Lib.hid h
  have h0 : Hid (IdxA w l s n n (.int .i64 0) w) := ⟨0, rfl, Nat.zero_le _, rfl, by simp, rfl⟩
  clear h
  go_enter Tryd.func75, Tryd.ntmps75
  go_wp2
  go_loopg [8] n (IdxA w l s n)
  case atStart => exact h0.out
  case round =>
    clear h0
    obtain ⟨i, rfl, hi, rfl, ht, rfl⟩ := hrel
    by_cases hlt : i < n
    · obtain ⟨x, hx⟩ : ∃ x, l[i]? = some x := ⟨_, List.getElem?_eq_getElem (by omega)⟩
      obtain ⟨b, o, rfl, hbz, _, c0⟩ := H.out.scell hlt hx
      have HS := Lib.hid (And.intro ht hx)
      clear ht hx
      by_cases he : s = x
      · subst he
        have hd := str_beq s
        go_wp2_with fail
        go_ret
        exact ⟨i, rfl, ⟨fun _ => List.mem_of_getElem? HS.out.2, fun _ => by omega⟩, fun j hj => by
          have : j = i := by omega
          subst this
          exact ⟨HS.out.2, HS.out.1⟩, rfl⟩
      · have hd := str_bne he
        go_wp2_with fail
        go_roundg (n - (i + 1))
        case measure => omega
        case rel =>
          refine ⟨i + 1, by go_num, by omega, rfl, fun y hy => ?_, rfl⟩
          rw [List.take_add_one, HS.out.2] at hy
          rcases List.mem_append.1 hy with hy | hy
          · exact HS.out.1 y hy
          · have : y = x := by simpa using hy
            subst this
            exact fun h => he h.symm
    · rw [List.take_of_length_le (by omega)] at ht
      have HS := Lib.hid ht
      clear ht
      go_wp2_with fail
      go_ret
      exact ⟨-1, rfl, ⟨fun h => by omega, fun h => absurd rfl (HS.out s h)⟩, fun j hj => by omega, rfl⟩
set_option maxHeartbeats 1000000 in
theorem contains_any {w : World} {X : Nat → Prop} {A : Option Addr} {n c : Nat} {l : List ByteArray} (s : ByteArray) (hb : n ≤ 140737488355328) (h : Rd w X 1 (.slice A n c) n (strs l)) :
    Calls Tryd.prog 96 #[.slice A n c, .string s] w fun e w' => e = .returned (.bool (hasS s l)) ∧ w = w' := by
  have hi := index_any s hb h
  clear h
  generalize hr : hasS s l = r
  have HR := Lib.hid hr
  clear hr
  go_enter Tryd.func96, Tryd.ntmps96
  go_wp2_with (go_at_call 75; refine hi.mono ?_; rintro e w' ⟨z, rfl, hz, _, rfl⟩; have HZ := Lib.hid hz; clear hz hi)
  all_goals go_ret
  all_goals refine ⟨ret_bool ?_, rfl⟩
  all_goals rw [← HR.out, Bool.eq_iff_iff, hasS_iff, ← HZ.out]
  all_goals simp
def nameX (s : ByteArray) : Bool := decide (0 < s.size) && (decide (s.size ≤ 32) && ((match s.data.toList with | [] => false | c :: _ => letterN c.toNat) && (s.data.toList.all (fun c => innerN c.toNat) && !hasS s wordsL)))
theorem nameX_eq (s : ByteArray) : nameX s = nameB s := by
  unfold nameX nameB
  have hs : s.size = s.data.toList.length := by simp
  rw [hs]
  cases s.data.toList with
  | nil => simp
  | cons c t => simp [Bool.and_assoc]
set_option maxHeartbeats 2000000 in
set_option maxRecDepth 100000 in
theorem name_any (s : ByteArray) (w : World) (h : Tab w) : Calls Tryd.prog 83 #[.string s] w fun e w' => e = .returned (.bool (nameB s)) ∧ Keep (fun _ => False) w w' := by
  have h1 := words_any w h
  have h2 := contains_any (w := w.alloc (.cells (strs wordsL).toArray 9)) (X := fun _ => False) (A := some ⟨w.heap.size, 0, none⟩) (n := 25) (c := 25) (l := wordsL) s (by decide) ⟨by decide, _, 25, rfl, Nat.le_refl _, fun _ => ⟨w.heap.size, 0, rfl, by simp, fun x => x, fun j _ => by rw [Nat.zero_add, (At.new _ _ _).cell]; simp⟩⟩
  have hk : Keep (fun _ => False) w (w.alloc (.cells (strs wordsL).toArray 9)) := (Keep.refl _ w).alloc _
  have HK := Lib.hid hk
  clear h hk
  generalize (Obj.cells (strs wordsL).toArray 9) = o at *
  rw [← nameX_eq]
  have hsz : s.size = s.data.toList.length := by simp
  by_cases h0 : s.size = 0
  · have hs0 : s = ⟨#[]⟩ := by
      obtain ⟨d⟩ := s
      simp only [ByteArray.size, Array.size_eq_zero_iff] at h0
      rw [h0]
    subst hs0
    have e : nameX ⟨#[]⟩ = false := rfl
    rw [e]
    clear h1 h2 hsz h0 e
    go_enter Tryd.func83, Tryd.ntmps83
    go_wp2_with fail
    go_ret
    exact ⟨rfl, Keep.refl _ _⟩
  · have hpos : 0 < s.size := by omega
    have hne : s ≠ ⟨#[]⟩ := fun e => by subst e; exact h0 rfl
    have hd1 : ¬ s.toList = [] := fun e => hne (str_eq_iff.1 (by rw [e, ByteArray.toList_eq]))
    have hd0 : s.toList.isEmpty = false := by simpa using hd1
    have hL : (match s.data.toList with | [] => false | c :: _ => letterN c.toNat) = letterN (s[0]'hpos).toNat := by
      have := byte_get hpos
      cases hl : s.data.toList with
      | nil => rw [hl] at this; simp at this
      | cons c t => rw [hl] at this; simp at this; rw [this]
    have e : nameX s = (decide (s.size ≤ 32) && (letterN (s[0]'hpos).toNat && (s.data.toList.all (fun c => innerN c.toNat) && !hasS s wordsL))) := by
      unfold nameX
      rw [hL]
      simp [hpos]
    rw [e]
    clear e hL hne h0 hsz
    have h4 := xletter_any (s[0]'hpos).toNat w
    generalize hall : s.data.toList.all (fun c => innerN c.toNat) = al at *
    have hallE := Lib.hid hall
    generalize hwd : hasS s wordsL = wd at *
    clear hwd hall
    by_cases h32 : s.size ≤ 32
    · have h3 := row_any s (by omega) w
      rw [hallE.out] at h3
      have d32 : decide (s.size ≤ 32) = true := by simpa using h32
      have d32' : decide ((s.size : Int) ≤ 32) = true := by simp; omega
      rw [d32, Bool.true_and]
      cases hl : letterN (s[0]'hpos).toNat with
      | false =>
        rw [hl] at h4
        clear hl h1 h2 h3
        go_enter Tryd.func83, Tryd.ntmps83
        go_wp2_with (go_at_call 93; refine h4.mono ?_; rintro e w' ⟨rfl, rfl⟩)
        go_ret
        exact ⟨rfl, Keep.refl _ _⟩
      | true =>
        rw [hl] at h4
        clear hl
        rw [Bool.true_and]
        cases al with
        | false =>
          clear h1 h2
          have h3' := h3.mono (R' := fun e w' => ∃ z : Nat, e = .returned (.int .i64 z) ∧ ((z : Int) == (s.size : Int)) = false ∧ w = w') (by
            rintro e w' ⟨z, rfl, hz, hzi, rfl⟩
            refine ⟨z, rfl, ?_, rfl⟩
            rw [beq_eq_false_iff_ne]
            intro e
            exact absurd (hzi.1 (by omega)) (by decide))
          clear h3
          go_enter Tryd.func83, Tryd.ntmps83
          go_wp2_with (first | (go_at_call 93; refine h4.mono ?_; rintro e w' ⟨rfl, rfl⟩) | (go_at_call 94; refine h3'.mono ?_; rintro e w' ⟨z, rfl, hzd, rfl⟩))
          go_ret
          exact ⟨rfl, Keep.refl _ _⟩
        | true =>
          have h3' := h3.mono (R' := fun e w' => e = .returned (.int .i64 s.size) ∧ w = w') (by
            rintro e w' ⟨z, rfl, hz, hzi, rfl⟩
            exact ⟨by rw [hzi.2 rfl], rfl⟩)
          clear h3
          go_enter Tryd.func83, Tryd.ntmps83
          go_wp2_with (first | (go_at_call 93; refine h4.mono ?_; rintro e w' ⟨rfl, rfl⟩) | (go_at_call 94; refine h3'.mono ?_; rintro e w' ⟨rfl, rfl⟩) | (go_at_call 97; refine h1.mono ?_; rintro e w' ⟨rfl, rfl⟩) | (go_at_call 96; refine h2.mono ?_; rintro e w' ⟨rfl, rfl⟩))
          go_ret
          exact ⟨rfl, HK.out⟩
    · have d32 : decide (s.size ≤ 32) = false := by simpa using h32
      have d32' : decide ((s.size : Int) ≤ 32) = false := by simp; omega
      rw [d32, Bool.false_and]
      clear h1 h2 h4
      go_enter Tryd.func83, Tryd.ntmps83
      go_wp2_with fail
      go_ret
      exact ⟨rfl, Keep.refl _ _⟩
end Go.Proofs.YtbanpohholnkaaaDoor
