/-
  Walks: slices.Index of strings, rel.part.kid. Conditions: as many names as kids.
-/
import Derived.Test.YtbanpohholnkaaaDoorWParts
namespace Go.Proofs.YtbanpohholnkaaaDoor
open Go.RowKit

def IxA (w : World) (l : List ByteArray) (s : ByteArray) (n : Nat) (k : Nat) (b : Value) (wr : World) : Prop :=
  ∃ i : Nat, b = .int .i64 i ∧ i ≤ n ∧ k = n - i ∧ s ∉ l.take i ∧ Keep (fun _ => False) w wr
def IxP (l : List ByteArray) (s : ByteArray) (w : World) (e : Ending) (w' : World) : Prop :=
  ((∃ i : Nat, e = .returned (.int .i64 i) ∧ i < l.length ∧ l[i]? = some s ∧ s ∉ l.take i) ∨ (e = .returned (.int .i64 (-1)) ∧ s ∉ l)) ∧ Keep (fun _ => False) w w'
set_option maxHeartbeats 2000000 in
theorem idx_any {w : World} {X : Nat → Prop} {A : Option Addr} {n c : Nat} {l : List ByteArray} {s : ByteArray} (hb : n ≤ 140737488355328) (h : Rd w X 1 (.slice A n c) n (strs l)) :
    Calls Tryd.prog 75 #[.slice A n c, .string s] w (IxP l s w) := by
  have hl := h.slen
  have HH := Lib.hid h
  have HL := Lib.hid hl
  have h0 : Hid (IxA w l s n n (.int .i64 0) w) := ⟨0, rfl, Nat.zero_le _, rfl, by simp, Keep.refl _ _⟩
  clear h hl
  go_enter Tryd.func75, Tryd.ntmps75
  go_wp2
  go_loopg [8] n (IxA w l s n)
  case atStart => exact h0.out
  case round =>
    clear h0
    obtain ⟨i, rfl, hi, rfl, ht, hk⟩ := hrel
    by_cases hlt : i < n
    · obtain ⟨s', hs'⟩ : ∃ s', l[i]? = some s' := ⟨_, List.getElem?_eq_getElem (by have := HL.out; omega)⟩
      obtain ⟨b, o, rfl, hbz, _, c0⟩ := (HH.out.keep hk (fun _ x => x.elim)).scell hlt hs'
      have HS := Lib.hid (And.intro ht (And.intro hk hs'))
      clear ht hk hs'
      by_cases he : s = s'
      · subst he
        have hd := str_beq s
        go_wp2_with fail
        go_ret
        exact ⟨.inl ⟨i, rfl, by have := HL.out; omega, HS.out.2.2, HS.out.1⟩, HS.out.2.1⟩
      · have hd := str_bne he
        have HE := Lib.hid he
        clear he
        go_wp2_with fail
        go_roundg (n - (i + 1))
        case measure => omega
        case rel =>
          obtain ⟨ht, hk, hs'⟩ := HS.out
          refine ⟨i + 1, by go_num, by omega, rfl, fun hm => ?_, hk⟩
          rw [List.take_add_one, hs'] at hm
          rcases List.mem_append.1 hm with hm | hm
          · exact ht hm
          · exact HE.out (by simpa using hm)
    · have hno : s ∉ l := by
        rw [List.take_of_length_le (by have := HL.out; omega)] at ht
        exact ht
      have HN := Lib.hid (And.intro hno hk)
      clear hno ht hk
      go_wp2_with fail
      go_ret
      exact ⟨.inr ⟨rfl, HN.out.1⟩, HN.out.2⟩
theorem fld_idx {t k : Ty} {s : ByteArray} {i : Nat} (hs : t.names[i]? = some s) (hk : t.kids[i]? = some k) (hn : s ∉ t.names.take i) : fld t s = some k := by
  have hz : (t.names.zip t.kids)[i]? = some (s, k) := List.getElem?_zip_eq_some.2 ⟨hs, hk⟩
  have hf : (t.names.zip t.kids).find? (fun x => decide (x.1 = s)) = some (s, k) := by
    refine List.find?_eq_some_iff_getElem.2 ⟨by simp, i, (List.getElem?_eq_some_iff.1 hz).1, (List.getElem?_eq_some_iff.1 hz).2, fun j hj => ?_⟩
    simp only [Bool.not_eq_true', decide_eq_false_iff_not]
    intro e
    apply hn
    refine List.mem_iff_getElem?.2 ⟨j, ?_⟩
    rw [List.getElem?_take, if_pos hj, ← e]
    have h1 := (List.getElem?_eq_some_iff.1 hs).1
    rw [List.getElem_zip, List.getElem?_eq_getElem (by omega)]
  unfold fld
  rw [hf]
  rfl
theorem fld_out {t : Ty} {s : ByteArray} (h : s ∉ t.names) : fld t s = none := by
  unfold fld
  rw [List.find?_eq_none.2 fun x hx => ?_]
  · rfl
  · have := (List.of_mem_zip hx).1
    simp only [decide_eq_true_eq]
    intro e
    rw [e] at this
    exact h this
set_option maxRecDepth 100000 in
set_option maxHeartbeats 4000000 in
theorem kid_any {w : World} {q : Tv} {m : Bool × Ty} {tag : Int} {s : ByteArray} (hl : m.2.names.length ≤ m.2.kids.length) (h : TyV w nX q m.2) :
    Calls Tryd.prog 57 #[.agg #[.int .i64 tag, .bool m.1, .int .i64 q.k, .string q.nm, .slice q.An q.nn q.cn, .slice q.Ak q.nk q.ck], .string s] w fun e w' => OptP nX (kidT m s) e w' ∧ Keep (fun _ => False) w w' := by
  obtain ⟨k, nm, An, nn, cn, Ak, nk, ck⟩ := q
  obtain ⟨op, t⟩ := m
  simp only at hl h ⊢
  have kw : Keep (fun _ => False) w ((w.alloc (.cells #[.int .i64 tag, .bool op, .int .i64 k, .string nm, .slice An nn cn, .slice Ak nk ck] 65)).alloc (.cells #[.int .i64 0, .string ⟨#[]⟩, .slice none 0 0, .slice none 0 0] 25)) := ((Keep.refl _ w).alloc _).alloc _
  have a0 : At ((w.alloc (.cells #[.int .i64 tag, .bool op, .int .i64 k, .string nm, .slice An nn cn, .slice Ak nk ck] 65)).alloc (.cells #[.int .i64 0, .string ⟨#[]⟩, .slice none 0 0, .slice none 0 0] 25)) w.heap.size 65 #[.int .i64 tag, .bool op, .int .i64 k, .string nm, .slice An nn cn, .slice Ak nk ck] := (At.new _ _ _).alloc _
  have a1 : At ((w.alloc (.cells #[.int .i64 tag, .bool op, .int .i64 k, .string nm, .slice An nn cn, .slice Ak nk ck] 65)).alloc (.cells #[.int .i64 0, .string ⟨#[]⟩, .slice none 0 0, .slice none 0 0] 25)) (w.heap.size + 1) 25 #[.int .i64 0, .string ⟨#[]⟩, .slice none 0 0, .slice none 0 0] := At.new_at (by simp)
  have hn := h.out.2.2.2.1
  have hnl := h.out.2.2.1
  have hnb := h.out.1.2.1
  simp only at hn hnl hnb
  have hx := idx_any (s := s) hnb (hn.keep kw (fun _ x => x.elim))
  have hkk : TyV ((w.alloc (.cells #[.int .i64 tag, .bool op, .int .i64 k, .string nm, .slice An nn cn, .slice Ak nk ck] 65)).alloc (.cells #[.int .i64 0, .string ⟨#[]⟩, .slice none 0 0, .slice none 0 0] 25)) (fun g => g = w.heap.size + 1) ⟨k, nm, An, nn, cn, Ak, nk, ck⟩ t := h.keep kw (fun _ _ x => x.elim) (fun i hi hx => by omega)
  have H := Lib.hid (And.intro kw (And.intro a0 (And.intro a1 hkk)))
  have HL := Lib.hid (And.intro hl hnl)
  clear kw a0 a1 hn hnl hkk hl h
  by_cases hs : s ∈ t.names
  · obtain ⟨v, i, hv, hi, his, hio⟩ : ∃ (v : ByteArray) (i : Nat), v = s ∧ i < t.names.length ∧ t.names[i]? = some s ∧ s ∉ t.names.take i := by
      obtain ⟨j, hj⟩ := List.mem_iff_getElem?.1 hs
      have hf : (t.names.findIdx fun x => decide (x = s)) < t.names.length := List.findIdx_lt_length_of_exists ⟨s, hs, by simp⟩
      refine ⟨s, t.names.findIdx fun x => decide (x = s), rfl, hf, ?_, fun hm => ?_⟩
      · rw [List.getElem?_eq_getElem hf]
        have := List.findIdx_getElem (w := hf)
        simpa using this
      · obtain ⟨l, hl⟩ := List.mem_iff_getElem?.1 hm
        rw [List.getElem?_take] at hl
        split at hl
        · rename_i hlt
          have := List.not_of_lt_findIdx hlt
          have h2 := (List.getElem?_eq_some_iff.1 hl).2
          simp [h2] at this
        · cases hl
    subst hv
    have hx2 := hx.mono (R' := fun e w' => e = .returned (.int .i64 i) ∧ Keep (fun _ => False) ((w.alloc (.cells #[.int .i64 tag, .bool op, .int .i64 k, .string nm, .slice An nn cn, .slice Ak nk ck] 65)).alloc (.cells #[.int .i64 0, .string ⟨#[]⟩, .slice none 0 0, .slice none 0 0] 25)) w') (by
      rintro e w' ⟨⟨j, rfl, hj, hjs, hjo⟩ | ⟨_, hno⟩, hk⟩
      · have : i = j := by
          rcases Nat.lt_trichotomy i j with h | h | h
          · exact absurd (List.mem_iff_getElem?.2 ⟨i, by rw [List.getElem?_take, if_pos h]; exact his⟩) hjo
          · exact h
          · exact absurd (List.mem_iff_getElem?.2 ⟨j, by rw [List.getElem?_take, if_pos h]; exact hjs⟩) hio
        rw [this]
        exact ⟨rfl, hk⟩
      · exact absurd hs hno)
    obtain ⟨kd, hkd⟩ : ∃ kd, t.kids[i]? = some kd := ⟨_, List.getElem?_eq_getElem (by have := HL.out; omega)⟩
    have hyes : kidT (op, t) v = some kd := by unfold kidT; rw [fld_idx his hkd hio]
    have HY := Lib.hid (And.intro hyes hkd)
    have hik : i < nk := by
      obtain ⟨_, _, _, _, rs, h5, _⟩ := H.out.2.2.2.out
      simp only at h5
      have := (List.getElem?_eq_some_iff.1 hkd).1
      omega
    clear hx hs hi his hio hkd hyes
    go_enter Tryd.func57, Tryd.ntmps57
    go_wp2_with (go_at_call 75; refine hx2.mono ?_; rintro e w2 ⟨rfl, hk2⟩; obtain ⟨kd2, ⟨pk, pnm, pAn, pnn, pcn, pAk, pnk, pck⟩, b, o, hkd2, hqv, hAk, hbz, hXb, c0, c1, c2, c3⟩ := (H.out.2.2.2.step hk2).kid (i := i) hik; simp only at c0 c1 c2 c3 hAk; subst hAk; have ax := hk2.at_ H.out.2.1 (fun x => x); obtain ⟨xl, x0, x1, x2, x3, x4, x5⟩ := ax.cells6; have ar := hk2.at_ H.out.2.2.1 (fun x => x); obtain ⟨rl, r0, r1, r2, r3⟩ := ar.tcells; have f0 := ar.frozen 0; have f1 := ar.frozen 1; have f2 := ar.frozen 2; have f3 := ar.frozen 3; have H2 := Lib.hid (And.intro hk2 (And.intro ar (And.intro hkd2 hqv))); clear hk2 ax ar hkd2 hqv hx2 hXb)
    (try simp only [Exit.inBlock, Exit.then])
    refine bodyPost_ret (ret_cell rfl rfl ((((H2.out.2.1.set 0 _).set 1 _).set 2 _).set 3 _)) rfl ?_
    have hs4 := Keep.set4 (Keep.refl (fun g => g = w.heap.size + 1) w2) (.inl rfl) (.int .i64 pk) (.string pnm) (.slice pAn pnn pcn) (.slice pAk pnk pck)
    have he : kd2 = kd := Option.some.inj (H2.out.2.2.1.symm.trans HY.out.2)
    have hyes := HY.out.1
    rw [← he] at hyes
    exact ⟨OptP.yes (r := ⟨pk, pnm, pAn, pnn, pcn, pAk, pnk, pck⟩) hyes (H2.out.2.2.2.keep hs4 (fun _ _ hx => hx) (fun _ _ hx => hx.elim)), (H.out.1.trans H2.out.1 (fun _ _ x => x)).weak hs4 (fun g hg => by omega)⟩
  · have hx2 := hx.mono (R' := fun e w' => e = .returned (.int .i64 (-1)) ∧ Keep (fun _ => False) ((w.alloc (.cells #[.int .i64 tag, .bool op, .int .i64 k, .string nm, .slice An nn cn, .slice Ak nk ck] 65)).alloc (.cells #[.int .i64 0, .string ⟨#[]⟩, .slice none 0 0, .slice none 0 0] 25)) w') (by
      rintro e w' ⟨⟨j, rfl, hj, hjs, hjo⟩ | ⟨he, hno⟩, hk⟩
      · exact absurd (List.mem_of_getElem? hjs) hs
      · exact ⟨he, hk⟩)
    have hno : kidT (op, t) s = if op = true then some ty0 else none := by unfold kidT; rw [fld_out hs]
    have HY := Lib.hid hno
    clear hx hs hno
    go_enter Tryd.func57, Tryd.ntmps57
    go_wp2_with (go_at_call 75; refine hx2.mono ?_; rintro e w2 ⟨rfl, hk2⟩; have ax := hk2.at_ H.out.2.1 (fun x => x); obtain ⟨xl, x0, x1, x2, x3, x4, x5⟩ := ax.cells6; have ar := hk2.at_ H.out.2.2.1 (fun x => x); obtain ⟨rl, r0, r1, r2, r3⟩ := ar.tcells; have f0 := ar.frozen 0; have f1 := ar.frozen 1; have f2 := ar.frozen 2; have f3 := ar.frozen 3; have H2 := Lib.hid (And.intro hk2 ar); clear hk2 ax ar hx2)
    go_region
    all_goals (
      go_wp2_with fail
      (try simp only [Exit.inBlock, Exit.then])
      refine bodyPost_ret (ret_cell rfl rfl (((((H2.out.2.set 0 _).set 1 _).set 2 _).set 3 _).drew)) rfl ?_
      have hkf := ((H.out.1.trans H2.out.1 (fun _ _ x => x)).weak (Keep.set4 (Keep.refl (fun g => g = w.heap.size + 1) w2) (.inl rfl) (.int .i64 0) (.string ⟨#[]⟩) (.slice none 0 0) (.slice none 0 0)) (fun g hg => by omega)).drew
      cases op with
      | true => exact ⟨OptP.yes (r := tv0) HY.out (TyV.zero _ _), hkf⟩
      | false => exact ⟨OptP.no HY.out tv0, hkf⟩)
end Go.Proofs.YtbanpohholnkaaaDoor
