/-
  Walks: the closure of rel.blames. Conditions: normal types.
-/
import Derived.Test.YtbanpohholnkaaaDoorWBelow2
namespace Go.Proofs.YtbanpohholnkaaaDoor
open Go.RowKit

def BlaOk (pos : Bool) (x y : Ty) : Prop := ∀ (w : World) (r r' : Tv), TyV w nX r x → TyV w nX r' y → Calls Tryd.prog 35 #[r.val, r'.val, .bool pos] w fun e w' => e = .returned (.bool (blamesT pos x y)) ∧ Keep (fun _ => False) w w'
/-- A part, of any too. -/
structure PrtW (tag : Nat) (m : Bool × Ty) : Prop where
  nlek : m.2.names.length ≤ m.2.kids.length
  len : tag ≠ 5 → m.2.names.length = m.2.kids.length
  fun_ : tag = 5 → ∃ x y, m.2.kids = [x, y]
  zip : tag ≠ 5 → ∀ x ∈ m.2.names.zip m.2.kids, kidT m x.1 = some x.2
  opn : m.1 = true → m.2.names = []
  nf : ∀ k ∈ m.2.kids, NF k
theorem prt_w {t : Ty} {tag : Nat} {m : Bool × Ty} (h : NF t) (ht : tag < 6) (hp : prt t tag = some m) : PrtW tag m := by
  by_cases h0 : t.kind = 0
  · rw [prt_any tag h0] at hp
    simp only [Option.some.injEq] at hp
    subst hp
    by_cases h5 : tag = 5
    · subst h5
      exact ⟨by decide, fun h => absurd rfl h, fun _ => ⟨ty0, ty0, rfl⟩, fun h => absurd rfl h, fun _ => rfl, fun k hk => by
        have : k = ty0 := by simpa [anyP, Ty.kids] using hk
        rw [this]; exact nf_0⟩
    · have e : anyP tag = .mk ((tag : Int) + 1) ⟨#[]⟩ [] [] := by unfold anyP; rw [if_neg h5]
      rw [e]
      exact ⟨by simp [Ty.names, Ty.kids], fun _ => rfl, fun h => absurd h h5, fun _ x hx => by simp [Ty.names] at hx, fun _ => rfl, fun k hk => by simp [Ty.kids] at hk⟩
  · have hP := prt_prt h h0 hp
    refine ⟨?_, fun h5 => hP.len (by omega), fun h5 => ?_, fun h5 x hx => ?_, fun ho => ?_, fun k hk => hP.nf.kid k hk⟩
    · by_cases h5 : tag = 5
      · rw [(hP.fun_ h5).1]; exact Nat.zero_le _
      · exact Nat.le_of_eq (hP.len (by omega))
    · obtain ⟨_, x, y, h1, _⟩ := hP.fun_ h5
      exact ⟨x, y, h1⟩
    · rw [kidT_shut hP.shut]
      by_cases h4 : tag = 4
      · obtain ⟨h1, h2, _⟩ := hP.recd h4
        exact fld_zip h2 h1 hx
      · rw [(hP.base (by omega)).1] at hx
        simp at hx
    · rw [hP.shut] at ho
      cases ho
theorem bla_lt {a b : Ty} (hab : ¬ (a.kind = 0 ∧ b.kind = 0)) {tag : Nat} {m p : Bool × Ty} (hm : prt a tag = some m) (hp : prt b tag = some p) (x y : Ty) (hx : x ∈ m.2.kids ∨ (m.1 = true ∧ x = ty0)) (hy : y ∈ p.2.kids ∨ (p.1 = true ∧ y = ty0)) : x.size + y.size < a.size + b.size := by
  have sa := a.size_pos
  have sb := b.size_pos
  have km : x.size ≤ a.size ∧ (a.kind ≠ 0 → x.size < a.size) := by
    rcases hx with hk | ⟨ho, rfl⟩
    · rcases prt_small hm with h1 | ⟨h1, h2, _⟩
      · have := h1 x hk
        exact ⟨by omega, fun _ => this⟩
      · rw [h2 x hk, size_ty0]
        exact ⟨sa, fun h => absurd h1 h⟩
    · rw [size_ty0]
      exact ⟨sa, fun h => absurd (prt_open hm ho) h⟩
  have kp : y.size ≤ b.size ∧ (b.kind ≠ 0 → y.size < b.size) := by
    rcases hy with hk | ⟨ho, rfl⟩
    · rcases prt_small hp with h1 | ⟨h1, h2, _⟩
      · have := h1 y hk
        exact ⟨by omega, fun _ => this⟩
      · rw [h2 y hk, size_ty0]
        exact ⟨sb, fun h => absurd h1 h⟩
    · rw [size_ty0]
      exact ⟨sb, fun h => absurd (prt_open hp ho) h⟩
  by_cases h0 : a.kind = 0
  · have := kp.2 fun hb => hab ⟨h0, hb⟩
    omega
  · have := km.2 h0
    omega
def blaL (m p : Bool × Ty) : List Ft := if p.1 = true then m.2.names.map fun s => (s, ty0) else p.2.names.zip p.2.kids
def blaItem (f : Bool → Ty → Ty → Bool) (pos : Bool) (m : Bool × Ty) (x : Ft) : Bool := match kidT m x.1 with | some k => !(pos && m.1) && f pos k x.2 | none => !pos
theorem blaP_loop {f : Bool → Ty → Ty → Bool} {pos : Bool} {tag : Nat} {m p : Bool × Ty} (h : tag ≠ 5) : blaP f pos tag m p = allz (blaItem f pos m) (blaL m p) := by
  unfold blaP
  rw [if_neg h]
  rfl
theorem blaP_bad {f : Bool → Ty → Ty → Bool} {pos : Bool} {tag : Nat} {m p : Bool × Ty} {x : Ft} (h5 : tag ≠ 5) (hx : x ∈ blaL m p) (h : blaItem f pos m x = false) : blaP f pos tag m p = false := by
  rw [blaP_loop h5]
  cases ha : allz (blaItem f pos m) (blaL m p) with
  | false => rfl
  | true =>
    rw [allz_iff.1 ha x hx] at h
    cases h
theorem blaL_kid {tag : Nat} {m p : Bool × Ty} (h5 : tag ≠ 5) (hP : PrtW tag p) {x : Ft} (hx : x ∈ blaL m p) : kidT p x.1 = some x.2 ∧ (x.2 ∈ p.2.kids ∨ (p.1 = true ∧ x.2 = ty0)) := by
  unfold blaL at hx
  split at hx
  · rename_i ho
    obtain ⟨s, _, rfl⟩ := List.mem_map.1 hx
    have hno : s ∉ p.2.names := by rw [hP.opn ho]; simp
    refine ⟨?_, .inr ⟨ho, rfl⟩⟩
    unfold kidT
    rw [fld_out hno, if_pos ho]
  · exact ⟨hP.zip h5 x hx, .inl (List.of_mem_zip hx).2⟩
theorem blaL_names {tag : Nat} {m p : Bool × Ty} (h5 : tag ≠ 5) (hP : PrtW tag p) : (blaL m p).map (·.1) = if p.1 = true then m.2.names else p.2.names := by
  unfold blaL
  split
  · simp [Function.comp_def]
  · exact zip_fst (hP.len h5)
def BlA (w : World) (f : Bool → Ty → Ty → Bool) (pos : Bool) (m p : Bool × Ty) (n : Nat) (k : Nat) (v : Value) (wr : World) : Prop :=
  ∃ i : Nat, v = .int .i64 i ∧ i ≤ n ∧ k = n - i ∧ (∀ x ∈ (blaL m p).take i, blaItem f pos m x = true) ∧ Keep (fun _ => False) w wr
theorem take_more {l : List Ft} {f : Ft → Bool} {i : Nat} {x : Ft} (h : ∀ y ∈ l.take i, f y = true) (hx : l[i]? = some x) (hf : f x = true) : ∀ y ∈ l.take (i + 1), f y = true := fun y hy => by
  rw [List.take_add_one, hx] at hy
  rcases List.mem_append.1 hy with hy | hy
  · exact h y hy
  · have : y = x := by simpa using hy
    rw [this]
    exact hf
set_option maxRecDepth 100000 in
set_option maxHeartbeats 8000000 in
theorem bla1_fun {tag : Nat} {mo po : Bool} {mt pt : Ty} {pos : Bool} {w : World} {bm bp cb : Nat} (h5 : tag = 5) (hM : PrtW tag (mo, mt)) (hP : PrtW tag (po, pt)) (hpm : PartAt w nX bm tag (mo, mt)) (hpp : PartAt w nX bp tag (po, pt)) (hc : At w cb 4 #[.bool pos])
    (ih : ∀ q x y, (x ∈ mt.kids ∨ (mo = true ∧ x = ty0)) → (y ∈ pt.kids ∨ (po = true ∧ y = ty0)) → BlaOk q x y) (ih' : ∀ q x y, (x ∈ mt.kids ∨ (mo = true ∧ x = ty0)) → (y ∈ pt.kids ∨ (po = true ∧ y = ty0)) → BlaOk q y x) :
    Calls Tryd.prog 58 #[.pointer (some ⟨bm, 0, none⟩), .pointer (some ⟨bp, 0, none⟩), .pointer (some ⟨cb, 0, none⟩)] w fun e w' => e = .returned (.bool (blaP blamesT pos tag (mo, mt) (po, pt))) ∧ Keep (fun _ => False) w w' := by
  subst h5
  obtain ⟨⟨mk, mnm, mAn, mnn, mcn, mAk, mnk, mck⟩, hmA, hmV⟩ := hpm
  obtain ⟨⟨pk, pnm, pAn, pnn, pcn, pAk, pnk, pck⟩, hpA, hpV⟩ := hpp
  simp only at hmA hpA hmV hpV
  obtain ⟨ma, mb, hmk⟩ := hM.fun_ rfl
  obtain ⟨pa, pb, hpk⟩ := hP.fun_ rfl
  simp only at hmk hpk
  obtain ⟨⟨uk, unm, uAn, unn, ucn, uAk, unk, uck⟩, ⟨vk, vnm, vAn, vnn, vcn, vAk, vnk, vck⟩, mkb, mko, hmAk, hmn2, huV, hvV, hmz, ⟨u0, u1, u2, u3⟩, v0, v1, v2, v3⟩ := hmV.kids2 hmk
  obtain ⟨⟨sk, snm, sAn, snn, scn, sAk, snk, sck⟩, ⟨tk, tnm, tAn, tnn, tcn, tAk, tnk, tck⟩, pkb, pko, hpAk, hpn2, hsV, htV, hpz, ⟨s0, s1, s2, s3⟩, t0, t1, t2, t3⟩ := hpV.kids2 hpk
  simp only at hmAk hmn2 hpAk hpn2 u0 u1 u2 u3 v0 v1 v2 v3 s0 s1 s2 s3 t0 t1 t2 t3
  subst hmAk hmn2 hpAk hpn2
  have hfu : blaP blamesT pos 5 (mo, mt) (po, pt) = (blamesT (!pos) pa ma && blamesT pos mb pb) := by unfold blaP; simp only [hmk, hpk]; rfl
  have ihA := ih' (!pos) ma pa (.inl (by rw [hmk]; simp)) (.inl (by rw [hpk]; simp))
  have ihB := ih pos mb pb (.inl (by rw [hmk]; simp)) (.inl (by rw [hpk]; simp))
  have hsk : Hid (∀ w', Keep (fun _ => False) w w' → ((bm < w'.heap.size ∧ bp < w'.heap.size ∧ cb < w'.heap.size) ∧ (mkb < w'.heap.size ∧ pkb < w'.heap.size)) ∧ (w'.cell? ⟨bp, 5, none⟩ = some (.slice (some ⟨pkb, pko, none⟩) 2 pck) ∧ w'.cell? ⟨bm, 5, none⟩ = some (.slice (some ⟨mkb, mko, none⟩) 2 mck) ∧ w'.cell? ⟨cb, 0, none⟩ = some (.bool pos)) ∧ (w'.cell? ⟨pkb, pko, none⟩ = some (.int .i64 sk) ∧ w'.cell? ⟨pkb, pko + 1, none⟩ = some (.string snm) ∧ w'.cell? ⟨pkb, pko + 2, none⟩ = some (.slice sAn snn scn) ∧ w'.cell? ⟨pkb, pko + 3, none⟩ = some (.slice sAk snk sck)) ∧ (w'.cell? ⟨pkb, pko + 4, none⟩ = some (.int .i64 tk) ∧ w'.cell? ⟨pkb, pko + 4 + 1, none⟩ = some (.string tnm) ∧ w'.cell? ⟨pkb, pko + 4 + 2, none⟩ = some (.slice tAn tnn tcn) ∧ w'.cell? ⟨pkb, pko + 4 + 3, none⟩ = some (.slice tAk tnk tck)) ∧ (w'.cell? ⟨mkb, mko, none⟩ = some (.int .i64 uk) ∧ w'.cell? ⟨mkb, mko + 1, none⟩ = some (.string unm) ∧ w'.cell? ⟨mkb, mko + 2, none⟩ = some (.slice uAn unn ucn) ∧ w'.cell? ⟨mkb, mko + 3, none⟩ = some (.slice uAk unk uck)) ∧ (w'.cell? ⟨mkb, mko + 4, none⟩ = some (.int .i64 vk) ∧ w'.cell? ⟨mkb, mko + 4 + 1, none⟩ = some (.string vnm) ∧ w'.cell? ⟨mkb, mko + 4 + 2, none⟩ = some (.slice vAn vnn vcn) ∧ w'.cell? ⟨mkb, mko + 4 + 3, none⟩ = some (.slice vAk vnk vck))) := fun w' hk' => ⟨⟨⟨(hk'.at_ hmA (fun x => x)).lt, (hk'.at_ hpA (fun x => x)).lt, (hk'.at_ hc (fun x => x)).lt⟩, Nat.lt_of_lt_of_le hmz hk'.size, Nat.lt_of_lt_of_le hpz hk'.size⟩, ⟨(hk'.at_ hpA (fun x => x)).cell 5, (hk'.at_ hmA (fun x => x)).cell 5, (hk'.at_ hc (fun x => x)).cell 0⟩, ⟨hk'.cell s0 (fun x => x), hk'.cell s1 (fun x => x), hk'.cell s2 (fun x => x), hk'.cell s3 (fun x => x)⟩, ⟨hk'.cell t0 (fun x => x), hk'.cell t1 (fun x => x), hk'.cell t2 (fun x => x), hk'.cell t3 (fun x => x)⟩, ⟨hk'.cell u0 (fun x => x), hk'.cell u1 (fun x => x), hk'.cell u2 (fun x => x), hk'.cell u3 (fun x => x)⟩, hk'.cell v0 (fun x => x), hk'.cell v1 (fun x => x), hk'.cell v2 (fun x => x), hk'.cell v3 (fun x => x)⟩
  have kd3 : Hid (Keep (fun _ => False) w w.drew) := (Keep.refl _ _).drew
  have hcA := ihA w.drew ⟨sk, snm, sAn, snn, scn, sAk, snk, sck⟩ ⟨uk, unm, uAn, unn, ucn, uAk, unk, uck⟩ (hsV.step kd3.out) (huV.step kd3.out)
  have hcB := fun (w' : World) (hk' : Keep (fun _ => False) w w') => ihB w' ⟨vk, vnm, vAn, vnn, vcn, vAk, vnk, vck⟩ ⟨tk, tnm, tAn, tnn, tcn, tAk, tnk, tck⟩ (hvV.step hk') (htV.step hk')
  unfold Tv.val at hcA hcB
  simp only at hcA hcB
  have pl : bp < w.heap.size := hpA.lt
  have p0 : w.cell? ⟨bp, 0, none⟩ = some (.int .i64 5) := hpA.cell 0
  have HE := Lib.hid hfu
  clear hM hP hmA hpA hmV hpV hc ih ih' hmk hpk huV hvV hsV htV hmz hpz u0 u1 u2 u3 v0 v1 v2 v3 s0 s1 s2 s3 t0 t1 t2 t3 hfu ihA ihB
  go_enter Tryd.func58, Tryd.ntmps58
  go_wp2_with fail
  clear pl p0
  cases hv1 : blamesT (!pos) pa ma
  all_goals rw [hv1] at hcA HE
  all_goals clear hv1
  · clear hcB
    · skip
      refine wp_region_held_n (S := fun w' => ((bm < w'.heap.size ∧ bp < w'.heap.size ∧ cb < w'.heap.size) ∧ (mkb < w'.heap.size ∧ pkb < w'.heap.size)) ∧ (w'.cell? ⟨bp, 5, none⟩ = some (.slice (some ⟨pkb, pko, none⟩) 2 pck) ∧ w'.cell? ⟨bm, 5, none⟩ = some (.slice (some ⟨mkb, mko, none⟩) 2 mck) ∧ w'.cell? ⟨cb, 0, none⟩ = some (.bool pos)) ∧ (w'.cell? ⟨pkb, pko, none⟩ = some (.int .i64 sk) ∧ w'.cell? ⟨pkb, pko + 1, none⟩ = some (.string snm) ∧ w'.cell? ⟨pkb, pko + 2, none⟩ = some (.slice sAn snn scn) ∧ w'.cell? ⟨pkb, pko + 3, none⟩ = some (.slice sAk snk sck)) ∧ (w'.cell? ⟨pkb, pko + 4, none⟩ = some (.int .i64 tk) ∧ w'.cell? ⟨pkb, pko + 4 + 1, none⟩ = some (.string tnm) ∧ w'.cell? ⟨pkb, pko + 4 + 2, none⟩ = some (.slice tAn tnn tcn) ∧ w'.cell? ⟨pkb, pko + 4 + 3, none⟩ = some (.slice tAk tnk tck)) ∧ (w'.cell? ⟨mkb, mko, none⟩ = some (.int .i64 uk) ∧ w'.cell? ⟨mkb, mko + 1, none⟩ = some (.string unm) ∧ w'.cell? ⟨mkb, mko + 2, none⟩ = some (.slice uAn unn ucn) ∧ w'.cell? ⟨mkb, mko + 3, none⟩ = some (.slice uAk unk uck)) ∧ (w'.cell? ⟨mkb, mko + 4, none⟩ = some (.int .i64 vk) ∧ w'.cell? ⟨mkb, mko + 4 + 1, none⟩ = some (.string vnm) ∧ w'.cell? ⟨mkb, mko + 4 + 2, none⟩ = some (.slice vAn vnn vcn) ∧ w'.cell? ⟨mkb, mko + 4 + 3, none⟩ = some (.slice vAk vnk vck))) 36 rfl (by kernel_rfl) ?_ (fun hHeld => ?_)
      · exact hsk.out _ kd3.out
      refine' wpAnyH_tk (i := 0) (v := _) rfl (by kernel_rfl) (by decide +kernel) (by decide +kernel) (fun _ _ _ h => h) (Or.inl ⟨by rfl, ?_⟩) (by assumption) ?_
      rotate_left
      · (intro w hSw; (try dsimp only at hSw); (try go_simp); (try (with_reducible rfl)))
      (try simp only [Act.put, List.setIfInBounds_toArray, List.set_cons_zero, List.set_cons_succ])
      refine' wpAnyH_tk (i := 1) (v := _) rfl (by kernel_rfl) (by decide +kernel) (by decide +kernel) (fun _ _ _ h => h) (Or.inl ⟨by rfl, ?_⟩) (by assumption) ?_
      rotate_left
      · (intro w hSw; (try dsimp only at hSw); (try go_simp); (try (with_reducible rfl)))
      (try simp only [Act.put, List.setIfInBounds_toArray, List.set_cons_zero, List.set_cons_succ])
      refine' wpAnyH_tk (i := 2) (v := _) rfl (by kernel_rfl) (by decide +kernel) (by decide +kernel) (fun _ _ _ h => h) (Or.inl ⟨by rfl, ?_⟩) (by assumption) ?_
      rotate_left
      · (intro w hSw; (try dsimp only at hSw); (try go_simp); (try (with_reducible rfl)))
      (try simp only [Act.put, List.setIfInBounds_toArray, List.set_cons_zero, List.set_cons_succ])
      refine' wpAnyH_tk (i := 3) (v := _) rfl (by kernel_rfl) (by decide +kernel) (by decide +kernel) (fun _ _ _ h => h) (Or.inl ⟨by rfl, ?_⟩) (by assumption) ?_
      rotate_left
      · (intro w hSw; (try dsimp only at hSw); (try go_simp); (try (with_reducible rfl)))
      (try simp only [Act.put, List.setIfInBounds_toArray, List.set_cons_zero, List.set_cons_succ])
      refine' wpAnyH_tk (i := 4) (v := _) rfl (by kernel_rfl) (by decide +kernel) (by decide +kernel) (fun _ _ _ h => h) (Or.inl ⟨by rfl, ?_⟩) (by assumption) ?_
      rotate_left
      · (intro w hSw; (try dsimp only at hSw); (try go_simp); (try (with_reducible rfl)))
      (try simp only [Act.put, List.setIfInBounds_toArray, List.set_cons_zero, List.set_cons_succ])
      refine' wpAnyH_tk (i := 5) (v := _) rfl (by kernel_rfl) (by decide +kernel) (by decide +kernel) (fun _ _ _ h => h) (Or.inl ⟨by rfl, ?_⟩) (by assumption) ?_
      rotate_left
      · (intro w hSw; (try dsimp only at hSw); (try go_simp); (try (with_reducible rfl)))
      (try simp only [Act.put, List.setIfInBounds_toArray, List.set_cons_zero, List.set_cons_succ])
      refine' wpAnyH_tk (i := 6) (v := _) rfl (by kernel_rfl) (by decide +kernel) (by decide +kernel) (fun _ _ _ h => h) (Or.inl ⟨by rfl, ?_⟩) (by assumption) ?_
      rotate_left
      · (intro w hSw; (try dsimp only at hSw); (try go_simp); (try (with_reducible rfl)))
      (try simp only [Act.put, List.setIfInBounds_toArray, List.set_cons_zero, List.set_cons_succ])
      refine' wpAnyH_tk (i := 7) (v := _) rfl (by kernel_rfl) (by decide +kernel) (by decide +kernel) (fun _ _ _ h => h) (Or.inl ⟨by rfl, ?_⟩) (by assumption) ?_
      rotate_left
      · (intro w hSw; (try dsimp only at hSw); (try go_simp); (try (with_reducible rfl)))
      (try simp only [Act.put, List.setIfInBounds_toArray, List.set_cons_zero, List.set_cons_succ])
      refine' wpAnyH_tk (i := 8) (v := _) rfl (by kernel_rfl) (by decide +kernel) (by decide +kernel) (fun _ _ _ h => h) (Or.inl ⟨by rfl, ?_⟩) (by assumption) ?_
      rotate_left
      · (intro w hSw; (try dsimp only at hSw); (try go_simp); (try (with_reducible rfl)))
      (try simp only [Act.put, List.setIfInBounds_toArray, List.set_cons_zero, List.set_cons_succ])
      refine' wpAnyH_tk (i := 9) (v := _) rfl (by kernel_rfl) (by decide +kernel) (by decide +kernel) (fun _ _ _ h => h) (Or.inl ⟨by rfl, ?_⟩) (by assumption) ?_
      rotate_left
      · (intro w hSw; (try dsimp only at hSw); (try go_simp); (try (with_reducible rfl)))
      (try simp only [Act.put, List.setIfInBounds_toArray, List.set_cons_zero, List.set_cons_succ])
      refine' wpAnyH_tk (i := 10) (v := _) rfl (by kernel_rfl) (by decide +kernel) (by decide +kernel) (fun _ _ _ h => h) (Or.inl ⟨by rfl, ?_⟩) (by assumption) ?_
      rotate_left
      · (intro w hSw; (try dsimp only at hSw); (try go_simp); (try (with_reducible rfl)))
      (try simp only [Act.put, List.setIfInBounds_toArray, List.set_cons_zero, List.set_cons_succ])
      refine' wpAnyH_tk (i := 11) (v := _) rfl (by kernel_rfl) (by decide +kernel) (by decide +kernel) (fun _ _ _ h => h) (Or.inl ⟨by rfl, ?_⟩) (by assumption) ?_
      rotate_left
      · (intro w hSw; (try dsimp only at hSw); (try go_simp); (try (with_reducible rfl)))
      (try simp only [Act.put, List.setIfInBounds_toArray, List.set_cons_zero, List.set_cons_succ])
      refine' wpAnyH_tk (i := 12) (v := _) rfl (by kernel_rfl) (by decide +kernel) (by decide +kernel) (fun _ _ _ h => h) (Or.inl ⟨by rfl, ?_⟩) (by assumption) ?_
      rotate_left
      · (intro w hSw; (try dsimp only at hSw); (try go_simp); (try (with_reducible rfl)))
      (try simp only [Act.put, List.setIfInBounds_toArray, List.set_cons_zero, List.set_cons_succ])
      refine' wpAnyH_tk (i := 13) (v := _) rfl (by kernel_rfl) (by decide +kernel) (by decide +kernel) (fun _ _ _ h => h) (Or.inl ⟨by rfl, ?_⟩) (by assumption) ?_
      rotate_left
      · (intro w hSw; (try dsimp only at hSw); (try go_simp); (try (with_reducible rfl)))
      (try simp only [Act.put, List.setIfInBounds_toArray, List.set_cons_zero, List.set_cons_succ])
      refine' wpAnyH_tk (i := 14) (v := _) rfl (by kernel_rfl) (by decide +kernel) (by decide +kernel) (fun _ _ _ h => h) (Or.inl ⟨by rfl, ?_⟩) (by assumption) ?_
      rotate_left
      · (intro w hSw; (try dsimp only at hSw); (try go_simp); (try (with_reducible rfl)))
      (try simp only [Act.put, List.setIfInBounds_toArray, List.set_cons_zero, List.set_cons_succ])
      refine' wpAnyH_tk (i := 15) (v := _) rfl (by kernel_rfl) (by decide +kernel) (by decide +kernel) (fun _ _ _ h => h) (Or.inl ⟨by rfl, ?_⟩) (by assumption) ?_
      rotate_left
      · (intro w hSw; (try dsimp only at hSw); (try go_simp); (try (with_reducible rfl)))
      (try simp only [Act.put, List.setIfInBounds_toArray, List.set_cons_zero, List.set_cons_succ])
      refine wpAnyH_ready (rs := [16]) (by decide +kernel) (by simp) ?_
      refine AllReadyH_one rfl (fun K hK => ?_)
      go_simp
      go_at_call 35
      refine hcA.mono ?_
      rintro e w4 ⟨rfl, hk4⟩
      have KA := Lib.hid (kd3.out.trans hk4 (fun _ _ x => x))
      clear hk4 hcA
      refine hK.out _ _ ?_ (fun hHeld => ?_)
      · exact hsk.out _ KA.out
      clear hK K
      (try simp only [Act.put, List.setIfInBounds_toArray, List.set_cons_zero, List.set_cons_succ])
      refine' wpAnyH_tk (i := 17) (v := _) rfl (by kernel_rfl) (by decide +kernel) (by decide +kernel) (fun _ _ _ h => h) (Or.inl ⟨by rfl, ?_⟩) (by assumption) ?_
      rotate_left
      · (intro w hSw; (try dsimp only at hSw); (try go_simp); (try (with_reducible rfl)))
      (try simp only [Act.put, List.setIfInBounds_toArray, List.set_cons_zero, List.set_cons_succ])
      refine wpAnyH_tk (i := 18) (v := undef) rfl (by kernel_rfl) (by decide +kernel) (by decide +kernel) (fun _ _ _ h => h) (Or.inr ⟨by rfl, rfl⟩) (by assumption) ?_
      (try simp only [Act.put, List.setIfInBounds_toArray, List.set_cons_zero, List.set_cons_succ])
      refine wpAnyH_tk (i := 19) (v := undef) rfl (by kernel_rfl) (by decide +kernel) (by decide +kernel) (fun _ _ _ h => h) (Or.inr ⟨by rfl, rfl⟩) (by assumption) ?_
      (try simp only [Act.put, List.setIfInBounds_toArray, List.set_cons_zero, List.set_cons_succ])
      refine wpAnyH_tk (i := 20) (v := undef) rfl (by kernel_rfl) (by decide +kernel) (by decide +kernel) (fun _ _ _ h => h) (Or.inr ⟨by rfl, rfl⟩) (by assumption) ?_
      (try simp only [Act.put, List.setIfInBounds_toArray, List.set_cons_zero, List.set_cons_succ])
      refine wpAnyH_tk (i := 21) (v := undef) rfl (by kernel_rfl) (by decide +kernel) (by decide +kernel) (fun _ _ _ h => h) (Or.inr ⟨by rfl, rfl⟩) (by assumption) ?_
      (try simp only [Act.put, List.setIfInBounds_toArray, List.set_cons_zero, List.set_cons_succ])
      refine wpAnyH_tk (i := 22) (v := undef) rfl (by kernel_rfl) (by decide +kernel) (by decide +kernel) (fun _ _ _ h => h) (Or.inr ⟨by rfl, rfl⟩) (by assumption) ?_
      (try simp only [Act.put, List.setIfInBounds_toArray, List.set_cons_zero, List.set_cons_succ])
      refine wpAnyH_tk (i := 23) (v := undef) rfl (by kernel_rfl) (by decide +kernel) (by decide +kernel) (fun _ _ _ h => h) (Or.inr ⟨by rfl, rfl⟩) (by assumption) ?_
      (try simp only [Act.put, List.setIfInBounds_toArray, List.set_cons_zero, List.set_cons_succ])
      refine wpAnyH_tk (i := 24) (v := undef) rfl (by kernel_rfl) (by decide +kernel) (by decide +kernel) (fun _ _ _ h => h) (Or.inr ⟨by rfl, rfl⟩) (by assumption) ?_
      (try simp only [Act.put, List.setIfInBounds_toArray, List.set_cons_zero, List.set_cons_succ])
      refine wpAnyH_tk (i := 25) (v := undef) rfl (by kernel_rfl) (by decide +kernel) (by decide +kernel) (fun _ _ _ h => h) (Or.inr ⟨by rfl, rfl⟩) (by assumption) ?_
      (try simp only [Act.put, List.setIfInBounds_toArray, List.set_cons_zero, List.set_cons_succ])
      refine wpAnyH_tk (i := 26) (v := undef) rfl (by kernel_rfl) (by decide +kernel) (by decide +kernel) (fun _ _ _ h => h) (Or.inr ⟨by rfl, rfl⟩) (by assumption) ?_
      (try simp only [Act.put, List.setIfInBounds_toArray, List.set_cons_zero, List.set_cons_succ])
      refine wpAnyH_tk (i := 27) (v := undef) rfl (by kernel_rfl) (by decide +kernel) (by decide +kernel) (fun _ _ _ h => h) (Or.inr ⟨by rfl, rfl⟩) (by assumption) ?_
      (try simp only [Act.put, List.setIfInBounds_toArray, List.set_cons_zero, List.set_cons_succ])
      refine wpAnyH_tk (i := 28) (v := undef) rfl (by kernel_rfl) (by decide +kernel) (by decide +kernel) (fun _ _ _ h => h) (Or.inr ⟨by rfl, rfl⟩) (by assumption) ?_
      (try simp only [Act.put, List.setIfInBounds_toArray, List.set_cons_zero, List.set_cons_succ])
      refine wpAnyH_tk (i := 29) (v := undef) rfl (by kernel_rfl) (by decide +kernel) (by decide +kernel) (fun _ _ _ h => h) (Or.inr ⟨by rfl, rfl⟩) (by assumption) ?_
      (try simp only [Act.put, List.setIfInBounds_toArray, List.set_cons_zero, List.set_cons_succ])
      refine wpAnyH_tk (i := 30) (v := undef) rfl (by kernel_rfl) (by decide +kernel) (by decide +kernel) (fun _ _ _ h => h) (Or.inr ⟨by rfl, rfl⟩) (by assumption) ?_
      (try simp only [Act.put, List.setIfInBounds_toArray, List.set_cons_zero, List.set_cons_succ])
      refine wpAnyH_tk (i := 31) (v := undef) rfl (by kernel_rfl) (by decide +kernel) (by decide +kernel) (fun _ _ _ h => h) (Or.inr ⟨by rfl, rfl⟩) (by assumption) ?_
      (try simp only [Act.put, List.setIfInBounds_toArray, List.set_cons_zero, List.set_cons_succ])
      refine wpAnyH_tk (i := 32) (v := undef) rfl (by kernel_rfl) (by decide +kernel) (by decide +kernel) (fun _ _ _ h => h) (Or.inr ⟨by rfl, rfl⟩) (by assumption) ?_
      (try simp only [Act.put, List.setIfInBounds_toArray, List.set_cons_zero, List.set_cons_succ])
      refine wpAnyH_tk (i := 33) (v := undef) rfl (by kernel_rfl) (by decide +kernel) (by decide +kernel) (fun _ _ _ h => h) (Or.inr ⟨by rfl, rfl⟩) (by assumption) ?_
      (try simp only [Act.put, List.setIfInBounds_toArray, List.set_cons_zero, List.set_cons_succ])
      refine' wpAnyH_tk (i := 34) (v := _) rfl (by kernel_rfl) (by decide +kernel) (by decide +kernel) (fun _ _ _ h => h) (Or.inl ⟨by rfl, ?_⟩) (by assumption) ?_
      rotate_left
      · (intro w hSw; (try dsimp only at hSw); (try go_simp); (try (with_reducible rfl)))
      (try simp only [Act.put, List.setIfInBounds_toArray, List.set_cons_zero, List.set_cons_succ])
      refine' wpAnyH_tk (i := 35) (v := _) rfl (by kernel_rfl) (by decide +kernel) (by decide +kernel) (fun _ _ _ h => h) (Or.inl ⟨by rfl, ?_⟩) (by assumption) ?_
      rotate_left
      · (intro w hSw; (try dsimp only at hSw); (try go_simp); (try (with_reducible rfl)))
      (try simp only [Act.put, List.setIfInBounds_toArray, List.set_cons_zero, List.set_cons_succ])
      refine wpAnyH_done (by decide +kernel) ?_ _
      go_wp2_with fail
      go_ret
      exact ⟨ret_bool HE.out.symm, KA.out⟩
  · cases hv2 : blamesT pos mb pb
    all_goals rw [hv2] at hcB HE
    all_goals clear hv2
    all_goals have HCB := Lib.hid hcB
    all_goals clear hcB
    · · skip
        refine wp_region_held_n (S := fun w' => ((bm < w'.heap.size ∧ bp < w'.heap.size ∧ cb < w'.heap.size) ∧ (mkb < w'.heap.size ∧ pkb < w'.heap.size)) ∧ (w'.cell? ⟨bp, 5, none⟩ = some (.slice (some ⟨pkb, pko, none⟩) 2 pck) ∧ w'.cell? ⟨bm, 5, none⟩ = some (.slice (some ⟨mkb, mko, none⟩) 2 mck) ∧ w'.cell? ⟨cb, 0, none⟩ = some (.bool pos)) ∧ (w'.cell? ⟨pkb, pko, none⟩ = some (.int .i64 sk) ∧ w'.cell? ⟨pkb, pko + 1, none⟩ = some (.string snm) ∧ w'.cell? ⟨pkb, pko + 2, none⟩ = some (.slice sAn snn scn) ∧ w'.cell? ⟨pkb, pko + 3, none⟩ = some (.slice sAk snk sck)) ∧ (w'.cell? ⟨pkb, pko + 4, none⟩ = some (.int .i64 tk) ∧ w'.cell? ⟨pkb, pko + 4 + 1, none⟩ = some (.string tnm) ∧ w'.cell? ⟨pkb, pko + 4 + 2, none⟩ = some (.slice tAn tnn tcn) ∧ w'.cell? ⟨pkb, pko + 4 + 3, none⟩ = some (.slice tAk tnk tck)) ∧ (w'.cell? ⟨mkb, mko, none⟩ = some (.int .i64 uk) ∧ w'.cell? ⟨mkb, mko + 1, none⟩ = some (.string unm) ∧ w'.cell? ⟨mkb, mko + 2, none⟩ = some (.slice uAn unn ucn) ∧ w'.cell? ⟨mkb, mko + 3, none⟩ = some (.slice uAk unk uck)) ∧ (w'.cell? ⟨mkb, mko + 4, none⟩ = some (.int .i64 vk) ∧ w'.cell? ⟨mkb, mko + 4 + 1, none⟩ = some (.string vnm) ∧ w'.cell? ⟨mkb, mko + 4 + 2, none⟩ = some (.slice vAn vnn vcn) ∧ w'.cell? ⟨mkb, mko + 4 + 3, none⟩ = some (.slice vAk vnk vck))) 36 rfl (by kernel_rfl) ?_ (fun hHeld => ?_)
        · exact hsk.out _ kd3.out
        refine' wpAnyH_tk (i := 0) (v := _) rfl (by kernel_rfl) (by decide +kernel) (by decide +kernel) (fun _ _ _ h => h) (Or.inl ⟨by rfl, ?_⟩) (by assumption) ?_
        rotate_left
        · (intro w hSw; (try dsimp only at hSw); (try go_simp); (try (with_reducible rfl)))
        (try simp only [Act.put, List.setIfInBounds_toArray, List.set_cons_zero, List.set_cons_succ])
        refine' wpAnyH_tk (i := 1) (v := _) rfl (by kernel_rfl) (by decide +kernel) (by decide +kernel) (fun _ _ _ h => h) (Or.inl ⟨by rfl, ?_⟩) (by assumption) ?_
        rotate_left
        · (intro w hSw; (try dsimp only at hSw); (try go_simp); (try (with_reducible rfl)))
        (try simp only [Act.put, List.setIfInBounds_toArray, List.set_cons_zero, List.set_cons_succ])
        refine' wpAnyH_tk (i := 2) (v := _) rfl (by kernel_rfl) (by decide +kernel) (by decide +kernel) (fun _ _ _ h => h) (Or.inl ⟨by rfl, ?_⟩) (by assumption) ?_
        rotate_left
        · (intro w hSw; (try dsimp only at hSw); (try go_simp); (try (with_reducible rfl)))
        (try simp only [Act.put, List.setIfInBounds_toArray, List.set_cons_zero, List.set_cons_succ])
        refine' wpAnyH_tk (i := 3) (v := _) rfl (by kernel_rfl) (by decide +kernel) (by decide +kernel) (fun _ _ _ h => h) (Or.inl ⟨by rfl, ?_⟩) (by assumption) ?_
        rotate_left
        · (intro w hSw; (try dsimp only at hSw); (try go_simp); (try (with_reducible rfl)))
        (try simp only [Act.put, List.setIfInBounds_toArray, List.set_cons_zero, List.set_cons_succ])
        refine' wpAnyH_tk (i := 4) (v := _) rfl (by kernel_rfl) (by decide +kernel) (by decide +kernel) (fun _ _ _ h => h) (Or.inl ⟨by rfl, ?_⟩) (by assumption) ?_
        rotate_left
        · (intro w hSw; (try dsimp only at hSw); (try go_simp); (try (with_reducible rfl)))
        (try simp only [Act.put, List.setIfInBounds_toArray, List.set_cons_zero, List.set_cons_succ])
        refine' wpAnyH_tk (i := 5) (v := _) rfl (by kernel_rfl) (by decide +kernel) (by decide +kernel) (fun _ _ _ h => h) (Or.inl ⟨by rfl, ?_⟩) (by assumption) ?_
        rotate_left
        · (intro w hSw; (try dsimp only at hSw); (try go_simp); (try (with_reducible rfl)))
        (try simp only [Act.put, List.setIfInBounds_toArray, List.set_cons_zero, List.set_cons_succ])
        refine' wpAnyH_tk (i := 6) (v := _) rfl (by kernel_rfl) (by decide +kernel) (by decide +kernel) (fun _ _ _ h => h) (Or.inl ⟨by rfl, ?_⟩) (by assumption) ?_
        rotate_left
        · (intro w hSw; (try dsimp only at hSw); (try go_simp); (try (with_reducible rfl)))
        (try simp only [Act.put, List.setIfInBounds_toArray, List.set_cons_zero, List.set_cons_succ])
        refine' wpAnyH_tk (i := 7) (v := _) rfl (by kernel_rfl) (by decide +kernel) (by decide +kernel) (fun _ _ _ h => h) (Or.inl ⟨by rfl, ?_⟩) (by assumption) ?_
        rotate_left
        · (intro w hSw; (try dsimp only at hSw); (try go_simp); (try (with_reducible rfl)))
        (try simp only [Act.put, List.setIfInBounds_toArray, List.set_cons_zero, List.set_cons_succ])
        refine' wpAnyH_tk (i := 8) (v := _) rfl (by kernel_rfl) (by decide +kernel) (by decide +kernel) (fun _ _ _ h => h) (Or.inl ⟨by rfl, ?_⟩) (by assumption) ?_
        rotate_left
        · (intro w hSw; (try dsimp only at hSw); (try go_simp); (try (with_reducible rfl)))
        (try simp only [Act.put, List.setIfInBounds_toArray, List.set_cons_zero, List.set_cons_succ])
        refine' wpAnyH_tk (i := 9) (v := _) rfl (by kernel_rfl) (by decide +kernel) (by decide +kernel) (fun _ _ _ h => h) (Or.inl ⟨by rfl, ?_⟩) (by assumption) ?_
        rotate_left
        · (intro w hSw; (try dsimp only at hSw); (try go_simp); (try (with_reducible rfl)))
        (try simp only [Act.put, List.setIfInBounds_toArray, List.set_cons_zero, List.set_cons_succ])
        refine' wpAnyH_tk (i := 10) (v := _) rfl (by kernel_rfl) (by decide +kernel) (by decide +kernel) (fun _ _ _ h => h) (Or.inl ⟨by rfl, ?_⟩) (by assumption) ?_
        rotate_left
        · (intro w hSw; (try dsimp only at hSw); (try go_simp); (try (with_reducible rfl)))
        (try simp only [Act.put, List.setIfInBounds_toArray, List.set_cons_zero, List.set_cons_succ])
        refine' wpAnyH_tk (i := 11) (v := _) rfl (by kernel_rfl) (by decide +kernel) (by decide +kernel) (fun _ _ _ h => h) (Or.inl ⟨by rfl, ?_⟩) (by assumption) ?_
        rotate_left
        · (intro w hSw; (try dsimp only at hSw); (try go_simp); (try (with_reducible rfl)))
        (try simp only [Act.put, List.setIfInBounds_toArray, List.set_cons_zero, List.set_cons_succ])
        refine' wpAnyH_tk (i := 12) (v := _) rfl (by kernel_rfl) (by decide +kernel) (by decide +kernel) (fun _ _ _ h => h) (Or.inl ⟨by rfl, ?_⟩) (by assumption) ?_
        rotate_left
        · (intro w hSw; (try dsimp only at hSw); (try go_simp); (try (with_reducible rfl)))
        (try simp only [Act.put, List.setIfInBounds_toArray, List.set_cons_zero, List.set_cons_succ])
        refine' wpAnyH_tk (i := 13) (v := _) rfl (by kernel_rfl) (by decide +kernel) (by decide +kernel) (fun _ _ _ h => h) (Or.inl ⟨by rfl, ?_⟩) (by assumption) ?_
        rotate_left
        · (intro w hSw; (try dsimp only at hSw); (try go_simp); (try (with_reducible rfl)))
        (try simp only [Act.put, List.setIfInBounds_toArray, List.set_cons_zero, List.set_cons_succ])
        refine' wpAnyH_tk (i := 14) (v := _) rfl (by kernel_rfl) (by decide +kernel) (by decide +kernel) (fun _ _ _ h => h) (Or.inl ⟨by rfl, ?_⟩) (by assumption) ?_
        rotate_left
        · (intro w hSw; (try dsimp only at hSw); (try go_simp); (try (with_reducible rfl)))
        (try simp only [Act.put, List.setIfInBounds_toArray, List.set_cons_zero, List.set_cons_succ])
        refine' wpAnyH_tk (i := 15) (v := _) rfl (by kernel_rfl) (by decide +kernel) (by decide +kernel) (fun _ _ _ h => h) (Or.inl ⟨by rfl, ?_⟩) (by assumption) ?_
        rotate_left
        · (intro w hSw; (try dsimp only at hSw); (try go_simp); (try (with_reducible rfl)))
        (try simp only [Act.put, List.setIfInBounds_toArray, List.set_cons_zero, List.set_cons_succ])
        refine wpAnyH_ready (rs := [16]) (by decide +kernel) (by simp) ?_
        refine AllReadyH_one rfl (fun K hK => ?_)
        go_simp
        go_at_call 35
        refine hcA.mono ?_
        rintro e w4 ⟨rfl, hk4⟩
        have KA := Lib.hid (kd3.out.trans hk4 (fun _ _ x => x))
        clear hk4 hcA
        refine hK.out _ _ ?_ (fun hHeld => ?_)
        · exact hsk.out _ KA.out
        clear hK K
        (try simp only [Act.put, List.setIfInBounds_toArray, List.set_cons_zero, List.set_cons_succ])
        refine' wpAnyH_tk (i := 17) (v := _) rfl (by kernel_rfl) (by decide +kernel) (by decide +kernel) (fun _ _ _ h => h) (Or.inl ⟨by rfl, ?_⟩) (by assumption) ?_
        rotate_left
        · (intro w hSw; (try dsimp only at hSw); (try go_simp); (try (with_reducible rfl)))
        (try simp only [Act.put, List.setIfInBounds_toArray, List.set_cons_zero, List.set_cons_succ])
        refine' wpAnyH_tk (i := 18) (v := _) rfl (by kernel_rfl) (by decide +kernel) (by decide +kernel) (fun _ _ _ h => h) (Or.inl ⟨by rfl, ?_⟩) (by assumption) ?_
        rotate_left
        · (intro w hSw; (try dsimp only at hSw); (try go_simp); (try (with_reducible rfl)))
        (try simp only [Act.put, List.setIfInBounds_toArray, List.set_cons_zero, List.set_cons_succ])
        refine' wpAnyH_tk (i := 19) (v := _) rfl (by kernel_rfl) (by decide +kernel) (by decide +kernel) (fun _ _ _ h => h) (Or.inl ⟨by rfl, ?_⟩) (by assumption) ?_
        rotate_left
        · (intro w hSw; (try dsimp only at hSw); (try go_simp); (try (with_reducible rfl)))
        (try simp only [Act.put, List.setIfInBounds_toArray, List.set_cons_zero, List.set_cons_succ])
        refine' wpAnyH_tk (i := 20) (v := _) rfl (by kernel_rfl) (by decide +kernel) (by decide +kernel) (fun _ _ _ h => h) (Or.inl ⟨by rfl, ?_⟩) (by assumption) ?_
        rotate_left
        · (intro w hSw; (try dsimp only at hSw); (try go_simp); (try (with_reducible rfl)))
        (try simp only [Act.put, List.setIfInBounds_toArray, List.set_cons_zero, List.set_cons_succ])
        refine' wpAnyH_tk (i := 21) (v := _) rfl (by kernel_rfl) (by decide +kernel) (by decide +kernel) (fun _ _ _ h => h) (Or.inl ⟨by rfl, ?_⟩) (by assumption) ?_
        rotate_left
        · (intro w hSw; (try dsimp only at hSw); (try go_simp); (try (with_reducible rfl)))
        (try simp only [Act.put, List.setIfInBounds_toArray, List.set_cons_zero, List.set_cons_succ])
        refine' wpAnyH_tk (i := 22) (v := _) rfl (by kernel_rfl) (by decide +kernel) (by decide +kernel) (fun _ _ _ h => h) (Or.inl ⟨by rfl, ?_⟩) (by assumption) ?_
        rotate_left
        · (intro w hSw; (try dsimp only at hSw); (try go_simp); (try (with_reducible rfl)))
        (try simp only [Act.put, List.setIfInBounds_toArray, List.set_cons_zero, List.set_cons_succ])
        refine' wpAnyH_tk (i := 23) (v := _) rfl (by kernel_rfl) (by decide +kernel) (by decide +kernel) (fun _ _ _ h => h) (Or.inl ⟨by rfl, ?_⟩) (by assumption) ?_
        rotate_left
        · (intro w hSw; (try dsimp only at hSw); (try go_simp); (try (with_reducible rfl)))
        (try simp only [Act.put, List.setIfInBounds_toArray, List.set_cons_zero, List.set_cons_succ])
        refine' wpAnyH_tk (i := 24) (v := _) rfl (by kernel_rfl) (by decide +kernel) (by decide +kernel) (fun _ _ _ h => h) (Or.inl ⟨by rfl, ?_⟩) (by assumption) ?_
        rotate_left
        · (intro w hSw; (try dsimp only at hSw); (try go_simp); (try (with_reducible rfl)))
        (try simp only [Act.put, List.setIfInBounds_toArray, List.set_cons_zero, List.set_cons_succ])
        refine' wpAnyH_tk (i := 25) (v := _) rfl (by kernel_rfl) (by decide +kernel) (by decide +kernel) (fun _ _ _ h => h) (Or.inl ⟨by rfl, ?_⟩) (by assumption) ?_
        rotate_left
        · (intro w hSw; (try dsimp only at hSw); (try go_simp); (try (with_reducible rfl)))
        (try simp only [Act.put, List.setIfInBounds_toArray, List.set_cons_zero, List.set_cons_succ])
        refine' wpAnyH_tk (i := 26) (v := _) rfl (by kernel_rfl) (by decide +kernel) (by decide +kernel) (fun _ _ _ h => h) (Or.inl ⟨by rfl, ?_⟩) (by assumption) ?_
        rotate_left
        · (intro w hSw; (try dsimp only at hSw); (try go_simp); (try (with_reducible rfl)))
        (try simp only [Act.put, List.setIfInBounds_toArray, List.set_cons_zero, List.set_cons_succ])
        refine' wpAnyH_tk (i := 27) (v := _) rfl (by kernel_rfl) (by decide +kernel) (by decide +kernel) (fun _ _ _ h => h) (Or.inl ⟨by rfl, ?_⟩) (by assumption) ?_
        rotate_left
        · (intro w hSw; (try dsimp only at hSw); (try go_simp); (try (with_reducible rfl)))
        (try simp only [Act.put, List.setIfInBounds_toArray, List.set_cons_zero, List.set_cons_succ])
        refine' wpAnyH_tk (i := 28) (v := _) rfl (by kernel_rfl) (by decide +kernel) (by decide +kernel) (fun _ _ _ h => h) (Or.inl ⟨by rfl, ?_⟩) (by assumption) ?_
        rotate_left
        · (intro w hSw; (try dsimp only at hSw); (try go_simp); (try (with_reducible rfl)))
        (try simp only [Act.put, List.setIfInBounds_toArray, List.set_cons_zero, List.set_cons_succ])
        refine' wpAnyH_tk (i := 29) (v := _) rfl (by kernel_rfl) (by decide +kernel) (by decide +kernel) (fun _ _ _ h => h) (Or.inl ⟨by rfl, ?_⟩) (by assumption) ?_
        rotate_left
        · (intro w hSw; (try dsimp only at hSw); (try go_simp); (try (with_reducible rfl)))
        (try simp only [Act.put, List.setIfInBounds_toArray, List.set_cons_zero, List.set_cons_succ])
        refine' wpAnyH_tk (i := 30) (v := _) rfl (by kernel_rfl) (by decide +kernel) (by decide +kernel) (fun _ _ _ h => h) (Or.inl ⟨by rfl, ?_⟩) (by assumption) ?_
        rotate_left
        · (intro w hSw; (try dsimp only at hSw); (try go_simp); (try (with_reducible rfl)))
        (try simp only [Act.put, List.setIfInBounds_toArray, List.set_cons_zero, List.set_cons_succ])
        refine' wpAnyH_tk (i := 31) (v := _) rfl (by kernel_rfl) (by decide +kernel) (by decide +kernel) (fun _ _ _ h => h) (Or.inl ⟨by rfl, ?_⟩) (by assumption) ?_
        rotate_left
        · (intro w hSw; (try dsimp only at hSw); (try go_simp); (try (with_reducible rfl)))
        (try simp only [Act.put, List.setIfInBounds_toArray, List.set_cons_zero, List.set_cons_succ])
        refine' wpAnyH_tk (i := 32) (v := _) rfl (by kernel_rfl) (by decide +kernel) (by decide +kernel) (fun _ _ _ h => h) (Or.inl ⟨by rfl, ?_⟩) (by assumption) ?_
        rotate_left
        · (intro w hSw; (try dsimp only at hSw); (try go_simp); (try (with_reducible rfl)))
        (try simp only [Act.put, List.setIfInBounds_toArray, List.set_cons_zero, List.set_cons_succ])
        refine wpAnyH_ready (rs := [33]) (by decide +kernel) (by simp) ?_
        refine AllReadyH_one rfl (fun K hK => ?_)
        go_simp
        go_at_call 35
        refine (HCB.out _ KA.out).mono ?_
        rintro e w5 ⟨rfl, hk5⟩
        have KB := Lib.hid (KA.out.trans hk5 (fun _ _ x => x))
        clear hk5
        refine hK.out _ _ ?_ (fun hHeld => ?_)
        · exact hsk.out _ KB.out
        clear hK K
        (try simp only [Act.put, List.setIfInBounds_toArray, List.set_cons_zero, List.set_cons_succ])
        refine' wpAnyH_tk (i := 34) (v := _) rfl (by kernel_rfl) (by decide +kernel) (by decide +kernel) (fun _ _ _ h => h) (Or.inl ⟨by rfl, ?_⟩) (by assumption) ?_
        rotate_left
        · (intro w hSw; (try dsimp only at hSw); (try go_simp); (try (with_reducible rfl)))
        (try simp only [Act.put, List.setIfInBounds_toArray, List.set_cons_zero, List.set_cons_succ])
        refine' wpAnyH_tk (i := 35) (v := _) rfl (by kernel_rfl) (by decide +kernel) (by decide +kernel) (fun _ _ _ h => h) (Or.inl ⟨by rfl, ?_⟩) (by assumption) ?_
        rotate_left
        · (intro w hSw; (try dsimp only at hSw); (try go_simp); (try (with_reducible rfl)))
        (try simp only [Act.put, List.setIfInBounds_toArray, List.set_cons_zero, List.set_cons_succ])
        refine wpAnyH_done (by decide +kernel) ?_ _
        go_wp2_with fail
        go_ret
        exact ⟨ret_bool HE.out.symm, KB.out⟩
    · · skip
        refine wp_region_held_n (S := fun w' => ((bm < w'.heap.size ∧ bp < w'.heap.size ∧ cb < w'.heap.size) ∧ (mkb < w'.heap.size ∧ pkb < w'.heap.size)) ∧ (w'.cell? ⟨bp, 5, none⟩ = some (.slice (some ⟨pkb, pko, none⟩) 2 pck) ∧ w'.cell? ⟨bm, 5, none⟩ = some (.slice (some ⟨mkb, mko, none⟩) 2 mck) ∧ w'.cell? ⟨cb, 0, none⟩ = some (.bool pos)) ∧ (w'.cell? ⟨pkb, pko, none⟩ = some (.int .i64 sk) ∧ w'.cell? ⟨pkb, pko + 1, none⟩ = some (.string snm) ∧ w'.cell? ⟨pkb, pko + 2, none⟩ = some (.slice sAn snn scn) ∧ w'.cell? ⟨pkb, pko + 3, none⟩ = some (.slice sAk snk sck)) ∧ (w'.cell? ⟨pkb, pko + 4, none⟩ = some (.int .i64 tk) ∧ w'.cell? ⟨pkb, pko + 4 + 1, none⟩ = some (.string tnm) ∧ w'.cell? ⟨pkb, pko + 4 + 2, none⟩ = some (.slice tAn tnn tcn) ∧ w'.cell? ⟨pkb, pko + 4 + 3, none⟩ = some (.slice tAk tnk tck)) ∧ (w'.cell? ⟨mkb, mko, none⟩ = some (.int .i64 uk) ∧ w'.cell? ⟨mkb, mko + 1, none⟩ = some (.string unm) ∧ w'.cell? ⟨mkb, mko + 2, none⟩ = some (.slice uAn unn ucn) ∧ w'.cell? ⟨mkb, mko + 3, none⟩ = some (.slice uAk unk uck)) ∧ (w'.cell? ⟨mkb, mko + 4, none⟩ = some (.int .i64 vk) ∧ w'.cell? ⟨mkb, mko + 4 + 1, none⟩ = some (.string vnm) ∧ w'.cell? ⟨mkb, mko + 4 + 2, none⟩ = some (.slice vAn vnn vcn) ∧ w'.cell? ⟨mkb, mko + 4 + 3, none⟩ = some (.slice vAk vnk vck))) 36 rfl (by kernel_rfl) ?_ (fun hHeld => ?_)
        · exact hsk.out _ kd3.out
        refine' wpAnyH_tk (i := 0) (v := _) rfl (by kernel_rfl) (by decide +kernel) (by decide +kernel) (fun _ _ _ h => h) (Or.inl ⟨by rfl, ?_⟩) (by assumption) ?_
        rotate_left
        · (intro w hSw; (try dsimp only at hSw); (try go_simp); (try (with_reducible rfl)))
        (try simp only [Act.put, List.setIfInBounds_toArray, List.set_cons_zero, List.set_cons_succ])
        refine' wpAnyH_tk (i := 1) (v := _) rfl (by kernel_rfl) (by decide +kernel) (by decide +kernel) (fun _ _ _ h => h) (Or.inl ⟨by rfl, ?_⟩) (by assumption) ?_
        rotate_left
        · (intro w hSw; (try dsimp only at hSw); (try go_simp); (try (with_reducible rfl)))
        (try simp only [Act.put, List.setIfInBounds_toArray, List.set_cons_zero, List.set_cons_succ])
        refine' wpAnyH_tk (i := 2) (v := _) rfl (by kernel_rfl) (by decide +kernel) (by decide +kernel) (fun _ _ _ h => h) (Or.inl ⟨by rfl, ?_⟩) (by assumption) ?_
        rotate_left
        · (intro w hSw; (try dsimp only at hSw); (try go_simp); (try (with_reducible rfl)))
        (try simp only [Act.put, List.setIfInBounds_toArray, List.set_cons_zero, List.set_cons_succ])
        refine' wpAnyH_tk (i := 3) (v := _) rfl (by kernel_rfl) (by decide +kernel) (by decide +kernel) (fun _ _ _ h => h) (Or.inl ⟨by rfl, ?_⟩) (by assumption) ?_
        rotate_left
        · (intro w hSw; (try dsimp only at hSw); (try go_simp); (try (with_reducible rfl)))
        (try simp only [Act.put, List.setIfInBounds_toArray, List.set_cons_zero, List.set_cons_succ])
        refine' wpAnyH_tk (i := 4) (v := _) rfl (by kernel_rfl) (by decide +kernel) (by decide +kernel) (fun _ _ _ h => h) (Or.inl ⟨by rfl, ?_⟩) (by assumption) ?_
        rotate_left
        · (intro w hSw; (try dsimp only at hSw); (try go_simp); (try (with_reducible rfl)))
        (try simp only [Act.put, List.setIfInBounds_toArray, List.set_cons_zero, List.set_cons_succ])
        refine' wpAnyH_tk (i := 5) (v := _) rfl (by kernel_rfl) (by decide +kernel) (by decide +kernel) (fun _ _ _ h => h) (Or.inl ⟨by rfl, ?_⟩) (by assumption) ?_
        rotate_left
        · (intro w hSw; (try dsimp only at hSw); (try go_simp); (try (with_reducible rfl)))
        (try simp only [Act.put, List.setIfInBounds_toArray, List.set_cons_zero, List.set_cons_succ])
        refine' wpAnyH_tk (i := 6) (v := _) rfl (by kernel_rfl) (by decide +kernel) (by decide +kernel) (fun _ _ _ h => h) (Or.inl ⟨by rfl, ?_⟩) (by assumption) ?_
        rotate_left
        · (intro w hSw; (try dsimp only at hSw); (try go_simp); (try (with_reducible rfl)))
        (try simp only [Act.put, List.setIfInBounds_toArray, List.set_cons_zero, List.set_cons_succ])
        refine' wpAnyH_tk (i := 7) (v := _) rfl (by kernel_rfl) (by decide +kernel) (by decide +kernel) (fun _ _ _ h => h) (Or.inl ⟨by rfl, ?_⟩) (by assumption) ?_
        rotate_left
        · (intro w hSw; (try dsimp only at hSw); (try go_simp); (try (with_reducible rfl)))
        (try simp only [Act.put, List.setIfInBounds_toArray, List.set_cons_zero, List.set_cons_succ])
        refine' wpAnyH_tk (i := 8) (v := _) rfl (by kernel_rfl) (by decide +kernel) (by decide +kernel) (fun _ _ _ h => h) (Or.inl ⟨by rfl, ?_⟩) (by assumption) ?_
        rotate_left
        · (intro w hSw; (try dsimp only at hSw); (try go_simp); (try (with_reducible rfl)))
        (try simp only [Act.put, List.setIfInBounds_toArray, List.set_cons_zero, List.set_cons_succ])
        refine' wpAnyH_tk (i := 9) (v := _) rfl (by kernel_rfl) (by decide +kernel) (by decide +kernel) (fun _ _ _ h => h) (Or.inl ⟨by rfl, ?_⟩) (by assumption) ?_
        rotate_left
        · (intro w hSw; (try dsimp only at hSw); (try go_simp); (try (with_reducible rfl)))
        (try simp only [Act.put, List.setIfInBounds_toArray, List.set_cons_zero, List.set_cons_succ])
        refine' wpAnyH_tk (i := 10) (v := _) rfl (by kernel_rfl) (by decide +kernel) (by decide +kernel) (fun _ _ _ h => h) (Or.inl ⟨by rfl, ?_⟩) (by assumption) ?_
        rotate_left
        · (intro w hSw; (try dsimp only at hSw); (try go_simp); (try (with_reducible rfl)))
        (try simp only [Act.put, List.setIfInBounds_toArray, List.set_cons_zero, List.set_cons_succ])
        refine' wpAnyH_tk (i := 11) (v := _) rfl (by kernel_rfl) (by decide +kernel) (by decide +kernel) (fun _ _ _ h => h) (Or.inl ⟨by rfl, ?_⟩) (by assumption) ?_
        rotate_left
        · (intro w hSw; (try dsimp only at hSw); (try go_simp); (try (with_reducible rfl)))
        (try simp only [Act.put, List.setIfInBounds_toArray, List.set_cons_zero, List.set_cons_succ])
        refine' wpAnyH_tk (i := 12) (v := _) rfl (by kernel_rfl) (by decide +kernel) (by decide +kernel) (fun _ _ _ h => h) (Or.inl ⟨by rfl, ?_⟩) (by assumption) ?_
        rotate_left
        · (intro w hSw; (try dsimp only at hSw); (try go_simp); (try (with_reducible rfl)))
        (try simp only [Act.put, List.setIfInBounds_toArray, List.set_cons_zero, List.set_cons_succ])
        refine' wpAnyH_tk (i := 13) (v := _) rfl (by kernel_rfl) (by decide +kernel) (by decide +kernel) (fun _ _ _ h => h) (Or.inl ⟨by rfl, ?_⟩) (by assumption) ?_
        rotate_left
        · (intro w hSw; (try dsimp only at hSw); (try go_simp); (try (with_reducible rfl)))
        (try simp only [Act.put, List.setIfInBounds_toArray, List.set_cons_zero, List.set_cons_succ])
        refine' wpAnyH_tk (i := 14) (v := _) rfl (by kernel_rfl) (by decide +kernel) (by decide +kernel) (fun _ _ _ h => h) (Or.inl ⟨by rfl, ?_⟩) (by assumption) ?_
        rotate_left
        · (intro w hSw; (try dsimp only at hSw); (try go_simp); (try (with_reducible rfl)))
        (try simp only [Act.put, List.setIfInBounds_toArray, List.set_cons_zero, List.set_cons_succ])
        refine' wpAnyH_tk (i := 15) (v := _) rfl (by kernel_rfl) (by decide +kernel) (by decide +kernel) (fun _ _ _ h => h) (Or.inl ⟨by rfl, ?_⟩) (by assumption) ?_
        rotate_left
        · (intro w hSw; (try dsimp only at hSw); (try go_simp); (try (with_reducible rfl)))
        (try simp only [Act.put, List.setIfInBounds_toArray, List.set_cons_zero, List.set_cons_succ])
        refine wpAnyH_ready (rs := [16]) (by decide +kernel) (by simp) ?_
        refine AllReadyH_one rfl (fun K hK => ?_)
        go_simp
        go_at_call 35
        refine hcA.mono ?_
        rintro e w4 ⟨rfl, hk4⟩
        have KA := Lib.hid (kd3.out.trans hk4 (fun _ _ x => x))
        clear hk4 hcA
        refine hK.out _ _ ?_ (fun hHeld => ?_)
        · exact hsk.out _ KA.out
        clear hK K
        (try simp only [Act.put, List.setIfInBounds_toArray, List.set_cons_zero, List.set_cons_succ])
        refine' wpAnyH_tk (i := 17) (v := _) rfl (by kernel_rfl) (by decide +kernel) (by decide +kernel) (fun _ _ _ h => h) (Or.inl ⟨by rfl, ?_⟩) (by assumption) ?_
        rotate_left
        · (intro w hSw; (try dsimp only at hSw); (try go_simp); (try (with_reducible rfl)))
        (try simp only [Act.put, List.setIfInBounds_toArray, List.set_cons_zero, List.set_cons_succ])
        refine' wpAnyH_tk (i := 18) (v := _) rfl (by kernel_rfl) (by decide +kernel) (by decide +kernel) (fun _ _ _ h => h) (Or.inl ⟨by rfl, ?_⟩) (by assumption) ?_
        rotate_left
        · (intro w hSw; (try dsimp only at hSw); (try go_simp); (try (with_reducible rfl)))
        (try simp only [Act.put, List.setIfInBounds_toArray, List.set_cons_zero, List.set_cons_succ])
        refine' wpAnyH_tk (i := 19) (v := _) rfl (by kernel_rfl) (by decide +kernel) (by decide +kernel) (fun _ _ _ h => h) (Or.inl ⟨by rfl, ?_⟩) (by assumption) ?_
        rotate_left
        · (intro w hSw; (try dsimp only at hSw); (try go_simp); (try (with_reducible rfl)))
        (try simp only [Act.put, List.setIfInBounds_toArray, List.set_cons_zero, List.set_cons_succ])
        refine' wpAnyH_tk (i := 20) (v := _) rfl (by kernel_rfl) (by decide +kernel) (by decide +kernel) (fun _ _ _ h => h) (Or.inl ⟨by rfl, ?_⟩) (by assumption) ?_
        rotate_left
        · (intro w hSw; (try dsimp only at hSw); (try go_simp); (try (with_reducible rfl)))
        (try simp only [Act.put, List.setIfInBounds_toArray, List.set_cons_zero, List.set_cons_succ])
        refine' wpAnyH_tk (i := 21) (v := _) rfl (by kernel_rfl) (by decide +kernel) (by decide +kernel) (fun _ _ _ h => h) (Or.inl ⟨by rfl, ?_⟩) (by assumption) ?_
        rotate_left
        · (intro w hSw; (try dsimp only at hSw); (try go_simp); (try (with_reducible rfl)))
        (try simp only [Act.put, List.setIfInBounds_toArray, List.set_cons_zero, List.set_cons_succ])
        refine' wpAnyH_tk (i := 22) (v := _) rfl (by kernel_rfl) (by decide +kernel) (by decide +kernel) (fun _ _ _ h => h) (Or.inl ⟨by rfl, ?_⟩) (by assumption) ?_
        rotate_left
        · (intro w hSw; (try dsimp only at hSw); (try go_simp); (try (with_reducible rfl)))
        (try simp only [Act.put, List.setIfInBounds_toArray, List.set_cons_zero, List.set_cons_succ])
        refine' wpAnyH_tk (i := 23) (v := _) rfl (by kernel_rfl) (by decide +kernel) (by decide +kernel) (fun _ _ _ h => h) (Or.inl ⟨by rfl, ?_⟩) (by assumption) ?_
        rotate_left
        · (intro w hSw; (try dsimp only at hSw); (try go_simp); (try (with_reducible rfl)))
        (try simp only [Act.put, List.setIfInBounds_toArray, List.set_cons_zero, List.set_cons_succ])
        refine' wpAnyH_tk (i := 24) (v := _) rfl (by kernel_rfl) (by decide +kernel) (by decide +kernel) (fun _ _ _ h => h) (Or.inl ⟨by rfl, ?_⟩) (by assumption) ?_
        rotate_left
        · (intro w hSw; (try dsimp only at hSw); (try go_simp); (try (with_reducible rfl)))
        (try simp only [Act.put, List.setIfInBounds_toArray, List.set_cons_zero, List.set_cons_succ])
        refine' wpAnyH_tk (i := 25) (v := _) rfl (by kernel_rfl) (by decide +kernel) (by decide +kernel) (fun _ _ _ h => h) (Or.inl ⟨by rfl, ?_⟩) (by assumption) ?_
        rotate_left
        · (intro w hSw; (try dsimp only at hSw); (try go_simp); (try (with_reducible rfl)))
        (try simp only [Act.put, List.setIfInBounds_toArray, List.set_cons_zero, List.set_cons_succ])
        refine' wpAnyH_tk (i := 26) (v := _) rfl (by kernel_rfl) (by decide +kernel) (by decide +kernel) (fun _ _ _ h => h) (Or.inl ⟨by rfl, ?_⟩) (by assumption) ?_
        rotate_left
        · (intro w hSw; (try dsimp only at hSw); (try go_simp); (try (with_reducible rfl)))
        (try simp only [Act.put, List.setIfInBounds_toArray, List.set_cons_zero, List.set_cons_succ])
        refine' wpAnyH_tk (i := 27) (v := _) rfl (by kernel_rfl) (by decide +kernel) (by decide +kernel) (fun _ _ _ h => h) (Or.inl ⟨by rfl, ?_⟩) (by assumption) ?_
        rotate_left
        · (intro w hSw; (try dsimp only at hSw); (try go_simp); (try (with_reducible rfl)))
        (try simp only [Act.put, List.setIfInBounds_toArray, List.set_cons_zero, List.set_cons_succ])
        refine' wpAnyH_tk (i := 28) (v := _) rfl (by kernel_rfl) (by decide +kernel) (by decide +kernel) (fun _ _ _ h => h) (Or.inl ⟨by rfl, ?_⟩) (by assumption) ?_
        rotate_left
        · (intro w hSw; (try dsimp only at hSw); (try go_simp); (try (with_reducible rfl)))
        (try simp only [Act.put, List.setIfInBounds_toArray, List.set_cons_zero, List.set_cons_succ])
        refine' wpAnyH_tk (i := 29) (v := _) rfl (by kernel_rfl) (by decide +kernel) (by decide +kernel) (fun _ _ _ h => h) (Or.inl ⟨by rfl, ?_⟩) (by assumption) ?_
        rotate_left
        · (intro w hSw; (try dsimp only at hSw); (try go_simp); (try (with_reducible rfl)))
        (try simp only [Act.put, List.setIfInBounds_toArray, List.set_cons_zero, List.set_cons_succ])
        refine' wpAnyH_tk (i := 30) (v := _) rfl (by kernel_rfl) (by decide +kernel) (by decide +kernel) (fun _ _ _ h => h) (Or.inl ⟨by rfl, ?_⟩) (by assumption) ?_
        rotate_left
        · (intro w hSw; (try dsimp only at hSw); (try go_simp); (try (with_reducible rfl)))
        (try simp only [Act.put, List.setIfInBounds_toArray, List.set_cons_zero, List.set_cons_succ])
        refine' wpAnyH_tk (i := 31) (v := _) rfl (by kernel_rfl) (by decide +kernel) (by decide +kernel) (fun _ _ _ h => h) (Or.inl ⟨by rfl, ?_⟩) (by assumption) ?_
        rotate_left
        · (intro w hSw; (try dsimp only at hSw); (try go_simp); (try (with_reducible rfl)))
        (try simp only [Act.put, List.setIfInBounds_toArray, List.set_cons_zero, List.set_cons_succ])
        refine' wpAnyH_tk (i := 32) (v := _) rfl (by kernel_rfl) (by decide +kernel) (by decide +kernel) (fun _ _ _ h => h) (Or.inl ⟨by rfl, ?_⟩) (by assumption) ?_
        rotate_left
        · (intro w hSw; (try dsimp only at hSw); (try go_simp); (try (with_reducible rfl)))
        (try simp only [Act.put, List.setIfInBounds_toArray, List.set_cons_zero, List.set_cons_succ])
        refine wpAnyH_ready (rs := [33]) (by decide +kernel) (by simp) ?_
        refine AllReadyH_one rfl (fun K hK => ?_)
        go_simp
        go_at_call 35
        refine (HCB.out _ KA.out).mono ?_
        rintro e w5 ⟨rfl, hk5⟩
        have KB := Lib.hid (KA.out.trans hk5 (fun _ _ x => x))
        clear hk5
        refine hK.out _ _ ?_ (fun hHeld => ?_)
        · exact hsk.out _ KB.out
        clear hK K
        (try simp only [Act.put, List.setIfInBounds_toArray, List.set_cons_zero, List.set_cons_succ])
        refine' wpAnyH_tk (i := 34) (v := _) rfl (by kernel_rfl) (by decide +kernel) (by decide +kernel) (fun _ _ _ h => h) (Or.inl ⟨by rfl, ?_⟩) (by assumption) ?_
        rotate_left
        · (intro w hSw; (try dsimp only at hSw); (try go_simp); (try (with_reducible rfl)))
        (try simp only [Act.put, List.setIfInBounds_toArray, List.set_cons_zero, List.set_cons_succ])
        refine' wpAnyH_tk (i := 35) (v := _) rfl (by kernel_rfl) (by decide +kernel) (by decide +kernel) (fun _ _ _ h => h) (Or.inl ⟨by rfl, ?_⟩) (by assumption) ?_
        rotate_left
        · (intro w hSw; (try dsimp only at hSw); (try go_simp); (try (with_reducible rfl)))
        (try simp only [Act.put, List.setIfInBounds_toArray, List.set_cons_zero, List.set_cons_succ])
        refine wpAnyH_done (by decide +kernel) ?_ _
        go_wp2_with fail
        go_ret
        exact ⟨ret_bool HE.out.symm, KB.out⟩
set_option maxRecDepth 100000 in
set_option maxHeartbeats 8000000 in
theorem bla1_p {tag : Nat} {mo po : Bool} {mt pt : Ty} {pos : Bool} {w : World} {bm bp cb : Nat} (h5 : tag ≠ 5) (ho : po = false) (hM : PrtW tag (mo, mt)) (hP : PrtW tag (po, pt)) (hpm : PartAt w nX bm tag (mo, mt)) (hpp : PartAt w nX bp tag (po, pt)) (hc : At w cb 4 #[.bool pos])
    (ih : ∀ q x y, (x ∈ mt.kids ∨ (mo = true ∧ x = ty0)) → (y ∈ pt.kids ∨ (po = true ∧ y = ty0)) → BlaOk q x y) (ih' : ∀ q x y, (x ∈ mt.kids ∨ (mo = true ∧ x = ty0)) → (y ∈ pt.kids ∨ (po = true ∧ y = ty0)) → BlaOk q y x) :
    Calls Tryd.prog 58 #[.pointer (some ⟨bm, 0, none⟩), .pointer (some ⟨bp, 0, none⟩), .pointer (some ⟨cb, 0, none⟩)] w fun e w' => e = .returned (.bool (blaP blamesT pos tag (mo, mt) (po, pt))) ∧ Keep (fun _ => False) w w' := by
  subst ho
  obtain ⟨⟨mk, mnm, mAn, mnn, mcn, mAk, mnk, mck⟩, hmA, hmV⟩ := hpm
  obtain ⟨⟨pk, pnm, pAn, pnn, pcn, pAk, pnk, pck⟩, hpA, hpV⟩ := hpp
  simp only at hmA hpA hmV hpV
  have hnm := hpV.out.2.2.2.1
  have hnl := hpV.out.2.2.1
  have hnb := hpV.out.1.2.1
  simp only at hnm hnl hnb
  have hLn : (blaL (mo, mt) (false, pt)).length = pnn := by
    have := congrArg List.length (blaL_names (m := (mo, mt)) h5 hP)
    simp at this
    omega
  have h0 : Hid (BlA w blamesT pos (mo, mt) (false, pt) pnn pnn (.int .i64 0) w) := ⟨0, rfl, Nat.zero_le _, rfl, by simp, Keep.refl _ _⟩
  have HC : Hid (∀ w', Keep (fun _ => False) w w' → (bm < w'.heap.size ∧ w'.cell? ⟨bm, 0, none⟩ = some (.int .i64 tag) ∧ w'.cell? ⟨bm, 1, none⟩ = some (.bool mo) ∧ w'.cell? ⟨bm, 2, none⟩ = some (.int .i64 mk) ∧ w'.cell? ⟨bm, 3, none⟩ = some (.string mnm) ∧ w'.cell? ⟨bm, 4, none⟩ = some (.slice mAn mnn mcn) ∧ w'.cell? ⟨bm, 5, none⟩ = some (.slice mAk mnk mck)) ∧ (bp < w'.heap.size ∧ w'.cell? ⟨bp, 0, none⟩ = some (.int .i64 tag) ∧ w'.cell? ⟨bp, 1, none⟩ = some (.bool false) ∧ w'.cell? ⟨bp, 2, none⟩ = some (.int .i64 pk) ∧ w'.cell? ⟨bp, 3, none⟩ = some (.string pnm) ∧ w'.cell? ⟨bp, 4, none⟩ = some (.slice pAn pnn pcn) ∧ w'.cell? ⟨bp, 5, none⟩ = some (.slice pAk pnk pck)) ∧ cb < w'.heap.size ∧ w'.cell? ⟨cb, 0, none⟩ = some (.bool pos)) := fun w' hk => ⟨(hk.at_ hmA (fun x => x)).cells6, (hk.at_ hpA (fun x => x)).cells6, (hk.at_ hc (fun x => x)).lt, (hk.at_ hc (fun x => x)).cell 0⟩
  have H := Lib.hid (And.intro hM (And.intro hP (And.intro hmV (And.intro hpV (And.intro hnm (And.intro hnl (And.intro hLn (And.intro ih h5))))))))
  have d5 : ((tag : Int) == 5) = false := by rw [beq_eq_false_iff_ne]; omega
  obtain ⟨⟨al, a0, a1, a2, a3, a4, a5⟩, ⟨bl, b0, b1, b2, b3, b4, b5⟩, zl, z0⟩ := HC.out w (Keep.refl _ _)
  clear hM hP hmA hpA hmV hpV hnm hnl hc ih ih' hLn h5
  go_enter Tryd.func58, Tryd.ntmps58
  go_wp2_with fail
  clear al a0 a1 a2 a3 a4 a5 bl b0 b1 b2 b3 b4 b5 zl z0
  go_loopg [69] pnn (BlA w blamesT pos (mo, mt) (false, pt) pnn)
  case atStart => exact h0.out
  case round =>
    clear h0
    obtain ⟨i, rfl, hi, rfl, hall, hk⟩ := hrel
    obtain ⟨hM, hP, hmV, hpV, hnm, hnl, hLn, ih, h5⟩ := H.out
    by_cases hlt : i < pnn
    · obtain ⟨⟨s, yt⟩, hx⟩ : ∃ x, (blaL (mo, mt) (false, pt))[i]? = some x := ⟨_, List.getElem?_eq_getElem (by omega)⟩
      have hs : pt.names[i]? = some s := by
        have e := blaL_names (m := (mo, mt)) h5 hP
        have h1 : ((blaL (mo, mt) (false, pt)).map (·.1))[i]? = some s := by rw [List.getElem?_map, hx]; rfl
        rw [e] at h1
        simpa using h1
      obtain ⟨nb, no, rfl, hnz, _, e0⟩ := (hnm.keep hk (fun _ x => x.elim)).scell hlt hs
      obtain ⟨hky, hyk⟩ := blaL_kid h5 hP (List.mem_of_getElem? hx)
      have hkm := kid_any (w := wr) (tag := (tag : Int)) (s := s) (q := ⟨mk, mnm, mAn, mnn, mcn, mAk, mnk, mck⟩) hM.nlek (hmV.step hk)
      have hkp := fun (w' : World) (hk' : Keep (fun _ => False) wr w') => kid_any (w := w') (tag := (tag : Int)) (s := s) (q := ⟨pk, pnm, (some ⟨nb, no, none⟩), pnn, pcn, pAk, pnk, pck⟩) hP.nlek (hpV.step (hk.trans hk' (fun _ _ x => x)))
      obtain ⟨⟨al, a0, a1, a2, a3, a4, a5⟩, ⟨bl, b0, b1, b2, b3, b4, b5⟩, zl, z0⟩ := HC.out wr hk
      simp only at hkm hkp hky hyk
      rw [hky] at hkp
      have HKP := Lib.hid hkp
      have HK := Lib.hid (And.intro hk (And.intro hall (And.intro hx hyk)))
      clear hkp hall hk hx hyk hky hs hM hP hmV hpV hnm hnl hLn ih h5
      cases hkt : kidT (mo, mt) s with
      | none =>
        rw [hkt] at hkm
        have HE := Lib.hid (show blaItem blamesT pos (mo, mt) (s, yt) = !pos by unfold blaItem; simp only [hkt])
        clear hkt
        cases pos
        · go_wp2_with (first | (go_at_call_of 57 (Value.agg #[Value.int IntKind.i64 ↑tag, Value.bool mo, Value.int IntKind.i64 mk, Value.string mnm, Value.slice mAn mnn mcn, Value.slice mAk mnk mck]); (with_reducible refine hkm.mono ?_); rintro e w2 ⟨⟨⟨zk, znm, zAn, znn, zcn, zAk, znk, zck⟩, he⟩, hk2⟩; simp only [Tv.val] at he; subst he; have KC := Lib.hid hk2; clear hk2 hkm a0 a1 a2 a3 a4 a5 al b0 b1 b2 b3 b4 b5 bl z0 zl; obtain ⟨⟨al, a0, a1, a2, a3, a4, a5⟩, ⟨bl, b0, b1, b2, b3, b4, b5⟩, zl, z0⟩ := HC.out _ (HK.out.1.trans KC.out (fun _ _ x => x))) | (go_at_call_of 57 (Value.agg #[Value.int IntKind.i64 ↑tag, Value.bool false, Value.int IntKind.i64 pk, Value.string pnm, Value.slice (some { block := nb, off := no }) pnn pcn, Value.slice pAk pnk pck]); (with_reducible refine (HKP.out _ (KC.out.alloc _)).mono ?_); rintro e w4 ⟨⟨⟨yk, ynm, yAn, ynn, ycn, yAk, ynk, yck⟩, he, hyV⟩, hk4⟩; simp only [Tv.val] at he; subst he; clear a0 a1 a2 a3 a4 a5 al b0 b1 b2 b3 b4 b5 bl z0 zl; obtain ⟨kl, k0, k1, k2, k3⟩ := (hk4.at_ (At.new w2 _ _) (fun x => x)).tcells; have KD := Lib.hid ((KC.out.alloc _).trans hk4 (fun _ _ x => x)); obtain ⟨⟨al, a0, a1, a2, a3, a4, a5⟩, ⟨bl, b0, b1, b2, b3, b4, b5⟩, zl, z0⟩ := HC.out _ (HK.out.1.trans KD.out (fun _ _ x => x)); clear hk4 hyV))
          go_roundg (pnn - (i + 1))
          case measure => omega
          case rel => exact ⟨i + 1, by go_num, by omega, rfl, take_more HK.out.2.1 HK.out.2.2.1 HE.out, HK.out.1.trans (KD.out.alloc _) (fun _ _ x => x)⟩
        · go_wp2_with (first | (go_at_call_of 57 (Value.agg #[Value.int IntKind.i64 ↑tag, Value.bool mo, Value.int IntKind.i64 mk, Value.string mnm, Value.slice mAn mnn mcn, Value.slice mAk mnk mck]); (with_reducible refine hkm.mono ?_); rintro e w2 ⟨⟨⟨zk, znm, zAn, znn, zcn, zAk, znk, zck⟩, he⟩, hk2⟩; simp only [Tv.val] at he; subst he; have KC := Lib.hid hk2; clear hk2 hkm a0 a1 a2 a3 a4 a5 al b0 b1 b2 b3 b4 b5 bl z0 zl; obtain ⟨⟨al, a0, a1, a2, a3, a4, a5⟩, ⟨bl, b0, b1, b2, b3, b4, b5⟩, zl, z0⟩ := HC.out _ (HK.out.1.trans KC.out (fun _ _ x => x))) | (go_at_call_of 57 (Value.agg #[Value.int IntKind.i64 ↑tag, Value.bool false, Value.int IntKind.i64 pk, Value.string pnm, Value.slice (some { block := nb, off := no }) pnn pcn, Value.slice pAk pnk pck]); (with_reducible refine (HKP.out _ (KC.out.alloc _)).mono ?_); rintro e w4 ⟨⟨⟨yk, ynm, yAn, ynn, ycn, yAk, ynk, yck⟩, he, hyV⟩, hk4⟩; simp only [Tv.val] at he; subst he; clear a0 a1 a2 a3 a4 a5 al b0 b1 b2 b3 b4 b5 bl z0 zl; obtain ⟨kl, k0, k1, k2, k3⟩ := (hk4.at_ (At.new w2 _ _) (fun x => x)).tcells; have KD := Lib.hid ((KC.out.alloc _).trans hk4 (fun _ _ x => x)); obtain ⟨⟨al, a0, a1, a2, a3, a4, a5⟩, ⟨bl, b0, b1, b2, b3, b4, b5⟩, zl, z0⟩ := HC.out _ (HK.out.1.trans KD.out (fun _ _ x => x)); clear hk4 hyV))
          go_ret
          exact ⟨ret_bool (blaP_bad H.out.2.2.2.2.2.2.2.2 (List.mem_of_getElem? HK.out.2.2.1) HE.out).symm, HK.out.1.trans (KD.out.alloc _) (fun _ _ x => x)⟩
      | some kd =>
        rw [hkt] at hkm
        have HE := Lib.hid (show blaItem blamesT pos (mo, mt) (s, yt) = (!(pos && mo) && blamesT pos kd yt) by unfold blaItem; simp only [hkt])
        have hmem := kidT_mem hkt
        have hih := H.out.2.2.2.2.2.2.2.1 pos kd yt hmem HK.out.2.2.2
        have HI := Lib.hid hih
        clear hkt hmem hih
        cases hpo : (pos && mo) with
        | true =>
          simp only [Bool.and_eq_true] at hpo
          obtain ⟨rfl, rfl⟩ := hpo
          go_wp2_with (first | (go_at_call_of 57 (Value.agg #[Value.int IntKind.i64 ↑tag, Value.bool Bool.true, Value.int IntKind.i64 mk, Value.string mnm, Value.slice mAn mnn mcn, Value.slice mAk mnk mck]); (with_reducible refine hkm.mono ?_); rintro e w2 ⟨⟨⟨xk, xnm, xAn, xnn, xcn, xAk, xnk, xck⟩, he, hxV⟩, hk2⟩; simp only [Tv.val] at he; subst he; have KC := Lib.hid hk2; clear hk2 hkm a0 a1 a2 a3 a4 a5 al b0 b1 b2 b3 b4 b5 bl z0 zl; obtain ⟨⟨al, a0, a1, a2, a3, a4, a5⟩, ⟨bl, b0, b1, b2, b3, b4, b5⟩, zl, z0⟩ := HC.out _ (HK.out.1.trans KC.out (fun _ _ x => x))) | (go_at_call_of 57 (Value.agg #[Value.int IntKind.i64 ↑tag, Value.bool false, Value.int IntKind.i64 pk, Value.string pnm, Value.slice (some { block := nb, off := no }) pnn pcn, Value.slice pAk pnk pck]); (with_reducible refine (HKP.out _ (KC.out.alloc _)).mono ?_); rintro e w4 ⟨⟨⟨yk, ynm, yAn, ynn, ycn, yAk, ynk, yck⟩, he, hyV⟩, hk4⟩; simp only [Tv.val] at he; subst he; clear a0 a1 a2 a3 a4 a5 al b0 b1 b2 b3 b4 b5 bl z0 zl; obtain ⟨kl, k0, k1, k2, k3⟩ := (hk4.at_ (At.new w2 _ _) (fun x => x)).tcells; have KD := Lib.hid ((KC.out.alloc _).trans hk4 (fun _ _ x => x)); obtain ⟨⟨al, a0, a1, a2, a3, a4, a5⟩, ⟨bl, b0, b1, b2, b3, b4, b5⟩, zl, z0⟩ := HC.out _ (HK.out.1.trans KD.out (fun _ _ x => x)); clear hk4 hyV))
          go_ret
          exact ⟨ret_bool (blaP_bad H.out.2.2.2.2.2.2.2.2 (List.mem_of_getElem? HK.out.2.2.1) (HE.out.trans rfl)).symm, HK.out.1.trans (KD.out.alloc _) (fun _ _ x => x)⟩
        | false =>
          have hcs : (pos = false) ∨ (pos = true ∧ mo = false) := by cases pos <;> cases mo <;> simp_all
          rw [hpo] at HE
          clear hpo
          cases hv : blamesT pos kd yt
          all_goals unfold BlaOk at HI
          all_goals rw [hv] at HI HE
          all_goals clear hv
          all_goals rcases hcs with rfl | ⟨rfl, rfl⟩
          iterate 2
            · go_wp2_with (first | (first | (go_at_call_of 57 (Value.agg #[Value.int IntKind.i64 ↑tag, Value.bool mo, Value.int IntKind.i64 mk, Value.string mnm, Value.slice mAn mnn mcn, Value.slice mAk mnk mck]); (with_reducible refine hkm.mono ?_); rintro e w2 ⟨⟨⟨xk, xnm, xAn, xnn, xcn, xAk, xnk, xck⟩, he, hxV⟩, hk2⟩; simp only [Tv.val] at he; subst he; have KC := Lib.hid hk2; have HXV := Lib.hid hxV; clear hxV; clear hk2 hkm a0 a1 a2 a3 a4 a5 al b0 b1 b2 b3 b4 b5 bl z0 zl; obtain ⟨⟨al, a0, a1, a2, a3, a4, a5⟩, ⟨bl, b0, b1, b2, b3, b4, b5⟩, zl, z0⟩ := HC.out _ (HK.out.1.trans KC.out (fun _ _ x => x))) | (go_at_call_of 57 (Value.agg #[Value.int IntKind.i64 ↑tag, Value.bool false, Value.int IntKind.i64 mk, Value.string mnm, Value.slice mAn mnn mcn, Value.slice mAk mnk mck]); (with_reducible refine hkm.mono ?_); rintro e w2 ⟨⟨⟨xk, xnm, xAn, xnn, xcn, xAk, xnk, xck⟩, he, hxV⟩, hk2⟩; simp only [Tv.val] at he; subst he; have KC := Lib.hid hk2; have HXV := Lib.hid hxV; clear hxV; clear hk2 hkm a0 a1 a2 a3 a4 a5 al b0 b1 b2 b3 b4 b5 bl z0 zl; obtain ⟨⟨al, a0, a1, a2, a3, a4, a5⟩, ⟨bl, b0, b1, b2, b3, b4, b5⟩, zl, z0⟩ := HC.out _ (HK.out.1.trans KC.out (fun _ _ x => x)))) | (go_at_call_of 57 (Value.agg #[Value.int IntKind.i64 ↑tag, Value.bool false, Value.int IntKind.i64 pk, Value.string pnm, Value.slice (some { block := nb, off := no }) pnn pcn, Value.slice pAk pnk pck]); (with_reducible refine (HKP.out _ (KC.out.alloc _)).mono ?_); rintro e w4 ⟨⟨⟨yk, ynm, yAn, ynn, ycn, yAk, ynk, yck⟩, he, hyV⟩, hk4⟩; simp only [Tv.val] at he; subst he; clear a0 a1 a2 a3 a4 a5 al b0 b1 b2 b3 b4 b5 bl z0 zl; obtain ⟨kl, k0, k1, k2, k3⟩ := (hk4.at_ (At.new w2 _ _) (fun x => x)).tcells; have KD := Lib.hid ((KC.out.alloc _).trans hk4 (fun _ _ x => x)); obtain ⟨⟨al, a0, a1, a2, a3, a4, a5⟩, ⟨bl, b0, b1, b2, b3, b4, b5⟩, zl, z0⟩ := HC.out _ (HK.out.1.trans KD.out (fun _ _ x => x)); have hbc := HI.out (w4.alloc (.cells #[.int .i64 yk, .string ynm, .slice yAn ynn ycn, .slice yAk ynk yck] 25)) ⟨xk, xnm, xAn, xnn, xcn, xAk, xnk, xck⟩ ⟨yk, ynm, yAn, ynn, ycn, yAk, ynk, yck⟩ (HXV.out.step (((Keep.refl (fun _ => False) w2).alloc (.cells #[.int .i64 xk, .string xnm, .slice xAn xnn xcn, .slice xAk xnk xck] 25)).trans hk4 (fun _ _ x => x) |>.alloc _)) (hyV.step ((Keep.refl (fun _ => False) w4).alloc _)); unfold Tv.val at hbc; simp only at hbc; have HBC := Lib.hid hbc; clear hbc; clear hk4 hyV) | (go_at_call 35; refine HBC.out.mono ?_; rintro e w6 ⟨rfl, hk6⟩; have KE := Lib.hid ((KD.out.alloc _).trans hk6 (fun _ _ x => x)); clear hk6))
              go_ret
              exact ⟨ret_bool (blaP_bad H.out.2.2.2.2.2.2.2.2 (List.mem_of_getElem? HK.out.2.2.1) HE.out).symm, HK.out.1.trans KE.out (fun _ _ x => x)⟩
          iterate 2
            · go_wp2_with (first | (first | (go_at_call_of 57 (Value.agg #[Value.int IntKind.i64 ↑tag, Value.bool mo, Value.int IntKind.i64 mk, Value.string mnm, Value.slice mAn mnn mcn, Value.slice mAk mnk mck]); (with_reducible refine hkm.mono ?_); rintro e w2 ⟨⟨⟨xk, xnm, xAn, xnn, xcn, xAk, xnk, xck⟩, he, hxV⟩, hk2⟩; simp only [Tv.val] at he; subst he; have KC := Lib.hid hk2; have HXV := Lib.hid hxV; clear hxV; clear hk2 hkm a0 a1 a2 a3 a4 a5 al b0 b1 b2 b3 b4 b5 bl z0 zl; obtain ⟨⟨al, a0, a1, a2, a3, a4, a5⟩, ⟨bl, b0, b1, b2, b3, b4, b5⟩, zl, z0⟩ := HC.out _ (HK.out.1.trans KC.out (fun _ _ x => x))) | (go_at_call_of 57 (Value.agg #[Value.int IntKind.i64 ↑tag, Value.bool false, Value.int IntKind.i64 mk, Value.string mnm, Value.slice mAn mnn mcn, Value.slice mAk mnk mck]); (with_reducible refine hkm.mono ?_); rintro e w2 ⟨⟨⟨xk, xnm, xAn, xnn, xcn, xAk, xnk, xck⟩, he, hxV⟩, hk2⟩; simp only [Tv.val] at he; subst he; have KC := Lib.hid hk2; have HXV := Lib.hid hxV; clear hxV; clear hk2 hkm a0 a1 a2 a3 a4 a5 al b0 b1 b2 b3 b4 b5 bl z0 zl; obtain ⟨⟨al, a0, a1, a2, a3, a4, a5⟩, ⟨bl, b0, b1, b2, b3, b4, b5⟩, zl, z0⟩ := HC.out _ (HK.out.1.trans KC.out (fun _ _ x => x)))) | (go_at_call_of 57 (Value.agg #[Value.int IntKind.i64 ↑tag, Value.bool false, Value.int IntKind.i64 pk, Value.string pnm, Value.slice (some { block := nb, off := no }) pnn pcn, Value.slice pAk pnk pck]); (with_reducible refine (HKP.out _ (KC.out.alloc _)).mono ?_); rintro e w4 ⟨⟨⟨yk, ynm, yAn, ynn, ycn, yAk, ynk, yck⟩, he, hyV⟩, hk4⟩; simp only [Tv.val] at he; subst he; clear a0 a1 a2 a3 a4 a5 al b0 b1 b2 b3 b4 b5 bl z0 zl; obtain ⟨kl, k0, k1, k2, k3⟩ := (hk4.at_ (At.new w2 _ _) (fun x => x)).tcells; have KD := Lib.hid ((KC.out.alloc _).trans hk4 (fun _ _ x => x)); obtain ⟨⟨al, a0, a1, a2, a3, a4, a5⟩, ⟨bl, b0, b1, b2, b3, b4, b5⟩, zl, z0⟩ := HC.out _ (HK.out.1.trans KD.out (fun _ _ x => x)); have hbc := HI.out (w4.alloc (.cells #[.int .i64 yk, .string ynm, .slice yAn ynn ycn, .slice yAk ynk yck] 25)) ⟨xk, xnm, xAn, xnn, xcn, xAk, xnk, xck⟩ ⟨yk, ynm, yAn, ynn, ycn, yAk, ynk, yck⟩ (HXV.out.step (((Keep.refl (fun _ => False) w2).alloc (.cells #[.int .i64 xk, .string xnm, .slice xAn xnn xcn, .slice xAk xnk xck] 25)).trans hk4 (fun _ _ x => x) |>.alloc _)) (hyV.step ((Keep.refl (fun _ => False) w4).alloc _)); unfold Tv.val at hbc; simp only at hbc; have HBC := Lib.hid hbc; clear hbc; clear hk4 hyV) | (go_at_call 35; refine HBC.out.mono ?_; rintro e w6 ⟨rfl, hk6⟩; have KE := Lib.hid ((KD.out.alloc _).trans hk6 (fun _ _ x => x)); clear hk6))
              go_roundg (pnn - (i + 1))
              case measure => omega
              case rel => exact ⟨i + 1, by go_num, by omega, rfl, take_more HK.out.2.1 HK.out.2.2.1 HE.out, HK.out.1.trans KE.out (fun _ _ x => x)⟩
    · obtain rfl : i = pnn := by omega
      rw [List.take_of_length_le (by omega)] at hall
      have hbel : blaP blamesT pos tag (mo, mt) (false, pt) = true := by rw [blaP_loop h5, allz_iff]; exact hall
      have HE := Lib.hid (And.intro hbel hk)
      clear hall hbel hM hP hmV hpV hnm hnl hLn ih h5 hk
      go_wp2_with fail
      go_ret
      exact ⟨ret_bool HE.out.1.symm, HE.out.2⟩
set_option maxRecDepth 100000 in
set_option maxHeartbeats 8000000 in
theorem bla1_m {tag : Nat} {mo po : Bool} {mt pt : Ty} {pos : Bool} {w : World} {bm bp cb : Nat} (h5 : tag ≠ 5) (ho : po = true) (hM : PrtW tag (mo, mt)) (hP : PrtW tag (po, pt)) (hpm : PartAt w nX bm tag (mo, mt)) (hpp : PartAt w nX bp tag (po, pt)) (hc : At w cb 4 #[.bool pos])
    (ih : ∀ q x y, (x ∈ mt.kids ∨ (mo = true ∧ x = ty0)) → (y ∈ pt.kids ∨ (po = true ∧ y = ty0)) → BlaOk q x y) (ih' : ∀ q x y, (x ∈ mt.kids ∨ (mo = true ∧ x = ty0)) → (y ∈ pt.kids ∨ (po = true ∧ y = ty0)) → BlaOk q y x) :
    Calls Tryd.prog 58 #[.pointer (some ⟨bm, 0, none⟩), .pointer (some ⟨bp, 0, none⟩), .pointer (some ⟨cb, 0, none⟩)] w fun e w' => e = .returned (.bool (blaP blamesT pos tag (mo, mt) (po, pt))) ∧ Keep (fun _ => False) w w' := by
  subst ho
  obtain ⟨⟨mk, mnm, mAn, mnn, mcn, mAk, mnk, mck⟩, hmA, hmV⟩ := hpm
  obtain ⟨⟨pk, pnm, pAn, pnn, pcn, pAk, pnk, pck⟩, hpA, hpV⟩ := hpp
  simp only at hmA hpA hmV hpV
  have hnm := hmV.out.2.2.2.1
  have hnl := hmV.out.2.2.1
  have hnb := hmV.out.1.2.1
  simp only at hnm hnl hnb
  have hLn : (blaL (mo, mt) (true, pt)).length = mnn := by
    have := congrArg List.length (blaL_names (m := (mo, mt)) h5 hP)
    simp at this
    omega
  have h0 : Hid (BlA w blamesT pos (mo, mt) (true, pt) mnn mnn (.int .i64 0) w) := ⟨0, rfl, Nat.zero_le _, rfl, by simp, Keep.refl _ _⟩
  have HC : Hid (∀ w', Keep (fun _ => False) w w' → (bm < w'.heap.size ∧ w'.cell? ⟨bm, 0, none⟩ = some (.int .i64 tag) ∧ w'.cell? ⟨bm, 1, none⟩ = some (.bool mo) ∧ w'.cell? ⟨bm, 2, none⟩ = some (.int .i64 mk) ∧ w'.cell? ⟨bm, 3, none⟩ = some (.string mnm) ∧ w'.cell? ⟨bm, 4, none⟩ = some (.slice mAn mnn mcn) ∧ w'.cell? ⟨bm, 5, none⟩ = some (.slice mAk mnk mck)) ∧ (bp < w'.heap.size ∧ w'.cell? ⟨bp, 0, none⟩ = some (.int .i64 tag) ∧ w'.cell? ⟨bp, 1, none⟩ = some (.bool true) ∧ w'.cell? ⟨bp, 2, none⟩ = some (.int .i64 pk) ∧ w'.cell? ⟨bp, 3, none⟩ = some (.string pnm) ∧ w'.cell? ⟨bp, 4, none⟩ = some (.slice pAn pnn pcn) ∧ w'.cell? ⟨bp, 5, none⟩ = some (.slice pAk pnk pck)) ∧ cb < w'.heap.size ∧ w'.cell? ⟨cb, 0, none⟩ = some (.bool pos)) := fun w' hk => ⟨(hk.at_ hmA (fun x => x)).cells6, (hk.at_ hpA (fun x => x)).cells6, (hk.at_ hc (fun x => x)).lt, (hk.at_ hc (fun x => x)).cell 0⟩
  have H := Lib.hid (And.intro hM (And.intro hP (And.intro hmV (And.intro hpV (And.intro hnm (And.intro hnl (And.intro hLn (And.intro ih h5))))))))
  have d5 : ((tag : Int) == 5) = false := by rw [beq_eq_false_iff_ne]; omega
  obtain ⟨⟨al, a0, a1, a2, a3, a4, a5⟩, ⟨bl, b0, b1, b2, b3, b4, b5⟩, zl, z0⟩ := HC.out w (Keep.refl _ _)
  clear hM hP hmA hpA hmV hpV hnm hnl hc ih ih' hLn h5
  go_enter Tryd.func58, Tryd.ntmps58
  go_wp2_with fail
  clear al a0 a1 a2 a3 a4 a5 bl b0 b1 b2 b3 b4 b5 zl z0
  go_loopg [69] mnn (BlA w blamesT pos (mo, mt) (true, pt) mnn)
  case atStart => exact h0.out
  case round =>
    clear h0
    obtain ⟨i, rfl, hi, rfl, hall, hk⟩ := hrel
    obtain ⟨hM, hP, hmV, hpV, hnm, hnl, hLn, ih, h5⟩ := H.out
    by_cases hlt : i < mnn
    · obtain ⟨⟨s, yt⟩, hx⟩ : ∃ x, (blaL (mo, mt) (true, pt))[i]? = some x := ⟨_, List.getElem?_eq_getElem (by omega)⟩
      have hs : mt.names[i]? = some s := by
        have e := blaL_names (m := (mo, mt)) h5 hP
        have h1 : ((blaL (mo, mt) (true, pt)).map (·.1))[i]? = some s := by rw [List.getElem?_map, hx]; rfl
        rw [e] at h1
        simpa using h1
      obtain ⟨nb, no, rfl, hnz, _, e0⟩ := (hnm.keep hk (fun _ x => x.elim)).scell hlt hs
      obtain ⟨hky, hyk⟩ := blaL_kid h5 hP (List.mem_of_getElem? hx)
      have hkm := kid_any (w := wr) (tag := (tag : Int)) (s := s) (q := ⟨mk, mnm, (some ⟨nb, no, none⟩), mnn, mcn, mAk, mnk, mck⟩) hM.nlek (hmV.step hk)
      have hkp := fun (w' : World) (hk' : Keep (fun _ => False) wr w') => kid_any (w := w') (tag := (tag : Int)) (s := s) (q := ⟨pk, pnm, pAn, pnn, pcn, pAk, pnk, pck⟩) hP.nlek (hpV.step (hk.trans hk' (fun _ _ x => x)))
      obtain ⟨⟨al, a0, a1, a2, a3, a4, a5⟩, ⟨bl, b0, b1, b2, b3, b4, b5⟩, zl, z0⟩ := HC.out wr hk
      simp only at hkm hkp hky hyk
      rw [hky] at hkp
      have HKP := Lib.hid hkp
      have HK := Lib.hid (And.intro hk (And.intro hall (And.intro hx hyk)))
      clear hkp hall hk hx hyk hky hs hM hP hmV hpV hnm hnl hLn ih h5
      cases hkt : kidT (mo, mt) s with
      | none =>
        rw [hkt] at hkm
        have HE := Lib.hid (show blaItem blamesT pos (mo, mt) (s, yt) = !pos by unfold blaItem; simp only [hkt])
        clear hkt
        cases pos
        · go_wp2_with (first | (go_at_call_of 57 (Value.agg #[Value.int IntKind.i64 ↑tag, Value.bool mo, Value.int IntKind.i64 mk, Value.string mnm, Value.slice (some { block := nb, off := no }) mnn mcn, Value.slice mAk mnk mck]); (with_reducible refine hkm.mono ?_); rintro e w2 ⟨⟨⟨zk, znm, zAn, znn, zcn, zAk, znk, zck⟩, he⟩, hk2⟩; simp only [Tv.val] at he; subst he; have KC := Lib.hid hk2; clear hk2 hkm a0 a1 a2 a3 a4 a5 al b0 b1 b2 b3 b4 b5 bl z0 zl; obtain ⟨⟨al, a0, a1, a2, a3, a4, a5⟩, ⟨bl, b0, b1, b2, b3, b4, b5⟩, zl, z0⟩ := HC.out _ (HK.out.1.trans KC.out (fun _ _ x => x))) | (go_at_call_of 57 (Value.agg #[Value.int IntKind.i64 ↑tag, Value.bool true, Value.int IntKind.i64 pk, Value.string pnm, Value.slice pAn pnn pcn, Value.slice pAk pnk pck]); (with_reducible refine (HKP.out _ (KC.out.alloc _)).mono ?_); rintro e w4 ⟨⟨⟨yk, ynm, yAn, ynn, ycn, yAk, ynk, yck⟩, he, hyV⟩, hk4⟩; simp only [Tv.val] at he; subst he; clear a0 a1 a2 a3 a4 a5 al b0 b1 b2 b3 b4 b5 bl z0 zl; obtain ⟨kl, k0, k1, k2, k3⟩ := (hk4.at_ (At.new w2 _ _) (fun x => x)).tcells; have KD := Lib.hid ((KC.out.alloc _).trans hk4 (fun _ _ x => x)); obtain ⟨⟨al, a0, a1, a2, a3, a4, a5⟩, ⟨bl, b0, b1, b2, b3, b4, b5⟩, zl, z0⟩ := HC.out _ (HK.out.1.trans KD.out (fun _ _ x => x)); clear hk4 hyV))
          go_roundg (mnn - (i + 1))
          case measure => omega
          case rel => exact ⟨i + 1, by go_num, by omega, rfl, take_more HK.out.2.1 HK.out.2.2.1 HE.out, HK.out.1.trans (KD.out.alloc _) (fun _ _ x => x)⟩
        · go_wp2_with (first | (go_at_call_of 57 (Value.agg #[Value.int IntKind.i64 ↑tag, Value.bool mo, Value.int IntKind.i64 mk, Value.string mnm, Value.slice (some { block := nb, off := no }) mnn mcn, Value.slice mAk mnk mck]); (with_reducible refine hkm.mono ?_); rintro e w2 ⟨⟨⟨zk, znm, zAn, znn, zcn, zAk, znk, zck⟩, he⟩, hk2⟩; simp only [Tv.val] at he; subst he; have KC := Lib.hid hk2; clear hk2 hkm a0 a1 a2 a3 a4 a5 al b0 b1 b2 b3 b4 b5 bl z0 zl; obtain ⟨⟨al, a0, a1, a2, a3, a4, a5⟩, ⟨bl, b0, b1, b2, b3, b4, b5⟩, zl, z0⟩ := HC.out _ (HK.out.1.trans KC.out (fun _ _ x => x))) | (go_at_call_of 57 (Value.agg #[Value.int IntKind.i64 ↑tag, Value.bool true, Value.int IntKind.i64 pk, Value.string pnm, Value.slice pAn pnn pcn, Value.slice pAk pnk pck]); (with_reducible refine (HKP.out _ (KC.out.alloc _)).mono ?_); rintro e w4 ⟨⟨⟨yk, ynm, yAn, ynn, ycn, yAk, ynk, yck⟩, he, hyV⟩, hk4⟩; simp only [Tv.val] at he; subst he; clear a0 a1 a2 a3 a4 a5 al b0 b1 b2 b3 b4 b5 bl z0 zl; obtain ⟨kl, k0, k1, k2, k3⟩ := (hk4.at_ (At.new w2 _ _) (fun x => x)).tcells; have KD := Lib.hid ((KC.out.alloc _).trans hk4 (fun _ _ x => x)); obtain ⟨⟨al, a0, a1, a2, a3, a4, a5⟩, ⟨bl, b0, b1, b2, b3, b4, b5⟩, zl, z0⟩ := HC.out _ (HK.out.1.trans KD.out (fun _ _ x => x)); clear hk4 hyV))
          go_ret
          exact ⟨ret_bool (blaP_bad H.out.2.2.2.2.2.2.2.2 (List.mem_of_getElem? HK.out.2.2.1) HE.out).symm, HK.out.1.trans (KD.out.alloc _) (fun _ _ x => x)⟩
      | some kd =>
        rw [hkt] at hkm
        have HE := Lib.hid (show blaItem blamesT pos (mo, mt) (s, yt) = (!(pos && mo) && blamesT pos kd yt) by unfold blaItem; simp only [hkt])
        have hmem := kidT_mem hkt
        have hih := H.out.2.2.2.2.2.2.2.1 pos kd yt hmem HK.out.2.2.2
        have HI := Lib.hid hih
        clear hkt hmem hih
        cases hpo : (pos && mo) with
        | true =>
          simp only [Bool.and_eq_true] at hpo
          obtain ⟨rfl, rfl⟩ := hpo
          go_wp2_with (first | (go_at_call_of 57 (Value.agg #[Value.int IntKind.i64 ↑tag, Value.bool Bool.true, Value.int IntKind.i64 mk, Value.string mnm, Value.slice (some { block := nb, off := no }) mnn mcn, Value.slice mAk mnk mck]); (with_reducible refine hkm.mono ?_); rintro e w2 ⟨⟨⟨xk, xnm, xAn, xnn, xcn, xAk, xnk, xck⟩, he, hxV⟩, hk2⟩; simp only [Tv.val] at he; subst he; have KC := Lib.hid hk2; clear hk2 hkm a0 a1 a2 a3 a4 a5 al b0 b1 b2 b3 b4 b5 bl z0 zl; obtain ⟨⟨al, a0, a1, a2, a3, a4, a5⟩, ⟨bl, b0, b1, b2, b3, b4, b5⟩, zl, z0⟩ := HC.out _ (HK.out.1.trans KC.out (fun _ _ x => x))) | (go_at_call_of 57 (Value.agg #[Value.int IntKind.i64 ↑tag, Value.bool true, Value.int IntKind.i64 pk, Value.string pnm, Value.slice pAn pnn pcn, Value.slice pAk pnk pck]); (with_reducible refine (HKP.out _ (KC.out.alloc _)).mono ?_); rintro e w4 ⟨⟨⟨yk, ynm, yAn, ynn, ycn, yAk, ynk, yck⟩, he, hyV⟩, hk4⟩; simp only [Tv.val] at he; subst he; clear a0 a1 a2 a3 a4 a5 al b0 b1 b2 b3 b4 b5 bl z0 zl; obtain ⟨kl, k0, k1, k2, k3⟩ := (hk4.at_ (At.new w2 _ _) (fun x => x)).tcells; have KD := Lib.hid ((KC.out.alloc _).trans hk4 (fun _ _ x => x)); obtain ⟨⟨al, a0, a1, a2, a3, a4, a5⟩, ⟨bl, b0, b1, b2, b3, b4, b5⟩, zl, z0⟩ := HC.out _ (HK.out.1.trans KD.out (fun _ _ x => x)); clear hk4 hyV))
          go_ret
          exact ⟨ret_bool (blaP_bad H.out.2.2.2.2.2.2.2.2 (List.mem_of_getElem? HK.out.2.2.1) (HE.out.trans rfl)).symm, HK.out.1.trans (KD.out.alloc _) (fun _ _ x => x)⟩
        | false =>
          have hcs : (pos = false) ∨ (pos = true ∧ mo = false) := by cases pos <;> cases mo <;> simp_all
          rw [hpo] at HE
          clear hpo
          cases hv : blamesT pos kd yt
          all_goals unfold BlaOk at HI
          all_goals rw [hv] at HI HE
          all_goals clear hv
          all_goals rcases hcs with rfl | ⟨rfl, rfl⟩
          iterate 2
            · go_wp2_with (first | (first | (go_at_call_of 57 (Value.agg #[Value.int IntKind.i64 ↑tag, Value.bool mo, Value.int IntKind.i64 mk, Value.string mnm, Value.slice (some { block := nb, off := no }) mnn mcn, Value.slice mAk mnk mck]); (with_reducible refine hkm.mono ?_); rintro e w2 ⟨⟨⟨xk, xnm, xAn, xnn, xcn, xAk, xnk, xck⟩, he, hxV⟩, hk2⟩; simp only [Tv.val] at he; subst he; have KC := Lib.hid hk2; have HXV := Lib.hid hxV; clear hxV; clear hk2 hkm a0 a1 a2 a3 a4 a5 al b0 b1 b2 b3 b4 b5 bl z0 zl; obtain ⟨⟨al, a0, a1, a2, a3, a4, a5⟩, ⟨bl, b0, b1, b2, b3, b4, b5⟩, zl, z0⟩ := HC.out _ (HK.out.1.trans KC.out (fun _ _ x => x))) | (go_at_call_of 57 (Value.agg #[Value.int IntKind.i64 ↑tag, Value.bool false, Value.int IntKind.i64 mk, Value.string mnm, Value.slice (some { block := nb, off := no }) mnn mcn, Value.slice mAk mnk mck]); (with_reducible refine hkm.mono ?_); rintro e w2 ⟨⟨⟨xk, xnm, xAn, xnn, xcn, xAk, xnk, xck⟩, he, hxV⟩, hk2⟩; simp only [Tv.val] at he; subst he; have KC := Lib.hid hk2; have HXV := Lib.hid hxV; clear hxV; clear hk2 hkm a0 a1 a2 a3 a4 a5 al b0 b1 b2 b3 b4 b5 bl z0 zl; obtain ⟨⟨al, a0, a1, a2, a3, a4, a5⟩, ⟨bl, b0, b1, b2, b3, b4, b5⟩, zl, z0⟩ := HC.out _ (HK.out.1.trans KC.out (fun _ _ x => x)))) | (go_at_call_of 57 (Value.agg #[Value.int IntKind.i64 ↑tag, Value.bool true, Value.int IntKind.i64 pk, Value.string pnm, Value.slice pAn pnn pcn, Value.slice pAk pnk pck]); (with_reducible refine (HKP.out _ (KC.out.alloc _)).mono ?_); rintro e w4 ⟨⟨⟨yk, ynm, yAn, ynn, ycn, yAk, ynk, yck⟩, he, hyV⟩, hk4⟩; simp only [Tv.val] at he; subst he; clear a0 a1 a2 a3 a4 a5 al b0 b1 b2 b3 b4 b5 bl z0 zl; obtain ⟨kl, k0, k1, k2, k3⟩ := (hk4.at_ (At.new w2 _ _) (fun x => x)).tcells; have KD := Lib.hid ((KC.out.alloc _).trans hk4 (fun _ _ x => x)); obtain ⟨⟨al, a0, a1, a2, a3, a4, a5⟩, ⟨bl, b0, b1, b2, b3, b4, b5⟩, zl, z0⟩ := HC.out _ (HK.out.1.trans KD.out (fun _ _ x => x)); have hbc := HI.out (w4.alloc (.cells #[.int .i64 yk, .string ynm, .slice yAn ynn ycn, .slice yAk ynk yck] 25)) ⟨xk, xnm, xAn, xnn, xcn, xAk, xnk, xck⟩ ⟨yk, ynm, yAn, ynn, ycn, yAk, ynk, yck⟩ (HXV.out.step (((Keep.refl (fun _ => False) w2).alloc (.cells #[.int .i64 xk, .string xnm, .slice xAn xnn xcn, .slice xAk xnk xck] 25)).trans hk4 (fun _ _ x => x) |>.alloc _)) (hyV.step ((Keep.refl (fun _ => False) w4).alloc _)); unfold Tv.val at hbc; simp only at hbc; have HBC := Lib.hid hbc; clear hbc; clear hk4 hyV) | (go_at_call 35; refine HBC.out.mono ?_; rintro e w6 ⟨rfl, hk6⟩; have KE := Lib.hid ((KD.out.alloc _).trans hk6 (fun _ _ x => x)); clear hk6))
              go_ret
              exact ⟨ret_bool (blaP_bad H.out.2.2.2.2.2.2.2.2 (List.mem_of_getElem? HK.out.2.2.1) HE.out).symm, HK.out.1.trans KE.out (fun _ _ x => x)⟩
          iterate 2
            · go_wp2_with (first | (first | (go_at_call_of 57 (Value.agg #[Value.int IntKind.i64 ↑tag, Value.bool mo, Value.int IntKind.i64 mk, Value.string mnm, Value.slice (some { block := nb, off := no }) mnn mcn, Value.slice mAk mnk mck]); (with_reducible refine hkm.mono ?_); rintro e w2 ⟨⟨⟨xk, xnm, xAn, xnn, xcn, xAk, xnk, xck⟩, he, hxV⟩, hk2⟩; simp only [Tv.val] at he; subst he; have KC := Lib.hid hk2; have HXV := Lib.hid hxV; clear hxV; clear hk2 hkm a0 a1 a2 a3 a4 a5 al b0 b1 b2 b3 b4 b5 bl z0 zl; obtain ⟨⟨al, a0, a1, a2, a3, a4, a5⟩, ⟨bl, b0, b1, b2, b3, b4, b5⟩, zl, z0⟩ := HC.out _ (HK.out.1.trans KC.out (fun _ _ x => x))) | (go_at_call_of 57 (Value.agg #[Value.int IntKind.i64 ↑tag, Value.bool false, Value.int IntKind.i64 mk, Value.string mnm, Value.slice (some { block := nb, off := no }) mnn mcn, Value.slice mAk mnk mck]); (with_reducible refine hkm.mono ?_); rintro e w2 ⟨⟨⟨xk, xnm, xAn, xnn, xcn, xAk, xnk, xck⟩, he, hxV⟩, hk2⟩; simp only [Tv.val] at he; subst he; have KC := Lib.hid hk2; have HXV := Lib.hid hxV; clear hxV; clear hk2 hkm a0 a1 a2 a3 a4 a5 al b0 b1 b2 b3 b4 b5 bl z0 zl; obtain ⟨⟨al, a0, a1, a2, a3, a4, a5⟩, ⟨bl, b0, b1, b2, b3, b4, b5⟩, zl, z0⟩ := HC.out _ (HK.out.1.trans KC.out (fun _ _ x => x)))) | (go_at_call_of 57 (Value.agg #[Value.int IntKind.i64 ↑tag, Value.bool true, Value.int IntKind.i64 pk, Value.string pnm, Value.slice pAn pnn pcn, Value.slice pAk pnk pck]); (with_reducible refine (HKP.out _ (KC.out.alloc _)).mono ?_); rintro e w4 ⟨⟨⟨yk, ynm, yAn, ynn, ycn, yAk, ynk, yck⟩, he, hyV⟩, hk4⟩; simp only [Tv.val] at he; subst he; clear a0 a1 a2 a3 a4 a5 al b0 b1 b2 b3 b4 b5 bl z0 zl; obtain ⟨kl, k0, k1, k2, k3⟩ := (hk4.at_ (At.new w2 _ _) (fun x => x)).tcells; have KD := Lib.hid ((KC.out.alloc _).trans hk4 (fun _ _ x => x)); obtain ⟨⟨al, a0, a1, a2, a3, a4, a5⟩, ⟨bl, b0, b1, b2, b3, b4, b5⟩, zl, z0⟩ := HC.out _ (HK.out.1.trans KD.out (fun _ _ x => x)); have hbc := HI.out (w4.alloc (.cells #[.int .i64 yk, .string ynm, .slice yAn ynn ycn, .slice yAk ynk yck] 25)) ⟨xk, xnm, xAn, xnn, xcn, xAk, xnk, xck⟩ ⟨yk, ynm, yAn, ynn, ycn, yAk, ynk, yck⟩ (HXV.out.step (((Keep.refl (fun _ => False) w2).alloc (.cells #[.int .i64 xk, .string xnm, .slice xAn xnn xcn, .slice xAk xnk xck] 25)).trans hk4 (fun _ _ x => x) |>.alloc _)) (hyV.step ((Keep.refl (fun _ => False) w4).alloc _)); unfold Tv.val at hbc; simp only at hbc; have HBC := Lib.hid hbc; clear hbc; clear hk4 hyV) | (go_at_call 35; refine HBC.out.mono ?_; rintro e w6 ⟨rfl, hk6⟩; have KE := Lib.hid ((KD.out.alloc _).trans hk6 (fun _ _ x => x)); clear hk6))
              go_roundg (mnn - (i + 1))
              case measure => omega
              case rel => exact ⟨i + 1, by go_num, by omega, rfl, take_more HK.out.2.1 HK.out.2.2.1 HE.out, HK.out.1.trans KE.out (fun _ _ x => x)⟩
    · obtain rfl : i = mnn := by omega
      rw [List.take_of_length_le (by omega)] at hall
      have hbel : blaP blamesT pos tag (mo, mt) (true, pt) = true := by rw [blaP_loop h5, allz_iff]; exact hall
      have HE := Lib.hid (And.intro hbel hk)
      clear hall hbel hM hP hmV hpV hnm hnl hLn ih h5 hk
      go_wp2_with fail
      go_ret
      exact ⟨ret_bool HE.out.1.symm, HE.out.2⟩
end Go.Proofs.YtbanpohholnkaaaDoor
