/-
  Walk: rel.blames. Conditions: normal types.
-/
import Derived.Test.YtbanpohholnkaaaDoorWBlames
namespace Go.Proofs.YtbanpohholnkaaaDoor
open Go.RowKit

set_option maxRecDepth 100000 in
set_option maxHeartbeats 8000000 in
theorem blames_any : ∀ (n : Nat) (a b : Ty) (l : Bool), a.size + b.size ≤ n → NF a → NF b → BlaOk l a b := by
  intro n
  induction n with
  | zero => intro a b l h; have := a.size_pos; omega
  | succ n ih =>
    intro a b l hsz na nb w r r' h h'
    have key : ¬ (a.kind = 0 ∧ b.kind = 0) → ∀ (w' : World) (cb : Nat), TyV w' nX r a → TyV w' nX r' b → At w' cb 4 #[.bool l] → Calls Tryd.prog 55 #[r.val, r'.val, .bool (!l), .func (.func 58) #[] #[.pointer (some ⟨cb, 0, none⟩)]] w' fun e w'' => e = .returned (.bool (eachB a b (!l) (blaP blamesT l))) ∧ Keep (fun _ => False) w' w'' := fun hab w' cb h1 h2 hc => each_blames (blaP blamesT l) na nb h1 h2 (fun tag m p w'' bm bp ht hm hp hk hPA hPB => by
      obtain ⟨mo, mt⟩ := m
      obtain ⟨po, pt⟩ := p
      have wm := prt_w na ht hm
      have wp := prt_w nb ht hp
      have nx : ∀ x, (x ∈ mt.kids ∨ (mo = true ∧ x = ty0)) → NF x := fun x hx => hx.elim (fun h => wm.nf x h) (fun h => by rw [h.2]; exact nf_0)
      have ny : ∀ x, (x ∈ pt.kids ∨ (po = true ∧ x = ty0)) → NF x := fun x hx => hx.elim (fun h => wp.nf x h) (fun h => by rw [h.2]; exact nf_0)
      have i1 : ∀ q x y, (x ∈ mt.kids ∨ (mo = true ∧ x = ty0)) → (y ∈ pt.kids ∨ (po = true ∧ y = ty0)) → BlaOk q x y := fun q x y hx hy => ih x y q (by have := bla_lt hab hm hp x y hx hy; omega) (nx x hx) (ny y hy)
      have i2 : ∀ q x y, (x ∈ mt.kids ∨ (mo = true ∧ x = ty0)) → (y ∈ pt.kids ∨ (po = true ∧ y = ty0)) → BlaOk q y x := fun q x y hx hy => ih y x q (by have := bla_lt hab hm hp x y hx hy; omega) (ny y hy) (nx x hx)
      by_cases h5 : tag = 5
      · exact bla1_fun h5 wm wp hPA hPB (hk.at_ hc (fun x => x)) i1 i2
      · cases po
        · exact bla1_p h5 rfl wm wp hPA hPB (hk.at_ hc (fun x => x)) i1 i2
        · exact bla1_m h5 rfl wm wp hPA hPB (hk.at_ hc (fun x => x)) i1 i2)
    have hres := blamesT_eq l a b
    obtain ⟨k, nm, An, nn, cn, Ak, nk, ck⟩ := r
    obtain ⟨k', nm', An', nn', cn', Ak', nk', ck'⟩ := r'
    have kw : Keep (fun _ => False) w (((w.alloc (.cells #[.int .i64 k, .string nm, .slice An nn cn, .slice Ak nk ck] 25)).alloc (.cells #[.int .i64 k', .string nm', .slice An' nn' cn', .slice Ak' nk' ck'] 25)).alloc (.cells #[.bool l] 4)) := (((Keep.refl _ w).alloc _).alloc _).alloc _
    have a0 : At (((w.alloc (.cells #[.int .i64 k, .string nm, .slice An nn cn, .slice Ak nk ck] 25)).alloc (.cells #[.int .i64 k', .string nm', .slice An' nn' cn', .slice Ak' nk' ck'] 25)).alloc (.cells #[.bool l] 4)) w.heap.size 25 #[.int .i64 k, .string nm, .slice An nn cn, .slice Ak nk ck] := ((At.new _ _ _).alloc _).alloc _
    have a1 : At (((w.alloc (.cells #[.int .i64 k, .string nm, .slice An nn cn, .slice Ak nk ck] 25)).alloc (.cells #[.int .i64 k', .string nm', .slice An' nn' cn', .slice Ak' nk' ck'] 25)).alloc (.cells #[.bool l] 4)) (w.heap.size + 1) 25 #[.int .i64 k', .string nm', .slice An' nn' cn', .slice Ak' nk' ck'] := (At.new_at (by simp)).alloc _
    have a2 : At (((w.alloc (.cells #[.int .i64 k, .string nm, .slice An nn cn, .slice Ak nk ck] 25)).alloc (.cells #[.int .i64 k', .string nm', .slice An' nn' cn', .slice Ak' nk' ck'] 25)).alloc (.cells #[.bool l] 4)) (w.heap.size + 1 + 1) 4 #[.bool l] := At.new_at (by simp)
    have hDA := fun (w' : World) (hk : Keep (fun _ => False) (((w.alloc (.cells #[.int .i64 k, .string nm, .slice An nn cn, .slice Ak nk ck] 25)).alloc (.cells #[.int .i64 k', .string nm', .slice An' nn' cn', .slice Ak' nk' ck'] 25)).alloc (.cells #[.bool l] 4)) w') => dynamic_any ((h.step kw).step hk)
    have hDB := fun (w' : World) (hk : Keep (fun _ => False) (((w.alloc (.cells #[.int .i64 k, .string nm, .slice An nn cn, .slice Ak nk ck] 25)).alloc (.cells #[.int .i64 k', .string nm', .slice An' nn' cn', .slice Ak' nk' ck'] 25)).alloc (.cells #[.bool l] 4)) w') => dynamic_any ((h'.step kw).step hk)
    have hE : ¬ (a.kind = 0 ∧ b.kind = 0) → ∀ (w' : World), Keep (fun _ => False) (((w.alloc (.cells #[.int .i64 k, .string nm, .slice An nn cn, .slice Ak nk ck] 25)).alloc (.cells #[.int .i64 k', .string nm', .slice An' nn' cn', .slice Ak' nk' ck'] 25)).alloc (.cells #[.bool l] 4)) w' → Calls Tryd.prog 55 _ w' _ := fun h1 w' hk => key h1 w' (w.heap.size + 1 + 1) ((h.step kw).step hk) ((h'.step kw).step hk) (hk.at_ a2 (fun x => x))
    have H := Lib.hid (And.intro kw (And.intro a0 (And.intro a1 a2)))
    unfold Tv.val at hDA hDB hE ⊢
    simp only at hDA hDB hE ⊢
    clear key ih hsz na nb h h' kw a0 a1 a2
    go_enter Tryd.func35, Tryd.ntmps35
    go_upto_region 1 with fail
    generalize (((w.alloc (.cells #[.int .i64 k, .string nm, .slice An nn cn, .slice Ak nk ck] 25)).alloc (.cells #[.int .i64 k', .string nm', .slice An' nn' cn', .slice Ak' nk' ck'] 25)).alloc (.cells #[.bool l] 4)) = w1 at *
    generalize w.heap.size = bx at *
    have DA := Lib.hid hDA
    have DB := Lib.hid hDB
    have HEE := Lib.hid hE
    have HC : Hid (∀ w', Keep (fun _ => False) w1 w' → (bx < w'.heap.size ∧ w'.cell? ⟨bx, 0, none⟩ = some (.int .i64 k) ∧ w'.cell? ⟨bx, 1, none⟩ = some (.string nm) ∧ w'.cell? ⟨bx, 2, none⟩ = some (.slice An nn cn) ∧ w'.cell? ⟨bx, 3, none⟩ = some (.slice Ak nk ck)) ∧ (bx + 1 < w'.heap.size ∧ w'.cell? ⟨bx + 1, 0, none⟩ = some (.int .i64 k') ∧ w'.cell? ⟨bx + 1, 1, none⟩ = some (.string nm') ∧ w'.cell? ⟨bx + 1, 2, none⟩ = some (.slice An' nn' cn') ∧ w'.cell? ⟨bx + 1, 3, none⟩ = some (.slice Ak' nk' ck')) ∧ bx + 1 + 1 < w'.heap.size ∧ w'.cell? ⟨bx + 1 + 1, 0, none⟩ = some (.bool l)) := fun w' hk => ⟨(hk.at_ H.out.2.1 (fun x => x)).tcells, (hk.at_ H.out.2.2.1 (fun x => x)).tcells, (hk.at_ H.out.2.2.2 (fun x => x)).lt, (hk.at_ H.out.2.2.2 (fun x => x)).cell 0⟩
    have KC : Hid (Keep (fun _ => False) w1 w1) := Keep.refl _ _
    obtain ⟨⟨xl, x0, x1, x2, x3⟩, ⟨yl, y0, y1, y2, y3⟩, zl, z0⟩ := HC.out w1 KC.out
    clear hDA hDB hE
    have HR := Lib.hid hres
    clear hres
    cases hda : decide (a.kind = 0)
    all_goals cases hdb : decide (b.kind = 0)
    all_goals cases l
    all_goals (
      rw [hda] at DA
      rw [hdb] at DB
      have HD := Lib.hid (And.intro hda hdb)
      clear hda hdb
      simp only [Bool.not_false, Bool.not_true] at HEE
      go_wp2_with (first
        | (go_at_call_of 47 (Value.agg #[Value.int IntKind.i64 k, Value.string nm, Value.slice An nn cn, Value.slice Ak nk ck]); (with_reducible refine (DA.out _ KC.out).mono ?_); rintro e w2 ⟨rfl, hk⟩; have KN := Lib.hid (KC.out.trans hk (fun _ _ x => x)); clear KC hk xl x0 x1 x2 x3 yl y0 y1 y2 y3 zl z0; have KC := KN; clear KN; obtain ⟨⟨xl, x0, x1, x2, x3⟩, ⟨yl, y0, y1, y2, y3⟩, zl, z0⟩ := HC.out _ KC.out)
        | (go_at_call_of 47 (Value.agg #[Value.int IntKind.i64 k', Value.string nm', Value.slice An' nn' cn', Value.slice Ak' nk' ck']); (with_reducible refine (DB.out _ KC.out).mono ?_); rintro e w2 ⟨rfl, hk⟩; have KN := Lib.hid (KC.out.trans hk (fun _ _ x => x)); clear KC hk xl x0 x1 x2 x3 yl y0 y1 y2 y3 zl z0; have KC := KN; clear KN; obtain ⟨⟨xl, x0, x1, x2, x3⟩, ⟨yl, y0, y1, y2, y3⟩, zl, z0⟩ := HC.out _ KC.out)
        | (go_at_call 55; refine (HEE.out (fun hab => by have e1 := HD.out.1; have e2 := HD.out.2; rw [hab.1] at e1; rw [hab.2] at e2; first | exact absurd e1 (by decide) | exact absurd e2 (by decide)) _ KC.out).mono ?_; rintro e w2 ⟨rfl, hk⟩; have KN := Lib.hid (KC.out.trans hk (fun _ _ x => x)); clear KC hk; have KC := KN; clear KN))
      go_ret
      refine ⟨?_, H.out.1.trans KC.out (fun _ _ x => x)⟩
      rw [HR.out]
      have e1 := HD.out.1
      have e2 := HD.out.2
      simp only [decide_eq_true_eq, decide_eq_false_iff_not] at e1 e2
      simp [e1, e2])
end Go.Proofs.YtbanpohholnkaaaDoor
