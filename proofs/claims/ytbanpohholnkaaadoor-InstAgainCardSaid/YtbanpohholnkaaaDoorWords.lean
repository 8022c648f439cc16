/-
  Short words of the walks: literals in memory; a world under a name. Conditions: none.
-/
import Derived.Test.YtbanpohholnkaaaDoorWNormF
import Derived.Test.YtbanpohholnkaaaDoorOpen
namespace Go.Proofs.YtbanpohholnkaaaDoor
open Go.RowKit

theorem Rd.lit {w : World} {X : Nat → Prop} {b : Nat} {e : TypeId} {cs : Array Value} {n size : Nat} (h : At w b e cs) (hX : ¬ X b) (hs : cs.size = n * size) : Rd w X size (.slice (some ⟨b, 0, none⟩) n n) n cs.toList := by
  refine ⟨by simpa using hs, _, _, rfl, Nat.le_refl _, fun _ => ⟨b, 0, rfl, h.lt, hX, fun j hj => ?_⟩⟩
  rw [Nat.zero_add, h.cell]
  simp
theorem tv_base {w : World} {X : Nat → Prop} (k : Int) : TyV w X ⟨k, ⟨#[]⟩, none, 0, 0, none, 0, 0⟩ (.mk k ⟨#[]⟩ [] []) :=
  TyV.mk (rs := []) ⟨rfl, Nat.zero_le _, Nat.zero_le _⟩ rfl rfl (Rd.nil w X 1) rfl (Rd.nil w X 4) trivial
theorem tv_two {w : World} {X : Nat → Prop} {b : Nat} {e : TypeId} {q1 q2 : Tv} {t1 t2 : Ty} (k : Int) (h : At w b e (q1.vals ++ q2.vals).toArray) (hX : ¬ X b) (h1 : TyV w X q1 t1) (h2 : TyV w X q2 t2) : TyV w X ⟨k, ⟨#[]⟩, none, 0, 0, some ⟨b, 0, none⟩, 2, 2⟩ (.mk k ⟨#[]⟩ [] [t1, t2]) :=
  TyV.mk (rs := [q1, q2]) ⟨rfl, Nat.zero_le _, (by decide : 2 ≤ 140737488355328)⟩ rfl rfl (Rd.nil w X 1) rfl (by have := Rd.lit (X := X) (size := 4) (n := 2) h hX rfl; simpa [tflat, Ty.kids] using this) ⟨h1, h2, trivial⟩
theorem tv_rec {w : World} {X : Nat → Prop} {b c : Nat} {e f : TypeId} {q1 q2 : Tv} {t1 t2 : Ty} {s1 s2 : ByteArray} (hc : At w c f #[.string s1, .string s2]) (hXc : ¬ X c) (h : At w b e (q1.vals ++ q2.vals).toArray) (hX : ¬ X b) (h1 : TyV w X q1 t1) (h2 : TyV w X q2 t2) : TyV w X ⟨5, ⟨#[]⟩, some ⟨c, 0, none⟩, 2, 2, some ⟨b, 0, none⟩, 2, 2⟩ (.mk 5 ⟨#[]⟩ [s1, s2] [t1, t2]) :=
  TyV.mk (rs := [q1, q2]) ⟨rfl, (by decide : 2 ≤ 140737488355328), (by decide : 2 ≤ 140737488355328)⟩ rfl rfl (Rd.lit (X := X) (size := 1) (n := 2) hc hXc rfl) rfl (by have := Rd.lit (X := X) (size := 4) (n := 2) h hX rfl; simpa [tflat, Ty.kids] using this) ⟨h1, h2, trivial⟩
theorem tv_rec1 {w : World} {X : Nat → Prop} {b c : Nat} {e f : TypeId} {q1 : Tv} {t1 : Ty} {s1 : ByteArray} (hc : At w c f #[.string s1]) (hXc : ¬ X c) (h : At w b e q1.vals.toArray) (hX : ¬ X b) (h1 : TyV w X q1 t1) : TyV w X ⟨5, ⟨#[]⟩, some ⟨c, 0, none⟩, 1, 1, some ⟨b, 0, none⟩, 1, 1⟩ (.mk 5 ⟨#[]⟩ [s1] [t1]) :=
  TyV.mk (rs := [q1]) ⟨rfl, (by decide : 1 ≤ 140737488355328), (by decide : 1 ≤ 140737488355328)⟩ rfl rfl (Rd.lit (X := X) (size := 1) (n := 1) hc hXc rfl) rfl (by have := Rd.lit (X := X) (size := 4) (n := 1) h hX rfl; simpa [tflat, Ty.kids] using this) ⟨h1, trivial⟩
theorem gen_world {P : Program} {c : Code} {Q : Exit → Act → World → Prop} {a : Act} {w : World} (h : ∀ W, W = w → c.wp P Q a W) : c.wp P Q a w := h w rfl
theorem Keep.drewN {X : Nat → Prop} {a w : World} (h : Keep X a w) (n : Nat) : Keep X a (w.drewN n) := by
  induction n with
  | zero => exact h
  | succ n ih => exact ih.drew
theorem At.tcells {w : World} {b : Nat} {v0 v1 v2 v3 : Value} (h : At w b 25 #[v0, v1, v2, v3]) : b < w.heap.size ∧ w.cell? ⟨b, 0, none⟩ = some v0 ∧ w.cell? ⟨b, 1, none⟩ = some v1 ∧ w.cell? ⟨b, 2, none⟩ = some v2 ∧ w.cell? ⟨b, 3, none⟩ = some v3 :=
  ⟨h.lt, h.cell 0, h.cell 1, h.cell 2, h.cell 3⟩
theorem At.cells6 {w : World} {b : Nat} {e : TypeId} {v0 v1 v2 v3 v4 v5 : Value} (h : At w b e #[v0, v1, v2, v3, v4, v5]) : b < w.heap.size ∧ w.cell? ⟨b, 0, none⟩ = some v0 ∧ w.cell? ⟨b, 1, none⟩ = some v1 ∧ w.cell? ⟨b, 2, none⟩ = some v2 ∧ w.cell? ⟨b, 3, none⟩ = some v3 ∧ w.cell? ⟨b, 4, none⟩ = some v4 ∧ w.cell? ⟨b, 5, none⟩ = some v5 :=
  ⟨h.lt, h.cell 0, h.cell 1, h.cell 2, h.cell 3, h.cell 4, h.cell 5⟩
theorem arr6 {cs : Array Value} (h : cs.size = 6) : ∃ v0 v1 v2 v3 v4 v5, cs = #[v0, v1, v2, v3, v4, v5] := by
  obtain ⟨l⟩ := cs
  match l, h with
  | [a, b, c, d, e, f], _ => exact ⟨a, b, c, d, e, f, rfl⟩
end Go.Proofs.YtbanpohholnkaaaDoor
