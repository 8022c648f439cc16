/-
  What both walks of norm use: the kids that were kept, a result in a cell. Conditions: none.
-/
import Derived.Test.YtbanpohholnkaaaDoorWUnion
import Derived.Test.YtbanpohholnkaaaDoorNormT
namespace Go.Proofs.YtbanpohholnkaaaDoor
open Go.RowKit

structure NmR (w1 : World) (X : Nat → Prop) (ks : List Ty) (i : Nat) (lv : Value) (rs : List Tv) (l : List Ty) (wr : World) : Prop where
  keep : Keep (fun _ => False) w1 wr
  own : wr.ownsRow 0 25 4 lv i (tflat rs)
  tys : TysV wr (fun g => X g ∨ lv.ownBlock = some g) rs l
  new : ∀ g, lv.ownBlock = some g → w1.heap.size ≤ g
  eq : normL (ks.take i) = some l
def NmA (w1 : World) (X : Nat → Prop) (ks : List Ty) (n : Nat) (k : Nat) (a b : Value) (wr : World) : Prop :=
  ∃ (i : Nat) (lv : Value) (rs : List Tv) (l : List Ty), a = lv ∧ b = .int .i64 i ∧ i ≤ n ∧ k = n - i ∧ NmR w1 X ks i lv rs l wr
theorem NmR.app {w1 wr w2 w3 w4 : World} {X : Nat → Prop} {ks : List Ty} {i g cap : Nat} {lv : Value} {rs : List Tv} {l : List Ty} {r : Tv} {kd t : Ty} (h : NmR w1 X ks i lv rs l wr) (hkd : ks[i]? = some kd) (ht : normT kd = some t)
    (hk2 : Keep (fun _ => False) wr w2) (hr : TyV w2 (fun g => X g ∨ lv.ownBlock = some g) r t) (hk3 : Keep (fun _ => False) w2 w3)
    (ho : w4.ownsRow 0 25 4 (.slice (some ⟨g, 0, none⟩) (i + 1) cap) (i + 1) (tflat rs ++ r.vals)) (hk : Keep (fun k => lv.ownBlock = some k) w3 w4) (hg : lv.ownBlock = some g ∨ w3.heap.size ≤ g) :
    NmR w1 X ks (i + 1) (.slice (some ⟨g, 0, none⟩) (i + 1) cap) (rs ++ [r]) (l ++ [t]) w4 := by
  have hs2 := hk2.size
  have hs3 := hk3.size
  have hs1 := h.keep.size
  have gg : ∀ j, Value.ownBlock (.slice (some ⟨g, 0, none⟩) (i + 1) cap) = some j → lv.ownBlock = some j ∨ w3.heap.size ≤ j := fun j hj => by
    simp only [Value.ownBlock, Option.some.injEq] at hj
    subst hj
    exact hg
  refine ⟨((h.keep.trans hk2 (fun _ _ x => x)).trans hk3 (fun _ _ x => x)).weak hk (fun j hj => h.new j hj), ?_, ?_, fun j hj => ?_, ?_⟩
  · rw [tflat_append, tflat_one_vals]
    exact ho
  · have h1 : TysV w3 (fun g => X g ∨ lv.ownBlock = some g) (rs ++ [r]) (l ++ [t]) := ((h.tys.step hk2).step hk3).snoc (hr.step hk3)
    refine h1.keep hk (fun j _ hj => .inr hj) (fun j hjl hj => ?_)
    rcases hj with hj | hj
    · exact .inl hj
    · rcases gg j hj with e | e
      · exact .inr e
      · omega
  · rcases gg j hj with e | e
    · exact h.new j e
    · omega
  · rw [List.take_add_one, hkd]
    simp only [Option.toList_some]
    rw [normL_snoc, h.eq, ht]
    rfl

theorem ret_cell {fn : Func} {a s : Tmp} (h : fn.results = #[.cell a 25, .tmp s]) {tmps : Array Value} {w : World} {b : Nat} {v0 v1 v2 v3 : Value} (ha : tmps.getD a undef = .pointer (some ⟨b, 0, none⟩)) (hb : At w b 25 #[v0, v1, v2, v3]) :
    (results fn tmps).run Tryd.prog w = .ok (.tuple #[.agg #[v0, v1, v2, v3], tmps.getD s undef]) w := by
  have h0 : w.cell? ⟨b, 0, none⟩ = some v0 := hb.cell 0
  have h1 : w.cell? ⟨b, 1, none⟩ = some v1 := hb.cell 1
  have h2 : w.cell? ⟨b, 2, none⟩ = some v2 := hb.cell 2
  have h3 : w.cell? ⟨b, 3, none⟩ = some v3 := hb.cell 3
  have hl := hb.lt
  have ia := Tryd.isAgg25 w
  simp only [Array.getD_eq_getD_getElem?] at ha
  simp [results, h, ha, go_sem, ia, h0, h1, h2, h3]
theorem TyV.leaf (w : World) (X : Nat → Prop) (k : Int) : TyV w X ⟨k, ⟨#[]⟩, none, 0, 0, none, 0, 0⟩ (.mk k ⟨#[]⟩ [] []) := TyV.mk (rs := []) ⟨rfl, Nat.zero_le _, Nat.zero_le _⟩ rfl rfl (Rd.nil _ X 1) rfl (Rd.nil _ X 4) trivial
theorem headT_none {k : Int} (ns : List ByteArray) (o : Option (List Ty)) (h : k < 0 ∨ 7 < k) : headT k ns o = none := by
  unfold headT
  rw [if_neg (by omega), if_neg (by omega), if_neg (by omega), if_neg (by omega)]
end Go.Proofs.YtbanpohholnkaaaDoor
