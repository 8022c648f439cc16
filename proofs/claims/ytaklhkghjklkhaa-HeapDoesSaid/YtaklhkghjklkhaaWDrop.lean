/-
  Walk: (*Arena).drop: an object's cells go to the free list, one by one. Conditions: the arena lies in memory, its cells form a chain; counts below 2^40.
-/
import Derived.Test.YtaklhkghjklkhaaWTake
import Derived.Deep.LoopGhost
namespace Go.Proofs.Ytaklhkghjklkhaa
open Go.RowKit

def DropInv (w : World) (p : Nat) (v : Value) (Z : Ar) (k : Nat) (a : Value) (wr : World) : Prop :=
  ∃ S l i, a = .int .i64 i ∧ l.length = k ∧ ArV wr p v S ∧ chain S.cs i l ∧ l.Nodup ∧ dropL S l = Z ∧ Keep (fp p v) w wr ∧ (l.length : Int) ≤ S.used ∧ S.used < 1099511627776 ∧ S.cs.length < 1099511627776

set_option maxHeartbeats 1000000 in
theorem drop_any {p r : Nat} {v : Value} {S : Ar} {l : List Nat} {w : World} (h : ArV w p v S) (hch : chain S.cs r l) (hnd : l.Nodup) (hu : (l.length : Int) ≤ S.used) (hu1 : S.used < 1099511627776) (hn : S.cs.length < 1099511627776) (ho : 0 < S.objects) (ho1 : S.objects < 1099511627776) :
    Calls Try.prog 24 #[.pointer (some ⟨p, 0, none⟩), .int .i64 r] w fun e w' => e = .returned (.tuple #[]) ∧ ArV w' p v { dropL S l with objects := S.objects - 1 } ∧ Keep (fp p v) w w' := by
  have H0 : DropInv w p v (dropL S l) l.length (.int .i64 r) w := ⟨S, l, r, rfl, rfl, h, hch, hnd, rfl, Keep.refl _ _, hu, hu1, hn⟩
  have hob : (dropL S l).objects = S.objects := by
    clear H0 hch hnd hu h
    induction l generalizing S with
    | nil => rfl
    | cons k l ih => rw [dropL]; exact ih (S := drop1 S k) (by show S.used - 1 < _; omega) (by simpa [drop1] using hn) ho ho1
  have HO := Lib.hid hob
  clear hob h hch hnd hu hu1 hn
  generalize dropL S l = Z at *
  go_enter Try.func24, Try.ntmps24
  go_wp2
  go_loopg [4] l.length (DropInv w p v Z)
  case atStart => exact H0
  case round =>
    clear H0
    obtain ⟨S1, l1, i, rfl, rfl, h, hch, hnd, hz, hk, hu, hu1, hn⟩ := hrel
    obtain ⟨h0, h1, h2, h3, h4⟩ := h.lens
    have fr : ∀ o, wr.frozen? ⟨p, o, none⟩ = false := h.head.frozen
    have hp := h.head.lt
    cases l1 with
    | nil =>
      have hi : i = -1 := hch
      subst hi
      have hz' : S1 = Z := hz
      subst hz'
      rw [HO.out] at h4
      have H := Lib.hid h
      clear h h0 h1 h2 h3 hu hu1 hn hz hch hnd
      have HK := Lib.hid hk
      clear hk
      go_wp2
      go_end0
      refine ⟨rfl, ⟨?_, ?_⟩, ?_⟩
      · have := H.out.head.set 4 (.int .i64 (S.objects - 1))
        exact this
      · exact ownsRow_setCell_ne H.out.own (by simpa using H.out.ne) _
      · exact HK.out.setCell (.inl (by simp [fp])) _
    | cons k l2 =>
      obtain ⟨rfl, d, hd, hch2⟩ := hch
      have hkl : k < S1.cs.length := (List.getElem?_eq_some_iff.1 hd).1
      obtain ⟨g, cap, rfl, hc, hg, hpg, fg, hcell⟩ := h.form hkl
      obtain ⟨c0, c1, c2, c3, c4⟩ := hcell k d hd
      have hne : ((k : Int) != -1) = true := by simp
      have hl2 : (l2.length : Int) + 1 ≤ S1.used := by simpa using hu
      have hu0 : 1 ≤ S1.used := by omega
      have H := Lib.hid h
      have HA := Lib.hid (And.intro hd (And.intro hch2 (And.intro hnd hz)))
      have HK := Lib.hid hk
      clear h hd hch2 hnd hz hk hcell hu h1 h4
      go_wp2
      go_region
      go_wp2
      go_roundg l2.length
      case measure => simp
      case rel =>
        obtain ⟨hd, hch2, hnd, hz⟩ := HA.out
        have h := H.out
        obtain ⟨hkn, hnd2⟩ := List.nodup_cons.1 hnd
        have o2 := (((((h.own.stored (k * 5) (.bool false)).1.stored (k * 5 + 1) (.int .i64 0)).1.stored (k * 5 + 2) (.int .i64 S1.free)).1.stored (k * 5 + 3) (.bool false)).1.stored (k * 5 + 4) (.bool false)).1
        rw [← flat_set S1.cs k ⟨false, 0, S1.free, false, false⟩ d hd] at o2
        have o3 := ownsRow_setCell_ne (ownsRow_setCell_ne o2 (a := ⟨p, 2, none⟩) (by simpa [Value.ownBlock] using hpg.symm) (.int .i64 k)) (a := ⟨p, 3, none⟩) (by simpa [Value.ownBlock] using hpg.symm) (.int .i64 (S1.used - 1))
        have b2 := ((((h.head.far (p := ⟨g, k * 5, none⟩) hpg (.bool false)).far (p := ⟨g, k * 5 + 1, none⟩) hpg (.int .i64 0)).far (p := ⟨g, k * 5 + 2, none⟩) hpg (.int .i64 S1.free)).far (p := ⟨g, k * 5 + 3, none⟩) hpg (.bool false)).far (p := ⟨g, k * 5 + 4, none⟩) hpg (.bool false)
        refine ⟨drop1 S1 k, l2, d.next, rfl, rfl, ⟨((b2.set 2 _).set 3 _).drew, ?_⟩, chain_set hch2 hkn, hnd2, hz, ?_, ?_, ?_, ?_⟩
        · simp only [drop1, List.length_set]
          exact o3.drew
        · refine Keep.drew (Keep.setCell (Keep.setCell (Keep.setCell (Keep.setCell (Keep.setCell (Keep.setCell (Keep.setCell HK.out ?_ _) ?_ _) ?_ _) ?_ _) ?_ _) ?_ _) ?_ _)
          all_goals simp [fp, Value.ownBlock]
        · show (l2.length : Int) ≤ S1.used - 1; omega
        · show S1.used - 1 < _; omega
        · simpa [drop1] using hn
end Go.Proofs.Ytaklhkghjklkhaa
