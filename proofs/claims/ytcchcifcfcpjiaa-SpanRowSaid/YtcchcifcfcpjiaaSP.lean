/- slices.Sort, slices.Compact, slices.Reverse, slices.Clone at []int: the call's own slice. -/
import Derived.Test.YtcchcifcfcpjiaaShelfC
import Derived.Test.YtcchcifcfcpjiaaShelfD
import Derived.Test.YtcchcifcfcpjiaaJC
import Derived.Test.YtcchcifcfcpjiaaJD
import Derived.Sort.OwnSortedInts
set_option linter.unusedVariables false
set_option linter.unusedSimpArgs false
namespace Go.Proofs.Ytcchcifcfcpjiaa.J
open Go.RowKit Go.Proofs.YtcchcifcfcpjiaaW.PrintWords Go.Proofs.YtcchcifcfcpjiaaW.PrintLast Go.Proofs.YtcchcifcfcpjiaaW.PrintMore Go.Proofs.Ytcchcifcfcpjiaa.PJ

theorem nums_eq (xs : List Int) : nums .i64 xs = xs.map (Value.int .i64) := rfl
def sortI (xs : List Int) : List Int := xs.mergeSort fun x y => decide (x ≤ y)

theorem grown_pw {α : Type} [Inhabited α] (enc : α → Value) (w : World) (q g : Nat) (d : Array α) : w.grownBy (Go.Sort.putRow enc (Go.Sort.ahead w q) g 0 d) (some g) :=
  ⟨rfl, rfl, rfl, by simp [Go.Sort.putRow, Go.Sort.mapBlock, Go.Sort.ahead], fun k hk hne => pw_block hk (fun e => hne (by rw [e]))⟩

theorem compactI_le (xs : List Int) : (Lib.compact xs).length ≤ xs.length := by
  unfold Lib.compact Lib.compactUpTo
  rw [List.length_map]
  exact Nat.le_trans (List.length_filter_le _ _) (by simp)

theorem sortI_calls (w : World) {base : Nat} {v : Value} {xs : List Int} (ho : w.ownsRow base 3 1 v xs.length (nums .i64 xs)) (hl : xs.length ≤ 1000000) :
    Calls Try.prog 111 #[v] w fun e w' => e = .returned (.tuple #[]) ∧ w'.ownsRow base 3 1 v xs.length (nums .i64 (sortI xs)) ∧ w.grownBy w' v.ownBlock := by
  rcases ho.2 with ⟨rfl, h1⟩ | ⟨g, cap, cur, rfl, hb, hg, hn, hm, hs, ht⟩
  · have hx : xs = [] := List.eq_nil_of_length_eq_zero h1
    subst hx
    refine Calls.mono (AnyM.slices_Sort_int_none Try.sortA none 0 w) ?_
    rintro e w' ⟨rfl, rfl⟩
    exact ⟨rfl, by simpa [sortI] using ho, ⟨rfl, rfl, rfl, Nat.le_refl _, fun _ _ _ => rfl⟩⟩
  · rw [Nat.mul_one] at ht
    have hH := holds_of_blockI (ss := xs) hg (by rw [ht]; rfl)
    refine Calls.mono (AnyM.slices_Sort_int Try.sortA g 0 cap xs w hH (Array.getElem?_eq_some_iff.1 hg).1 (by omega)) ?_
    rintro e w' ⟨rfl, n, os, rfl⟩
    refine ⟨rfl, ?_, ?_⟩
    · exact ownsRow_sortedI (ss := xs) (ts := sortI xs) (by simp [sortI]) hb hg hn hm hs
    · exact grownBy_sortedI _
theorem compactI_calls (w : World) {base : Nat} {v : Value} {xs : List Int} (ho : w.ownsRow base 3 1 v xs.length (nums .i64 xs)) (hl : xs.length ≤ 1000000) :
    Calls Try.prog 112 #[v] w fun e w' => ∃ v', e = .returned v' ∧ w'.ownsRow base 3 1 v' (Lib.compact xs).length (nums .i64 (Lib.compact xs)) ∧ v'.ownBlock = v.ownBlock ∧ w.grownBy w' v.ownBlock := by
  rcases ho.2 with ⟨rfl, h1⟩ | ⟨g, cap, cur, rfl, hb, hg, hn, hm, hs, ht⟩
  · have hx : xs = [] := List.eq_nil_of_length_eq_zero h1
    subst hx
    refine Calls.mono (Try.slices_Compact_int_empty none 0 w) ?_
    rintro e w' ⟨rfl, rfl⟩
    exact ⟨_, rfl, World.ownsRow_nil _ _ _ _, rfl, ⟨rfl, rfl, rfl, Nat.le_refl _, fun _ _ _ => rfl⟩⟩
  · rw [Nat.mul_one] at ht
    have hH := holds_of_blockI (ss := xs) hg (by rw [ht]; rfl)
    refine Calls.mono (Try.slices_Compact_int g 0 cap xs w hH (by omega) hn) ?_
    rintro e w' ⟨rfl, q, rfl⟩
    have hcl := compactI_le xs
    refine ⟨_, rfl, ?_, rfl, grown_pw _ _ _ _ _⟩
    refine ⟨by simp [nums_eq], .inr ⟨g, cap, Go.Sort.putCells (Value.int .i64) 0 (Lib.compact xs ++ List.replicate (xs.length - (Lib.compact xs).length) 0).toArray cur, rfl, hb, ?_, by omega, hm, ?_, ?_⟩⟩
    · have := heap_sortedI (n := q) (os := #[]) (Lib.compact xs ++ List.replicate (xs.length - (Lib.compact xs).length) 0).toArray hg
      rw [Go.Sort.grow_empty] at this
      exact this
    · rw [size_put]; exact hs
    · rw [Nat.mul_one]
      have h2 := take_putCellsI cur (Lib.compact xs ++ List.replicate (xs.length - (Lib.compact xs).length) 0) (by simp; omega)
      have h3 := congrArg (List.take (Lib.compact xs).length) h2
      rw [List.take_take, List.map_append, List.take_left' (by simp)] at h3
      rw [Nat.min_eq_left (by simp)] at h3
      exact h3
end Go.Proofs.Ytcchcifcfcpjiaa.J
