/- slices.Sorted(maps.Keys(m)) at a map that is known by its entries. -/
import Derived.Test.YtcchcifcfcpjiaaSR
set_option linter.unusedVariables false
set_option linter.unusedSimpArgs false
namespace Go.Proofs.Ytcchcifcfcpjiaa.J
open Go.RowKit Go.Maps Go.Sort Go.Shelf Go.WideElems Go.Proofs.YtcchcifcfcpjiaaW.PrintWords Go.Proofs.YtcchcifcfcpjiaaW.PrintLast Go.Proofs.YtcchcifcfcpjiaaW.PrintMore Go.Proofs.Ytcchcifcfcpjiaa.PJ

theorem insert_perm {H : Type} (x : Lit × DataW H) : ∀ l : List (Lit × DataW H), (DataW.insert x l).Perm (x :: l)
  | [] => List.Perm.refl _
  | y :: r => by
    unfold DataW.insert
    split
    · exact List.Perm.refl _
    · exact ((insert_perm x r).cons y).trans (List.Perm.swap x y r)
theorem foldr_insert_perm {H : Type} : ∀ l : List (Lit × DataW H), (l.foldr DataW.insert []).Perm l
  | [] => List.Perm.refl _
  | x :: l => (insert_perm x _).trans ((foldr_insert_perm l).cons x)

def Rnil : Value → Option (DataW Unit × List MemPlace) := fun _ => some (.nil, [])
theorem owns_of_mapIs {w : World} {M : Nat} {l : List (Int × Value × Nat)} {c : Nat} (hM : MapIs (.int .i64) w M l c) (hn : (l.map (·.1)).Nodup) (hw : ∀ e ∈ l, (Lit.int .i64 e.1).wf = true) (hl : l.length ≤ 1000000) :
    ∃ D0 : DataW Unit, w.ownsMap Try.prog 3 Rnil M l.length D0 ∧ (intKeys D0).Perm (l.map (·.1)) ∧ Maps.size D0 = l.length := by
  have hrd : ∀ e ∈ l, rd Try.prog 3 Rnil (mkE (.int .i64) e) = some (.int .i64 e.1, .nil) := fun e he => by
    refine rd_mk (kl := .int .i64 e.1) (yv := (.nil, [])) ?_ rfl
    exact keyOf_int_mk Try.underlying3 (hw e he)
  have hmap : (l.map (mkE (.int .i64))).map (rg Try.prog 3 Rnil) = l.map (fun e => (Lit.int .i64 e.1, DataW.nil)) := by
    rw [List.map_map]
    refine List.map_congr_left (fun e he => ?_)
    simp only [Function.comp_apply]
    rw [rg_of (hrd e he)]
  refine ⟨_, ⟨_, c, hM.1, ⟨by simp only [List.size_toArray, List.length_map, maxLen]; omega, ⟨fun x hx => ?_, ?_, ?_⟩, fun x hx => ?_⟩, by simp, rfl⟩, ?_, ?_⟩
  · simp only [List.mem_map] at hx
    obtain ⟨e, he, rfl⟩ := hx
    exact hM.2.1 e he
  · simp only [List.map_map]
    have := hM.2.2
    rw [List.nodup_iff_pairwise_ne, List.pairwise_map]
    exact this
  · simp only [List.map_map]
    rw [List.nodup_iff_pairwise_ne, List.pairwise_map] at hn ⊢
    exact hn.imp (fun h e => h (by simpa [mkE] using e))
  · simp only [List.mem_map] at hx
    obtain ⟨e, he, rfl⟩ := hx
    exact ⟨_, hrd e he⟩
  · simp only [hmap, intKeys]
    refine ((foldr_insert_perm _).map _).trans ?_
    rw [List.map_map]
    exact List.Perm.of_eq (List.map_congr_left (fun e _ => rfl))
  · rw [Maps.size_eq, hmap]
    rw [(foldr_insert_perm _).length_eq, List.length_map]
theorem sortsA (m : Nat) : AnyZI.SortsIn Try.prog Try.sortedA_ren Fence.wide m :=
  ⟨fun blk off cap ss W hH hblk hsz => callsIn_wide.2 (AnyM.slices_Sort_int Try.sortA blk off cap ss W hH hblk hsz),
   fun p cap W => callsIn_wide.2 (AnyM.slices_Sort_int_none Try.sortA p cap W)⟩

theorem keysA_calls (mb : Option Nat) (W : World) : Calls Try.prog 84 #[.map mb] W fun e w' => e = .returned (.func (.func 114) #[] #[.pointer (some ⟨W.heap.size, 0, none⟩)]) ∧ w' = W.alloc (.cells #[.map mb] 137) := by
  refine (callsIn_wide (n := 5)).1 ?_
  exact AnyZI.keys_in Try.keysA Fence.wide 5 trivial rfl mb W
set_option maxHeartbeats 1000000 in
theorem sortedKeysA_calls (w : World) {M : Nat} {l : List (Int × Value × Nat)} {c : Nat} (hM : MapIs (.int .i64) w M l c) (hn : (l.map (·.1)).Nodup) (hw : ∀ e ∈ l, (Lit.int .i64 e.1).wf = true) (hl : l.length ≤ 1000000) :
    Calls Try.prog 83 #[.func (.func 114) #[] #[.pointer (some ⟨w.heap.size, 0, none⟩)]] (w.alloc (.cells #[.map (some M)] 137)) fun e w' => ∃ v, e = .returned v ∧ w'.ownsRow w.heap.size 3 1 v (sortI (l.map (·.1))).length (nums .i64 (sortI (l.map (·.1)))) ∧ Below w.heap.size w w' := by
  obtain ⟨D0, hown, hperm, hsize⟩ := owns_of_mapIs hM hn hw hl
  have hbl := hown.lt
  have hseq : SeqGives Fence.wide 2 Try.prog 114 #[.pointer (some ⟨w.heap.size, 0, none⟩)] encZ (fun ss => ss.Perm (intKeys D0)) (Maps.size D0) (w.alloc (.cells #[.map (some M)] 137)) :=
    AnyZI.keys_gives (ρ := Try.keysA_ren) { Try.keysA with } Fence.wide _ trivial rfl (by omega) w.heap.size M l.length D0 _ (by simp) (by simp) (by
      obtain ⟨es, clock, hb, Ft, hs, hD⟩ := hown
      exact ⟨es, clock, (Below.heap_alloc _ _ M hbl).trans hb, Ft, hs, hD⟩)
  have cS := AnyZI.sorted_in Try.sortedA Fence.wide 5 trivial trivial trivial trivial rfl (by omega) (sortsA _) (enters_of Try.func111 (by kernel_rfl) rfl) 114 #[.pointer (some ⟨w.heap.size, 0, none⟩)] trivial (enters_of Try.func114 (by kernel_rfl) rfl) _ _ (by simp only [maxLen]; omega) (by omega) _ hseq
  change CallsIn _ _ Try.prog 83 _ _ _ at cS
  refine ((callsIn_wide (n := _)).1 cS).mono ?_
  rintro e w' ⟨v, ss, rfl, hS, hrow, hnil, hb⟩
  have h1 : ss.mergeSort leI = sortI (l.map (·.1)) := mergeSort_of_perm_i (hS.trans hperm)
  have h2 : ss.length = (sortI (l.map (·.1))).length := by rw [← h1]; simp
  refine ⟨v, rfl, ?_, ((Below.refl _ w).alloc (Nat.le_refl _) _).trans (hb.mono (by simp))⟩
  rw [← h2, ← h1]
  exact ownsRow_base_a hrow (by simp)

theorem keysB_calls (mb : Option Nat) (W : World) : Calls Try.prog 86 #[.map mb] W fun e w' => e = .returned (.func (.func 116) #[] #[.pointer (some ⟨W.heap.size, 0, none⟩)]) ∧ w' = W.alloc (.cells #[.map mb] 143) := by
  refine (callsIn_wide (n := 5)).1 ?_
  exact AnyZI.keys_in Try.keysB Fence.wide 5 trivial rfl mb W
set_option maxHeartbeats 1000000 in
theorem sortedKeysB_calls (w : World) {M : Nat} {l : List (Int × Value × Nat)} {c : Nat} (hM : MapIs (.int .i64) w M l c) (hn : (l.map (·.1)).Nodup) (hw : ∀ e ∈ l, (Lit.int .i64 e.1).wf = true) (hl : l.length ≤ 1000000) :
    Calls Try.prog 83 #[.func (.func 116) #[] #[.pointer (some ⟨w.heap.size, 0, none⟩)]] (w.alloc (.cells #[.map (some M)] 143)) fun e w' => ∃ v, e = .returned v ∧ w'.ownsRow w.heap.size 3 1 v (sortI (l.map (·.1))).length (nums .i64 (sortI (l.map (·.1)))) ∧ Below w.heap.size w w' := by
  obtain ⟨D0, hown, hperm, hsize⟩ := owns_of_mapIs hM hn hw hl
  have hbl := hown.lt
  have hseq : SeqGives Fence.wide 2 Try.prog 116 #[.pointer (some ⟨w.heap.size, 0, none⟩)] encZ (fun ss => ss.Perm (intKeys D0)) (Maps.size D0) (w.alloc (.cells #[.map (some M)] 143)) :=
    AnyZI.keys_gives (ρ := Try.keysB_ren) { Try.keysB with } Fence.wide _ trivial rfl (by omega) w.heap.size M l.length D0 _ (by simp) (by simp) (by
      obtain ⟨es, clock, hb, Ft, hs, hD⟩ := hown
      exact ⟨es, clock, (Below.heap_alloc _ _ M hbl).trans hb, Ft, hs, hD⟩)
  have cS := AnyZI.sorted_in Try.sortedA Fence.wide 5 trivial trivial trivial trivial rfl (by omega) (sortsA _) (enters_of Try.func111 (by kernel_rfl) rfl) 116 #[.pointer (some ⟨w.heap.size, 0, none⟩)] trivial (enters_of Try.func116 (by kernel_rfl) rfl) _ _ (by simp only [maxLen]; omega) (by omega) _ hseq
  change CallsIn _ _ Try.prog 83 _ _ _ at cS
  refine ((callsIn_wide (n := _)).1 cS).mono ?_
  rintro e w' ⟨v, ss, rfl, hS, hrow, hnil, hb⟩
  have h1 : ss.mergeSort leI = sortI (l.map (·.1)) := mergeSort_of_perm_i (hS.trans hperm)
  have h2 : ss.length = (sortI (l.map (·.1))).length := by rw [← h1]; simp
  refine ⟨v, rfl, ?_, ((Below.refl _ w).alloc (Nat.le_refl _) _).trans (hb.mono (by simp))⟩
  rw [← h2, ← h1]
  exact ownsRow_base_a hrow (by simp)
end Go.Proofs.Ytcchcifcfcpjiaa.J
