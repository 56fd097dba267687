-- Printed by the kit's print for this seat; taken on and turned by this session.
import Derived.Test.YtcchcifcfcpjiaaPJx0
import Derived.Test.YtcchcifcfcpjiaaPJx3
import Derived.Test.YtcchcifcfcpjiaaPKq
namespace Go.Proofs.Ytcchcifcfcpjiaa.PJ
open Go.RowKit Go.Proofs.YtcchcifcfcpjiaaW.PrintWords Go.Proofs.YtcchcifcfcpjiaaW.PrintLast Go.Proofs.YtcchcifcfcpjiaaW.PrintMore
attribute [local go_sem] max2_int min2_int max_two min_two max_three min_three max_four min_four   -- for this text's walks alone
set_option linter.unusedVariables false
set_option linter.unusedSimpArgs false

/-! ### query_Check: function 95 -/
mutual
def query_Check.j0 : Nat → Bool → ByteArray → Int → List ByteArray → List (S118) → ByteArray → Option (Int)
  | 0, _, _, _, _, _, _ => none
  | k + 1, x3, x250000, x250001, x250002, x250003, x250004 => query_Check.l0 k x3 x250003 (x250003.length : Int) 0 x250000 x250001 x250002 x250003 x250004
def query_Check.l0 : Nat → Bool → List (S118) → Int → Int → ByteArray → Int → List ByteArray → List (S118) → ByteArray → Option (Int)
  | 0, _, _, _, _, _, _, _, _, _ => none
  | k + 1, x3, x67, x68, x69, x250000, x250001, x250002, x250003, x250004 => if x69 < x68 then (if 0 ≤ x69 then (if x69 < (x67.length : Int) then (if x3 = true then ((query_name.f ((rd_T118 x67 x69).f0)).bind fun t254 => (if t254 = true then ((query_name.f ((rd_T118 x67 x69).f1)).bind fun t255 => (if t255 = true then ((query_name.f ((rd_T118 x67 x69).f2)).bind fun t256 => (query_Check.l0 k t256 x67 x68 (wrap64 (x69 + 1)) x250000 x250001 x250002 x250003 x250004)) else (query_Check.l0 k false x67 x68 (wrap64 (x69 + 1)) x250000 x250001 x250002 x250003 x250004))) else (query_Check.l0 k false x67 x68 (wrap64 (x69 + 1)) x250000 x250001 x250002 x250003 x250004))) else (query_Check.l0 k false x67 x68 (wrap64 (x69 + 1)) x250000 x250001 x250002 x250003 x250004)) else (none)) else (none)) else (if x3 = true then ((query_Vars.f k x250000 x250001 x250002 x250003 x250004).bind fun t257 => (query_Check.l1 k x3 t257 x250002 (x250002.length : Int) 0 x250000 x250001 x250002 x250003 x250004)) else (some 1))
def query_Check.l1 : Nat → Bool → List ByteArray → List ByteArray → Int → Int → ByteArray → Int → List ByteArray → List (S118) → ByteArray → Option (Int)
  | 0, _, _, _, _, _, _, _, _, _, _ => none
  | k + 1, x3, x6, x95, x96, x97, x250000, x250001, x250002, x250003, x250004 => if x97 < x96 then (if 0 ≤ x97 then (if x97 < (x95.length : Int) then (if x3 = true then ((slices_Contains_string_string.f k x6 (rdOf ByteArray.empty x95 x97)).bind fun t261 => (if t261 = true then (if x97 ≤ (x250002.length : Int) then ((slices_Contains_string_string.f k (x250002.take (x97 : Int).toNat) (rdOf ByteArray.empty x95 x97)).bind fun t263 => (query_Check.l1 k (!t263) x6 x95 x96 (wrap64 (x97 + 1)) x250000 x250001 x250002 x250003 x250004)) else (none)) else (query_Check.l1 k false x6 x95 x96 (wrap64 (x97 + 1)) x250000 x250001 x250002 x250003 x250004))) else (query_Check.l1 k false x6 x95 x96 (wrap64 (x97 + 1)) x250000 x250001 x250002 x250003 x250004)) else (none)) else (none)) else (if x3 = true then (some 0) else (some 1))
end
def query_Check.f (k : Nat) (a0_0 : ByteArray) (a0_1 : Int) (l0_2 : List ByteArray) (l0_3 : List (S118)) (a0_4 : ByteArray) : Option (Int) := (query_name.f a0_0).bind fun t250 => (if a0_1 = 2 then (if t250 = true then ((query_name.f a0_4).bind fun t251 => (if t251 = true then (if (l0_2.length : Int) = 0 then (if ((l0_3.length : Int) = 0) then (some 0) else (some 1)) else (some 1)) else (some 1))) else (some 1)) else (if a0_1 = 1 then (if t250 = true then (if a0_4.toList = ([] : List UInt8) then (if (l0_2.length : Int) ≥ 1 then (if (l0_2.length : Int) ≤ 6 then (if (l0_3.length : Int) ≥ 1 then (query_Check.j0 k (decide ((l0_3.length : Int) ≤ 8)) a0_0 a0_1 l0_2 l0_3 a0_4) else (query_Check.j0 k false a0_0 a0_1 l0_2 l0_3 a0_4)) else (query_Check.j0 k false a0_0 a0_1 l0_2 l0_3 a0_4)) else (query_Check.j0 k false a0_0 a0_1 l0_2 l0_3 a0_4)) else (query_Check.j0 k false a0_0 a0_1 l0_2 l0_3 a0_4)) else (query_Check.j0 k false a0_0 a0_1 l0_2 l0_3 a0_4)) else (some 1)))
theorem query_Check.mono_l : ∀ k, (∀ y0 y1 y2 y3 y4 y5, LeO (query_Check.j0 k y0 y1 y2 y3 y4 y5) (query_Check.j0 (k + 1) y0 y1 y2 y3 y4 y5)) ∧ (∀ y0 y1 y2 y3 y4 y5 y6 y7 y8, LeO (query_Check.l0 k y0 y1 y2 y3 y4 y5 y6 y7 y8) (query_Check.l0 (k + 1) y0 y1 y2 y3 y4 y5 y6 y7 y8)) ∧ (∀ y0 y1 y2 y3 y4 y5 y6 y7 y8 y9, LeO (query_Check.l1 k y0 y1 y2 y3 y4 y5 y6 y7 y8 y9) (query_Check.l1 (k + 1) y0 y1 y2 y3 y4 y5 y6 y7 y8 y9))
  | 0 => ⟨fun _ _ _ _ _ _ r h => by simp [query_Check.j0] at h, fun _ _ _ _ _ _ _ _ _ r h => by simp [query_Check.l0] at h, fun _ _ _ _ _ _ _ _ _ _ r h => by simp [query_Check.l1] at h⟩
  | k + 1 => by
    obtain ⟨ih0, ih1, ih2⟩ := query_Check.mono_l k
    refine ⟨?_, ?_, ?_⟩
    · intro y0 y1 y2 y3 y4 y5
      unfold query_Check.j0
      repeat' first
      | (with_reducible exact ih0 _ _ _ _ _ _)
      | (with_reducible exact ih1 _ _ _ _ _ _ _ _ _)
      | (with_reducible exact ih2 _ _ _ _ _ _ _ _ _ _)
      | (with_reducible exact query_Vars.mono _ _ _ _ _ _)
      | (with_reducible exact slices_Contains_string_string.mono _ _ _)
      | (with_reducible exact LeO.refl _)
      | (with_reducible exact LeO.none _)
      | (with_reducible refine LeO.ite ?_ ?_)
      | (with_reducible refine LeO.bind ?_ (fun _ => ?_))
      | exact ih0 _ _ _ _ _ _
      | exact ih1 _ _ _ _ _ _ _ _ _
      | exact ih2 _ _ _ _ _ _ _ _ _ _
      | exact query_Vars.mono _ _ _ _ _ _
      | exact slices_Contains_string_string.mono _ _ _
      | exact LeO.none _
      | refine LeO.ite ?_ ?_
      | refine LeO.bind ?_ (fun _ => ?_)
    · intro y0 y1 y2 y3 y4 y5 y6 y7 y8
      unfold query_Check.l0
      repeat' first
      | (with_reducible exact ih0 _ _ _ _ _ _)
      | (with_reducible exact ih1 _ _ _ _ _ _ _ _ _)
      | (with_reducible exact ih2 _ _ _ _ _ _ _ _ _ _)
      | (with_reducible exact query_Vars.mono _ _ _ _ _ _)
      | (with_reducible exact slices_Contains_string_string.mono _ _ _)
      | (with_reducible exact LeO.refl _)
      | (with_reducible exact LeO.none _)
      | (with_reducible refine LeO.ite ?_ ?_)
      | (with_reducible refine LeO.bind ?_ (fun _ => ?_))
      | exact ih0 _ _ _ _ _ _
      | exact ih1 _ _ _ _ _ _ _ _ _
      | exact ih2 _ _ _ _ _ _ _ _ _ _
      | exact query_Vars.mono _ _ _ _ _ _
      | exact slices_Contains_string_string.mono _ _ _
      | exact LeO.none _
      | refine LeO.ite ?_ ?_
      | refine LeO.bind ?_ (fun _ => ?_)
    · intro y0 y1 y2 y3 y4 y5 y6 y7 y8 y9
      unfold query_Check.l1
      repeat' first
      | (with_reducible exact ih0 _ _ _ _ _ _)
      | (with_reducible exact ih1 _ _ _ _ _ _ _ _ _)
      | (with_reducible exact ih2 _ _ _ _ _ _ _ _ _ _)
      | (with_reducible exact query_Vars.mono _ _ _ _ _ _)
      | (with_reducible exact slices_Contains_string_string.mono _ _ _)
      | (with_reducible exact LeO.refl _)
      | (with_reducible exact LeO.none _)
      | (with_reducible refine LeO.ite ?_ ?_)
      | (with_reducible refine LeO.bind ?_ (fun _ => ?_))
      | exact ih0 _ _ _ _ _ _
      | exact ih1 _ _ _ _ _ _ _ _ _
      | exact ih2 _ _ _ _ _ _ _ _ _ _
      | exact query_Vars.mono _ _ _ _ _ _
      | exact slices_Contains_string_string.mono _ _ _
      | exact LeO.none _
      | refine LeO.ite ?_ ?_
      | refine LeO.bind ?_ (fun _ => ?_)
theorem query_Check.mono : ∀ a0 a1 a2 a3 a4 k, LeO (query_Check.f k a0 a1 a2 a3 a4) (query_Check.f (k + 1) a0 a1 a2 a3 a4) := by
  intro a0 a1 a2 a3 a4 k
  obtain ⟨ih0, ih1, ih2⟩ := query_Check.mono_l k
  unfold query_Check.f
  repeat' first
      | (with_reducible exact ih0 _ _ _ _ _ _)
      | (with_reducible exact ih1 _ _ _ _ _ _ _ _ _)
      | (with_reducible exact ih2 _ _ _ _ _ _ _ _ _ _)
      | (with_reducible exact query_Vars.mono _ _ _ _ _ _)
      | (with_reducible exact slices_Contains_string_string.mono _ _ _)
      | (with_reducible exact LeO.refl _)
      | (with_reducible exact LeO.none _)
      | (with_reducible refine LeO.ite ?_ ?_)
      | (with_reducible refine LeO.bind ?_ (fun _ => ?_))
      | exact ih0 _ _ _ _ _ _
      | exact ih1 _ _ _ _ _ _ _ _ _
      | exact ih2 _ _ _ _ _ _ _ _ _ _
      | exact query_Vars.mono _ _ _ _ _ _
      | exact slices_Contains_string_string.mono _ _ _
      | exact LeO.none _
      | refine LeO.ite ?_ ?_
      | refine LeO.bind ?_ (fun _ => ?_)
set_option maxHeartbeats 8000000 in
set_option maxRecDepth 100000 in
theorem query_Check.calls (k : Nat) (a0_0 : ByteArray) (a0_1 : Int) (A0_2 : Option Addr) (c0_2 : Nat) (l0_2 : List ByteArray) (A0_3 : Option Addr) (c0_3 : Nat) (l0_3 : List (S118)) (a0_4 : ByteArray) (r : Int) (w : World) (hr0_2 : Kd.C Kd.string w A0_2 l0_2.length l0_2) (hc0_2 : l0_2.length ≤ c0_2) (hr0_3 : Kd.C k118 w A0_3 l0_3.length l0_3) (hc0_3 : l0_3.length ≤ c0_3) (h : query_Check.f k a0_0 a0_1 l0_2 l0_3 a0_4 = some r) :
    Calls Try.prog 95 #[.agg #[.string a0_0, .int .i64 a0_1, .slice A0_2 l0_2.length c0_2, .slice A0_3 l0_3.length c0_3, .string a0_4]] w fun e w' => e = .returned (.int .i64 r) ∧ Below w.heap.size w w' := by
  have hu59 := Try.underlying59
  have hu118 := Try.underlying118
  have HR0_2 := Aside0.mk hr0_2
  have HC0_2 := Aside0.mk hc0_2
  clear hr0_2 hc0_2
  have HR0_3 := Aside0.mk hr0_3
  have HC0_3 := Aside0.mk hc0_3
  clear hr0_3 hc0_3
  have HB := Aside0.mk (Below.refl w.heap.size w)
  have H : ((query_name.f a0_0).bind fun t250 => (if a0_1 = 2 then (if t250 = true then ((query_name.f a0_4).bind fun t251 => (if t251 = true then (if (l0_2.length : Int) = 0 then (if ((l0_3.length : Int) = 0) then (some 0) else (some 1)) else (some 1)) else (some 1))) else (some 1)) else (if a0_1 = 1 then (if t250 = true then (if a0_4.toList = ([] : List UInt8) then (if (l0_2.length : Int) ≥ 1 then (if (l0_2.length : Int) ≤ 6 then (if (l0_3.length : Int) ≥ 1 then (query_Check.j0 k (decide ((l0_3.length : Int) ≤ 8)) a0_0 a0_1 l0_2 l0_3 a0_4) else (query_Check.j0 k false a0_0 a0_1 l0_2 l0_3 a0_4)) else (query_Check.j0 k false a0_0 a0_1 l0_2 l0_3 a0_4)) else (query_Check.j0 k false a0_0 a0_1 l0_2 l0_3 a0_4)) else (query_Check.j0 k false a0_0 a0_1 l0_2 l0_3 a0_4)) else (query_Check.j0 k false a0_0 a0_1 l0_2 l0_3 a0_4)) else (some 1)))) = some r := h
  clear h
  replace H := Option.bind_eq_some_iff.mp H
  obtain ⟨t250, A20, H⟩ := H
  replace H : (if a0_1 = 2 then (if t250 = true then ((query_name.f a0_4).bind fun t251 => (if t251 = true then (if (l0_2.length : Int) = 0 then (if ((l0_3.length : Int) = 0) then (some 0) else (some 1)) else (some 1)) else (some 1))) else (some 1)) else (if a0_1 = 1 then (if t250 = true then (if a0_4.toList = ([] : List UInt8) then (if (l0_2.length : Int) ≥ 1 then (if (l0_2.length : Int) ≤ 6 then (if (l0_3.length : Int) ≥ 1 then (query_Check.j0 k (decide ((l0_3.length : Int) ≤ 8)) a0_0 a0_1 l0_2 l0_3 a0_4) else (query_Check.j0 k false a0_0 a0_1 l0_2 l0_3 a0_4)) else (query_Check.j0 k false a0_0 a0_1 l0_2 l0_3 a0_4)) else (query_Check.j0 k false a0_0 a0_1 l0_2 l0_3 a0_4)) else (query_Check.j0 k false a0_0 a0_1 l0_2 l0_3 a0_4)) else (query_Check.j0 k false a0_0 a0_1 l0_2 l0_3 a0_4)) else (some 1))) = some r := H
  have A2 := Aside0.mk A20
  clear A20
  by_cases c3 : a0_1 = 2
  · rw [if_pos c3] at H
    have c3b0 : (a0_1 == 2) = true := beq_iff_eq.mpr c3
    have c3b1 : (a0_1 != 2) = false := bne_eq_false_iff_eq.mpr c3
    clear c3
    by_cases c4 : t250 = true
    · subst c4
      have H1 : ((query_name.f a0_4).bind fun t251 => (if t251 = true then (if (l0_2.length : Int) = 0 then (if ((l0_3.length : Int) = 0) then (some 0) else (some 1)) else (some 1)) else (some 1))) = some r := by rw [if_pos rfl] at H; exact H
      clear H
      have H := H1
      clear H1
      replace H := Option.bind_eq_some_iff.mp H
      obtain ⟨t251, A50, H⟩ := H
      replace H : (if t251 = true then (if (l0_2.length : Int) = 0 then (if ((l0_3.length : Int) = 0) then (some 0) else (some 1)) else (some 1)) else (some 1)) = some r := H
      have A5 := Aside0.mk A50
      clear A50
      by_cases c6 : t251 = true
      · subst c6
        have H1 : (if (l0_2.length : Int) = 0 then (if ((l0_3.length : Int) = 0) then (some 0) else (some 1)) else (some 1)) = some r := by rw [if_pos rfl] at H; exact H
        clear H
        have H := H1
        clear H1
        by_cases c7 : (l0_2.length : Int) = 0
        · rw [if_pos c7] at H
          have c7b0 : ((l0_2.length : Int) == 0) = true := beq_iff_eq.mpr c7
          have c7b1 : ((l0_2.length : Int) != 0) = false := bne_eq_false_iff_eq.mpr c7
          clear c7
          by_cases c8 : ((l0_3.length : Int) = 0)
          · rw [if_pos c8] at H
            have c8b0 : ((l0_3.length : Int) == 0) = true := beq_iff_eq.mpr c8
            have c8b1 : ((l0_3.length : Int) != 0) = false := bne_eq_false_iff_eq.mpr c8
            clear c8
            obtain rfl := Option.some.inj H
            go_enter Try.func95, Try.ntmps95
            go_wp2_with (first | ((with_reducible refine gate_dst (N := 1) rfl ?_); (try (refine gate_guard (by rfl) ?_; dsimp only)); refine box_event ?hg (N := 1) ?hd (cs := #[.string a0_0, .int .i64 a0_1, .slice A0_2 l0_2.length c0_2, .slice A0_3 l0_3.length c0_3, .string a0_4]) (t := 59) ?hr ?_; (case hd => rfl); (case hg => rfl); (case hr => first | (go_simp; done) | (go_simp; rfl)); intro gb249 hg w9 hbox hb; have n0_ := Aside0.mk (below_step (by repeat (first | (with_reducible first | exact HB.out | apply below_alloc | apply pw_below_drewN | apply below_drew1) | exact HB.out)) hb); have n1_ := Aside0.mk (hbox); have n2_ := Aside0.mk ((by rw [hg]; exact (below_size (by repeat (first | (with_reducible first | exact HB.out | apply below_alloc | apply pw_below_drewN | apply below_drew1) | exact HB.out))) : w.heap.size ≤ gb249)); have n3_ := Aside0.mk ((by rw [hg]; exact (below_size (by repeat (first | (with_reducible first | exact HB.out | apply below_alloc | apply pw_below_drewN | apply below_drew1) | exact HB.out))) : w.heap.size ≤ gb249)); clear HB; have HB := n0_; have BK249 := n1_; have GW249 := n2_; have GE249 := n3_; clear n0_ n1_ n2_ n3_; clear hb hbox hg; have hcz10_0 : w9.cell? ⟨gb249, 0, none⟩ = some (.string a0_0) := (blk_cell BK249.out 0).trans rfl; have hcz10_1 : w9.cell? ⟨gb249, 1, none⟩ = some (.int .i64 a0_1) := (blk_cell BK249.out 1).trans rfl; have hcz10_2 : w9.cell? ⟨gb249, 2, none⟩ = some (.slice A0_2 l0_2.length c0_2) := (blk_cell BK249.out 2).trans rfl; have hcz10_3 : w9.cell? ⟨gb249, 3, none⟩ = some (.slice A0_3 l0_3.length c0_3) := (blk_cell BK249.out 3).trans rfl; have hcz10_4 : w9.cell? ⟨gb249, 4, none⟩ = some (.string a0_4) := (blk_cell BK249.out 4).trans rfl; have hfz10_0 := blk_frozen BK249.out 0; have hfz10_1 := blk_frozen BK249.out 1; have hfz10_2 := blk_frozen BK249.out 2; have hfz10_3 := blk_frozen BK249.out 3; have hfz10_4 := blk_frozen BK249.out 4) | ((with_reducible refine gate_callee (f := 121) rfl ?_); refine goesL_ (some 11) rfl rfl Try.func121 (by kernel_rfl) rfl #[.string a0_0] rfl (by (try simp only [List.map_toArray, List.map_cons, List.map_nil]); first | done | rfl | (simp only [List.length_drop, List.length_take]; rfl)) ?_; (with_reducible refine (query_name.calls a0_0 true _ A2.out).mono ?_); rintro e w11 ⟨rfl, hb⟩; refine ⟨_, rfl, ?_⟩; have n0_ := Aside0.mk (blk_below (g := gb249) (o := .cells #[.string a0_0, .int .i64 a0_1, .slice A0_2 l0_2.length c0_2, .slice A0_3 l0_3.length c0_3, .string a0_4] 59 (0, 0)) (by (with_reducible repeat (first | refine blk_drewN ?_ _ | refine blk_drew ?_ | refine blk_alloc ?_ _)); exact BK249.out) hb); have n1_ := Aside0.mk (below_step (by repeat (first | (with_reducible first | exact HB.out | apply below_alloc | apply pw_below_drewN | apply below_drew1 | refine below_set ?_ GE249.out) | exact HB.out)) hb); clear BK249; clear HB; have BK249 := n0_; have HB := n1_; clear n0_ n1_; (try clear hb); (try clear hb2); (try clear hk); (try clear hi); have hcz12_0 : w11.cell? ⟨gb249, 0, none⟩ = some (.string a0_0) := (blk_cell BK249.out 0).trans rfl; have hcz12_1 : w11.cell? ⟨gb249, 1, none⟩ = some (.int .i64 a0_1) := (blk_cell BK249.out 1).trans rfl; have hcz12_2 : w11.cell? ⟨gb249, 2, none⟩ = some (.slice A0_2 l0_2.length c0_2) := (blk_cell BK249.out 2).trans rfl; have hcz12_3 : w11.cell? ⟨gb249, 3, none⟩ = some (.slice A0_3 l0_3.length c0_3) := (blk_cell BK249.out 3).trans rfl; have hcz12_4 : w11.cell? ⟨gb249, 4, none⟩ = some (.string a0_4) := (blk_cell BK249.out 4).trans rfl; have hfz12_0 := blk_frozen BK249.out 0; have hfz12_1 := blk_frozen BK249.out 1; have hfz12_2 := blk_frozen BK249.out 2; have hfz12_3 := blk_frozen BK249.out 3; have hfz12_4 := blk_frozen BK249.out 4) | (go_at_call 121; (with_reducible refine (query_name.calls a0_4 true _ A5.out).mono ?_); rintro e w13 ⟨rfl, hb⟩; have n0_ := Aside0.mk (blk_below (g := gb249) (o := .cells #[.string a0_0, .int .i64 a0_1, .slice A0_2 l0_2.length c0_2, .slice A0_3 l0_3.length c0_3, .string a0_4] 59 (0, 0)) (by (with_reducible repeat (first | refine blk_drewN ?_ _ | refine blk_drew ?_ | refine blk_alloc ?_ _)); exact BK249.out) hb); have n1_ := Aside0.mk (below_step (by repeat (first | (with_reducible first | exact HB.out | apply below_alloc | apply pw_below_drewN | apply below_drew1 | refine below_set ?_ GE249.out) | exact HB.out)) hb); clear BK249; clear HB; have BK249 := n0_; have HB := n1_; clear n0_ n1_; (try clear hb); (try clear hb2); (try clear hk); (try clear hi); have hcz14_0 : w13.cell? ⟨gb249, 0, none⟩ = some (.string a0_0) := (blk_cell BK249.out 0).trans rfl; have hcz14_1 : w13.cell? ⟨gb249, 1, none⟩ = some (.int .i64 a0_1) := (blk_cell BK249.out 1).trans rfl; have hcz14_2 : w13.cell? ⟨gb249, 2, none⟩ = some (.slice A0_2 l0_2.length c0_2) := (blk_cell BK249.out 2).trans rfl; have hcz14_3 : w13.cell? ⟨gb249, 3, none⟩ = some (.slice A0_3 l0_3.length c0_3) := (blk_cell BK249.out 3).trans rfl; have hcz14_4 : w13.cell? ⟨gb249, 4, none⟩ = some (.string a0_4) := (blk_cell BK249.out 4).trans rfl; have hfz14_0 := blk_frozen BK249.out 0; have hfz14_1 := blk_frozen BK249.out 1; have hfz14_2 := blk_frozen BK249.out 2; have hfz14_3 := blk_frozen BK249.out 3; have hfz14_4 := blk_frozen BK249.out 4))
            go_ret
            exact ⟨by first | rfl | (simp [errW_none, errW_some] <;> rfl) | (simp [*, errW_none, errW_some] <;> rfl), by repeat (first | (with_reducible first | exact HB.out | apply below_alloc | apply pw_below_drewN | apply below_drew1 | refine below_set ?_ GE249.out) | exact HB.out)⟩
          · rw [if_neg c8] at H
            have c8b0 : ((l0_3.length : Int) == 0) = false := beq_eq_false_iff_ne.mpr c8
            have c8b1 : ((l0_3.length : Int) != 0) = true := bne_iff_ne.mpr c8
            have c8b2 : ¬ (l0_3 = []) := fun h_ => c8 (by rw [h_]; rfl)
            obtain rfl := Option.some.inj H
            go_enter Try.func95, Try.ntmps95
            go_wp2_with (first | ((with_reducible refine gate_dst (N := 1) rfl ?_); (try (refine gate_guard (by rfl) ?_; dsimp only)); refine box_event ?hg (N := 1) ?hd (cs := #[.string a0_0, .int .i64 a0_1, .slice A0_2 l0_2.length c0_2, .slice A0_3 l0_3.length c0_3, .string a0_4]) (t := 59) ?hr ?_; (case hd => rfl); (case hg => rfl); (case hr => first | (go_simp; done) | (go_simp; rfl)); intro gb249 hg w15 hbox hb; have n0_ := Aside0.mk (below_step (by repeat (first | (with_reducible first | exact HB.out | apply below_alloc | apply pw_below_drewN | apply below_drew1) | exact HB.out)) hb); have n1_ := Aside0.mk (hbox); have n2_ := Aside0.mk ((by rw [hg]; exact (below_size (by repeat (first | (with_reducible first | exact HB.out | apply below_alloc | apply pw_below_drewN | apply below_drew1) | exact HB.out))) : w.heap.size ≤ gb249)); have n3_ := Aside0.mk ((by rw [hg]; exact (below_size (by repeat (first | (with_reducible first | exact HB.out | apply below_alloc | apply pw_below_drewN | apply below_drew1) | exact HB.out))) : w.heap.size ≤ gb249)); clear HB; have HB := n0_; have BK249 := n1_; have GW249 := n2_; have GE249 := n3_; clear n0_ n1_ n2_ n3_; clear hb hbox hg; have hcz16_0 : w15.cell? ⟨gb249, 0, none⟩ = some (.string a0_0) := (blk_cell BK249.out 0).trans rfl; have hcz16_1 : w15.cell? ⟨gb249, 1, none⟩ = some (.int .i64 a0_1) := (blk_cell BK249.out 1).trans rfl; have hcz16_2 : w15.cell? ⟨gb249, 2, none⟩ = some (.slice A0_2 l0_2.length c0_2) := (blk_cell BK249.out 2).trans rfl; have hcz16_3 : w15.cell? ⟨gb249, 3, none⟩ = some (.slice A0_3 l0_3.length c0_3) := (blk_cell BK249.out 3).trans rfl; have hcz16_4 : w15.cell? ⟨gb249, 4, none⟩ = some (.string a0_4) := (blk_cell BK249.out 4).trans rfl; have hfz16_0 := blk_frozen BK249.out 0; have hfz16_1 := blk_frozen BK249.out 1; have hfz16_2 := blk_frozen BK249.out 2; have hfz16_3 := blk_frozen BK249.out 3; have hfz16_4 := blk_frozen BK249.out 4) | ((with_reducible refine gate_callee (f := 121) rfl ?_); refine goesL_ (some 11) rfl rfl Try.func121 (by kernel_rfl) rfl #[.string a0_0] rfl (by (try simp only [List.map_toArray, List.map_cons, List.map_nil]); first | done | rfl | (simp only [List.length_drop, List.length_take]; rfl)) ?_; (with_reducible refine (query_name.calls a0_0 true _ A2.out).mono ?_); rintro e w17 ⟨rfl, hb⟩; refine ⟨_, rfl, ?_⟩; have n0_ := Aside0.mk (blk_below (g := gb249) (o := .cells #[.string a0_0, .int .i64 a0_1, .slice A0_2 l0_2.length c0_2, .slice A0_3 l0_3.length c0_3, .string a0_4] 59 (0, 0)) (by (with_reducible repeat (first | refine blk_drewN ?_ _ | refine blk_drew ?_ | refine blk_alloc ?_ _)); exact BK249.out) hb); have n1_ := Aside0.mk (below_step (by repeat (first | (with_reducible first | exact HB.out | apply below_alloc | apply pw_below_drewN | apply below_drew1 | refine below_set ?_ GE249.out) | exact HB.out)) hb); clear BK249; clear HB; have BK249 := n0_; have HB := n1_; clear n0_ n1_; (try clear hb); (try clear hb2); (try clear hk); (try clear hi); have hcz18_0 : w17.cell? ⟨gb249, 0, none⟩ = some (.string a0_0) := (blk_cell BK249.out 0).trans rfl; have hcz18_1 : w17.cell? ⟨gb249, 1, none⟩ = some (.int .i64 a0_1) := (blk_cell BK249.out 1).trans rfl; have hcz18_2 : w17.cell? ⟨gb249, 2, none⟩ = some (.slice A0_2 l0_2.length c0_2) := (blk_cell BK249.out 2).trans rfl; have hcz18_3 : w17.cell? ⟨gb249, 3, none⟩ = some (.slice A0_3 l0_3.length c0_3) := (blk_cell BK249.out 3).trans rfl; have hcz18_4 : w17.cell? ⟨gb249, 4, none⟩ = some (.string a0_4) := (blk_cell BK249.out 4).trans rfl; have hfz18_0 := blk_frozen BK249.out 0; have hfz18_1 := blk_frozen BK249.out 1; have hfz18_2 := blk_frozen BK249.out 2; have hfz18_3 := blk_frozen BK249.out 3; have hfz18_4 := blk_frozen BK249.out 4) | (go_at_call 121; (with_reducible refine (query_name.calls a0_4 true _ A5.out).mono ?_); rintro e w19 ⟨rfl, hb⟩; have n0_ := Aside0.mk (blk_below (g := gb249) (o := .cells #[.string a0_0, .int .i64 a0_1, .slice A0_2 l0_2.length c0_2, .slice A0_3 l0_3.length c0_3, .string a0_4] 59 (0, 0)) (by (with_reducible repeat (first | refine blk_drewN ?_ _ | refine blk_drew ?_ | refine blk_alloc ?_ _)); exact BK249.out) hb); have n1_ := Aside0.mk (below_step (by repeat (first | (with_reducible first | exact HB.out | apply below_alloc | apply pw_below_drewN | apply below_drew1 | refine below_set ?_ GE249.out) | exact HB.out)) hb); clear BK249; clear HB; have BK249 := n0_; have HB := n1_; clear n0_ n1_; (try clear hb); (try clear hb2); (try clear hk); (try clear hi); have hcz20_0 : w19.cell? ⟨gb249, 0, none⟩ = some (.string a0_0) := (blk_cell BK249.out 0).trans rfl; have hcz20_1 : w19.cell? ⟨gb249, 1, none⟩ = some (.int .i64 a0_1) := (blk_cell BK249.out 1).trans rfl; have hcz20_2 : w19.cell? ⟨gb249, 2, none⟩ = some (.slice A0_2 l0_2.length c0_2) := (blk_cell BK249.out 2).trans rfl; have hcz20_3 : w19.cell? ⟨gb249, 3, none⟩ = some (.slice A0_3 l0_3.length c0_3) := (blk_cell BK249.out 3).trans rfl; have hcz20_4 : w19.cell? ⟨gb249, 4, none⟩ = some (.string a0_4) := (blk_cell BK249.out 4).trans rfl; have hfz20_0 := blk_frozen BK249.out 0; have hfz20_1 := blk_frozen BK249.out 1; have hfz20_2 := blk_frozen BK249.out 2; have hfz20_3 := blk_frozen BK249.out 3; have hfz20_4 := blk_frozen BK249.out 4))
            go_ret
            exact ⟨by first | rfl | (simp [errW_none, errW_some] <;> rfl) | (simp [*, errW_none, errW_some] <;> rfl), by repeat (first | (with_reducible first | exact HB.out | apply below_alloc | apply pw_below_drewN | apply below_drew1 | refine below_set ?_ GE249.out) | exact HB.out)⟩
        · rw [if_neg c7] at H
          have c7b0 : ((l0_2.length : Int) == 0) = false := beq_eq_false_iff_ne.mpr c7
          have c7b1 : ((l0_2.length : Int) != 0) = true := bne_iff_ne.mpr c7
          have c7b2 : ¬ (l0_2 = []) := fun h_ => c7 (by rw [h_]; rfl)
          obtain rfl := Option.some.inj H
          go_enter Try.func95, Try.ntmps95
          go_wp2_with (first | ((with_reducible refine gate_dst (N := 1) rfl ?_); (try (refine gate_guard (by rfl) ?_; dsimp only)); refine box_event ?hg (N := 1) ?hd (cs := #[.string a0_0, .int .i64 a0_1, .slice A0_2 l0_2.length c0_2, .slice A0_3 l0_3.length c0_3, .string a0_4]) (t := 59) ?hr ?_; (case hd => rfl); (case hg => rfl); (case hr => first | (go_simp; done) | (go_simp; rfl)); intro gb249 hg w21 hbox hb; have n0_ := Aside0.mk (below_step (by repeat (first | (with_reducible first | exact HB.out | apply below_alloc | apply pw_below_drewN | apply below_drew1) | exact HB.out)) hb); have n1_ := Aside0.mk (hbox); have n2_ := Aside0.mk ((by rw [hg]; exact (below_size (by repeat (first | (with_reducible first | exact HB.out | apply below_alloc | apply pw_below_drewN | apply below_drew1) | exact HB.out))) : w.heap.size ≤ gb249)); have n3_ := Aside0.mk ((by rw [hg]; exact (below_size (by repeat (first | (with_reducible first | exact HB.out | apply below_alloc | apply pw_below_drewN | apply below_drew1) | exact HB.out))) : w.heap.size ≤ gb249)); clear HB; have HB := n0_; have BK249 := n1_; have GW249 := n2_; have GE249 := n3_; clear n0_ n1_ n2_ n3_; clear hb hbox hg; have hcz22_0 : w21.cell? ⟨gb249, 0, none⟩ = some (.string a0_0) := (blk_cell BK249.out 0).trans rfl; have hcz22_1 : w21.cell? ⟨gb249, 1, none⟩ = some (.int .i64 a0_1) := (blk_cell BK249.out 1).trans rfl; have hcz22_2 : w21.cell? ⟨gb249, 2, none⟩ = some (.slice A0_2 l0_2.length c0_2) := (blk_cell BK249.out 2).trans rfl; have hcz22_3 : w21.cell? ⟨gb249, 3, none⟩ = some (.slice A0_3 l0_3.length c0_3) := (blk_cell BK249.out 3).trans rfl; have hcz22_4 : w21.cell? ⟨gb249, 4, none⟩ = some (.string a0_4) := (blk_cell BK249.out 4).trans rfl; have hfz22_0 := blk_frozen BK249.out 0; have hfz22_1 := blk_frozen BK249.out 1; have hfz22_2 := blk_frozen BK249.out 2; have hfz22_3 := blk_frozen BK249.out 3; have hfz22_4 := blk_frozen BK249.out 4) | ((with_reducible refine gate_callee (f := 121) rfl ?_); refine goesL_ (some 11) rfl rfl Try.func121 (by kernel_rfl) rfl #[.string a0_0] rfl (by (try simp only [List.map_toArray, List.map_cons, List.map_nil]); first | done | rfl | (simp only [List.length_drop, List.length_take]; rfl)) ?_; (with_reducible refine (query_name.calls a0_0 true _ A2.out).mono ?_); rintro e w23 ⟨rfl, hb⟩; refine ⟨_, rfl, ?_⟩; have n0_ := Aside0.mk (blk_below (g := gb249) (o := .cells #[.string a0_0, .int .i64 a0_1, .slice A0_2 l0_2.length c0_2, .slice A0_3 l0_3.length c0_3, .string a0_4] 59 (0, 0)) (by (with_reducible repeat (first | refine blk_drewN ?_ _ | refine blk_drew ?_ | refine blk_alloc ?_ _)); exact BK249.out) hb); have n1_ := Aside0.mk (below_step (by repeat (first | (with_reducible first | exact HB.out | apply below_alloc | apply pw_below_drewN | apply below_drew1 | refine below_set ?_ GE249.out) | exact HB.out)) hb); clear BK249; clear HB; have BK249 := n0_; have HB := n1_; clear n0_ n1_; (try clear hb); (try clear hb2); (try clear hk); (try clear hi); have hcz24_0 : w23.cell? ⟨gb249, 0, none⟩ = some (.string a0_0) := (blk_cell BK249.out 0).trans rfl; have hcz24_1 : w23.cell? ⟨gb249, 1, none⟩ = some (.int .i64 a0_1) := (blk_cell BK249.out 1).trans rfl; have hcz24_2 : w23.cell? ⟨gb249, 2, none⟩ = some (.slice A0_2 l0_2.length c0_2) := (blk_cell BK249.out 2).trans rfl; have hcz24_3 : w23.cell? ⟨gb249, 3, none⟩ = some (.slice A0_3 l0_3.length c0_3) := (blk_cell BK249.out 3).trans rfl; have hcz24_4 : w23.cell? ⟨gb249, 4, none⟩ = some (.string a0_4) := (blk_cell BK249.out 4).trans rfl; have hfz24_0 := blk_frozen BK249.out 0; have hfz24_1 := blk_frozen BK249.out 1; have hfz24_2 := blk_frozen BK249.out 2; have hfz24_3 := blk_frozen BK249.out 3; have hfz24_4 := blk_frozen BK249.out 4) | (go_at_call 121; (with_reducible refine (query_name.calls a0_4 true _ A5.out).mono ?_); rintro e w25 ⟨rfl, hb⟩; have n0_ := Aside0.mk (blk_below (g := gb249) (o := .cells #[.string a0_0, .int .i64 a0_1, .slice A0_2 l0_2.length c0_2, .slice A0_3 l0_3.length c0_3, .string a0_4] 59 (0, 0)) (by (with_reducible repeat (first | refine blk_drewN ?_ _ | refine blk_drew ?_ | refine blk_alloc ?_ _)); exact BK249.out) hb); have n1_ := Aside0.mk (below_step (by repeat (first | (with_reducible first | exact HB.out | apply below_alloc | apply pw_below_drewN | apply below_drew1 | refine below_set ?_ GE249.out) | exact HB.out)) hb); clear BK249; clear HB; have BK249 := n0_; have HB := n1_; clear n0_ n1_; (try clear hb); (try clear hb2); (try clear hk); (try clear hi); have hcz26_0 : w25.cell? ⟨gb249, 0, none⟩ = some (.string a0_0) := (blk_cell BK249.out 0).trans rfl; have hcz26_1 : w25.cell? ⟨gb249, 1, none⟩ = some (.int .i64 a0_1) := (blk_cell BK249.out 1).trans rfl; have hcz26_2 : w25.cell? ⟨gb249, 2, none⟩ = some (.slice A0_2 l0_2.length c0_2) := (blk_cell BK249.out 2).trans rfl; have hcz26_3 : w25.cell? ⟨gb249, 3, none⟩ = some (.slice A0_3 l0_3.length c0_3) := (blk_cell BK249.out 3).trans rfl; have hcz26_4 : w25.cell? ⟨gb249, 4, none⟩ = some (.string a0_4) := (blk_cell BK249.out 4).trans rfl; have hfz26_0 := blk_frozen BK249.out 0; have hfz26_1 := blk_frozen BK249.out 1; have hfz26_2 := blk_frozen BK249.out 2; have hfz26_3 := blk_frozen BK249.out 3; have hfz26_4 := blk_frozen BK249.out 4))
          go_ret
          exact ⟨by first | rfl | (simp [errW_none, errW_some] <;> rfl) | (simp [*, errW_none, errW_some] <;> rfl), by repeat (first | (with_reducible first | exact HB.out | apply below_alloc | apply pw_below_drewN | apply below_drew1 | refine below_set ?_ GE249.out) | exact HB.out)⟩
      · replace c6 := Bool.eq_false_iff.mpr c6
        subst c6
        have H1 : (some 1) = some r := by rw [if_neg (show ¬ (false = true) by decide)] at H; exact H
        clear H
        have H := H1
        clear H1
        obtain rfl := Option.some.inj H
        go_enter Try.func95, Try.ntmps95
        go_wp2_with (first | ((with_reducible refine gate_dst (N := 1) rfl ?_); (try (refine gate_guard (by rfl) ?_; dsimp only)); refine box_event ?hg (N := 1) ?hd (cs := #[.string a0_0, .int .i64 a0_1, .slice A0_2 l0_2.length c0_2, .slice A0_3 l0_3.length c0_3, .string a0_4]) (t := 59) ?hr ?_; (case hd => rfl); (case hg => rfl); (case hr => first | (go_simp; done) | (go_simp; rfl)); intro gb249 hg w27 hbox hb; have n0_ := Aside0.mk (below_step (by repeat (first | (with_reducible first | exact HB.out | apply below_alloc | apply pw_below_drewN | apply below_drew1) | exact HB.out)) hb); have n1_ := Aside0.mk (hbox); have n2_ := Aside0.mk ((by rw [hg]; exact (below_size (by repeat (first | (with_reducible first | exact HB.out | apply below_alloc | apply pw_below_drewN | apply below_drew1) | exact HB.out))) : w.heap.size ≤ gb249)); have n3_ := Aside0.mk ((by rw [hg]; exact (below_size (by repeat (first | (with_reducible first | exact HB.out | apply below_alloc | apply pw_below_drewN | apply below_drew1) | exact HB.out))) : w.heap.size ≤ gb249)); clear HB; have HB := n0_; have BK249 := n1_; have GW249 := n2_; have GE249 := n3_; clear n0_ n1_ n2_ n3_; clear hb hbox hg; have hcz28_0 : w27.cell? ⟨gb249, 0, none⟩ = some (.string a0_0) := (blk_cell BK249.out 0).trans rfl; have hcz28_1 : w27.cell? ⟨gb249, 1, none⟩ = some (.int .i64 a0_1) := (blk_cell BK249.out 1).trans rfl; have hcz28_2 : w27.cell? ⟨gb249, 2, none⟩ = some (.slice A0_2 l0_2.length c0_2) := (blk_cell BK249.out 2).trans rfl; have hcz28_3 : w27.cell? ⟨gb249, 3, none⟩ = some (.slice A0_3 l0_3.length c0_3) := (blk_cell BK249.out 3).trans rfl; have hcz28_4 : w27.cell? ⟨gb249, 4, none⟩ = some (.string a0_4) := (blk_cell BK249.out 4).trans rfl; have hfz28_0 := blk_frozen BK249.out 0; have hfz28_1 := blk_frozen BK249.out 1; have hfz28_2 := blk_frozen BK249.out 2; have hfz28_3 := blk_frozen BK249.out 3; have hfz28_4 := blk_frozen BK249.out 4) | ((with_reducible refine gate_callee (f := 121) rfl ?_); refine goesL_ (some 11) rfl rfl Try.func121 (by kernel_rfl) rfl #[.string a0_0] rfl (by (try simp only [List.map_toArray, List.map_cons, List.map_nil]); first | done | rfl | (simp only [List.length_drop, List.length_take]; rfl)) ?_; (with_reducible refine (query_name.calls a0_0 true _ A2.out).mono ?_); rintro e w29 ⟨rfl, hb⟩; refine ⟨_, rfl, ?_⟩; have n0_ := Aside0.mk (blk_below (g := gb249) (o := .cells #[.string a0_0, .int .i64 a0_1, .slice A0_2 l0_2.length c0_2, .slice A0_3 l0_3.length c0_3, .string a0_4] 59 (0, 0)) (by (with_reducible repeat (first | refine blk_drewN ?_ _ | refine blk_drew ?_ | refine blk_alloc ?_ _)); exact BK249.out) hb); have n1_ := Aside0.mk (below_step (by repeat (first | (with_reducible first | exact HB.out | apply below_alloc | apply pw_below_drewN | apply below_drew1 | refine below_set ?_ GE249.out) | exact HB.out)) hb); clear BK249; clear HB; have BK249 := n0_; have HB := n1_; clear n0_ n1_; (try clear hb); (try clear hb2); (try clear hk); (try clear hi); have hcz30_0 : w29.cell? ⟨gb249, 0, none⟩ = some (.string a0_0) := (blk_cell BK249.out 0).trans rfl; have hcz30_1 : w29.cell? ⟨gb249, 1, none⟩ = some (.int .i64 a0_1) := (blk_cell BK249.out 1).trans rfl; have hcz30_2 : w29.cell? ⟨gb249, 2, none⟩ = some (.slice A0_2 l0_2.length c0_2) := (blk_cell BK249.out 2).trans rfl; have hcz30_3 : w29.cell? ⟨gb249, 3, none⟩ = some (.slice A0_3 l0_3.length c0_3) := (blk_cell BK249.out 3).trans rfl; have hcz30_4 : w29.cell? ⟨gb249, 4, none⟩ = some (.string a0_4) := (blk_cell BK249.out 4).trans rfl; have hfz30_0 := blk_frozen BK249.out 0; have hfz30_1 := blk_frozen BK249.out 1; have hfz30_2 := blk_frozen BK249.out 2; have hfz30_3 := blk_frozen BK249.out 3; have hfz30_4 := blk_frozen BK249.out 4) | (go_at_call 121; (with_reducible refine (query_name.calls a0_4 false _ A5.out).mono ?_); rintro e w31 ⟨rfl, hb⟩; have n0_ := Aside0.mk (blk_below (g := gb249) (o := .cells #[.string a0_0, .int .i64 a0_1, .slice A0_2 l0_2.length c0_2, .slice A0_3 l0_3.length c0_3, .string a0_4] 59 (0, 0)) (by (with_reducible repeat (first | refine blk_drewN ?_ _ | refine blk_drew ?_ | refine blk_alloc ?_ _)); exact BK249.out) hb); have n1_ := Aside0.mk (below_step (by repeat (first | (with_reducible first | exact HB.out | apply below_alloc | apply pw_below_drewN | apply below_drew1 | refine below_set ?_ GE249.out) | exact HB.out)) hb); clear BK249; clear HB; have BK249 := n0_; have HB := n1_; clear n0_ n1_; (try clear hb); (try clear hb2); (try clear hk); (try clear hi)))
        go_ret
        exact ⟨by first | rfl | (simp [errW_none, errW_some] <;> rfl) | (simp [*, errW_none, errW_some] <;> rfl), by repeat (first | (with_reducible first | exact HB.out | apply below_alloc | apply pw_below_drewN | apply below_drew1 | refine below_set ?_ GE249.out) | exact HB.out)⟩
    · replace c4 := Bool.eq_false_iff.mpr c4
      subst c4
      have H1 : (some 1) = some r := by rw [if_neg (show ¬ (false = true) by decide)] at H; exact H
      clear H
      have H := H1
      clear H1
      obtain rfl := Option.some.inj H
      go_enter Try.func95, Try.ntmps95
      go_wp2_with (first | ((with_reducible refine gate_dst (N := 1) rfl ?_); (try (refine gate_guard (by rfl) ?_; dsimp only)); refine box_event ?hg (N := 1) ?hd (cs := #[.string a0_0, .int .i64 a0_1, .slice A0_2 l0_2.length c0_2, .slice A0_3 l0_3.length c0_3, .string a0_4]) (t := 59) ?hr ?_; (case hd => rfl); (case hg => rfl); (case hr => first | (go_simp; done) | (go_simp; rfl)); intro gb249 hg w32 hbox hb; have n0_ := Aside0.mk (below_step (by repeat (first | (with_reducible first | exact HB.out | apply below_alloc | apply pw_below_drewN | apply below_drew1) | exact HB.out)) hb); have n1_ := Aside0.mk (hbox); have n2_ := Aside0.mk ((by rw [hg]; exact (below_size (by repeat (first | (with_reducible first | exact HB.out | apply below_alloc | apply pw_below_drewN | apply below_drew1) | exact HB.out))) : w.heap.size ≤ gb249)); have n3_ := Aside0.mk ((by rw [hg]; exact (below_size (by repeat (first | (with_reducible first | exact HB.out | apply below_alloc | apply pw_below_drewN | apply below_drew1) | exact HB.out))) : w.heap.size ≤ gb249)); clear HB; have HB := n0_; have BK249 := n1_; have GW249 := n2_; have GE249 := n3_; clear n0_ n1_ n2_ n3_; clear hb hbox hg; have hcz33_0 : w32.cell? ⟨gb249, 0, none⟩ = some (.string a0_0) := (blk_cell BK249.out 0).trans rfl; have hcz33_1 : w32.cell? ⟨gb249, 1, none⟩ = some (.int .i64 a0_1) := (blk_cell BK249.out 1).trans rfl; have hcz33_2 : w32.cell? ⟨gb249, 2, none⟩ = some (.slice A0_2 l0_2.length c0_2) := (blk_cell BK249.out 2).trans rfl; have hcz33_3 : w32.cell? ⟨gb249, 3, none⟩ = some (.slice A0_3 l0_3.length c0_3) := (blk_cell BK249.out 3).trans rfl; have hcz33_4 : w32.cell? ⟨gb249, 4, none⟩ = some (.string a0_4) := (blk_cell BK249.out 4).trans rfl; have hfz33_0 := blk_frozen BK249.out 0; have hfz33_1 := blk_frozen BK249.out 1; have hfz33_2 := blk_frozen BK249.out 2; have hfz33_3 := blk_frozen BK249.out 3; have hfz33_4 := blk_frozen BK249.out 4) | ((with_reducible refine gate_callee (f := 121) rfl ?_); refine goesL_ (some 11) rfl rfl Try.func121 (by kernel_rfl) rfl #[.string a0_0] rfl (by (try simp only [List.map_toArray, List.map_cons, List.map_nil]); first | done | rfl | (simp only [List.length_drop, List.length_take]; rfl)) ?_; (with_reducible refine (query_name.calls a0_0 false _ A2.out).mono ?_); rintro e w34 ⟨rfl, hb⟩; refine ⟨_, rfl, ?_⟩; have n0_ := Aside0.mk (blk_below (g := gb249) (o := .cells #[.string a0_0, .int .i64 a0_1, .slice A0_2 l0_2.length c0_2, .slice A0_3 l0_3.length c0_3, .string a0_4] 59 (0, 0)) (by (with_reducible repeat (first | refine blk_drewN ?_ _ | refine blk_drew ?_ | refine blk_alloc ?_ _)); exact BK249.out) hb); have n1_ := Aside0.mk (below_step (by repeat (first | (with_reducible first | exact HB.out | apply below_alloc | apply pw_below_drewN | apply below_drew1 | refine below_set ?_ GE249.out) | exact HB.out)) hb); clear BK249; clear HB; have BK249 := n0_; have HB := n1_; clear n0_ n1_; (try clear hb); (try clear hb2); (try clear hk); (try clear hi); have hcz35_0 : w34.cell? ⟨gb249, 0, none⟩ = some (.string a0_0) := (blk_cell BK249.out 0).trans rfl; have hcz35_1 : w34.cell? ⟨gb249, 1, none⟩ = some (.int .i64 a0_1) := (blk_cell BK249.out 1).trans rfl; have hcz35_2 : w34.cell? ⟨gb249, 2, none⟩ = some (.slice A0_2 l0_2.length c0_2) := (blk_cell BK249.out 2).trans rfl; have hcz35_3 : w34.cell? ⟨gb249, 3, none⟩ = some (.slice A0_3 l0_3.length c0_3) := (blk_cell BK249.out 3).trans rfl; have hcz35_4 : w34.cell? ⟨gb249, 4, none⟩ = some (.string a0_4) := (blk_cell BK249.out 4).trans rfl; have hfz35_0 := blk_frozen BK249.out 0; have hfz35_1 := blk_frozen BK249.out 1; have hfz35_2 := blk_frozen BK249.out 2; have hfz35_3 := blk_frozen BK249.out 3; have hfz35_4 := blk_frozen BK249.out 4))
      go_ret
      exact ⟨by first | rfl | (simp [errW_none, errW_some] <;> rfl) | (simp [*, errW_none, errW_some] <;> rfl), by repeat (first | (with_reducible first | exact HB.out | apply below_alloc | apply pw_below_drewN | apply below_drew1 | refine below_set ?_ GE249.out) | exact HB.out)⟩
  · rw [if_neg c3] at H
    have c3b0 : (a0_1 == 2) = false := beq_eq_false_iff_ne.mpr c3
    have c3b1 : (a0_1 != 2) = true := bne_iff_ne.mpr c3
    by_cases c36 : a0_1 = 1
    · rw [if_pos c36] at H
      have c36b0 : (a0_1 == 1) = true := beq_iff_eq.mpr c36
      have c36b1 : (a0_1 != 1) = false := bne_eq_false_iff_eq.mpr c36
      clear c36
      have HC37 := Aside0.mk H
      clear H
      go_enter Try.func95, Try.ntmps95
      go_upto_region 7 with (first | ((with_reducible refine gate_dst (N := 1) rfl ?_); (try (refine gate_guard (by rfl) ?_; dsimp only)); refine box_event ?hg (N := 1) ?hd (cs := #[.string a0_0, .int .i64 a0_1, .slice A0_2 l0_2.length c0_2, .slice A0_3 l0_3.length c0_3, .string a0_4]) (t := 59) ?hr ?_; (case hd => rfl); (case hg => rfl); (case hr => first | (go_simp; done) | (go_simp; rfl)); intro gb249 hg w38 hbox hb; have n0_ := Aside0.mk (below_step (by repeat (first | (with_reducible first | exact HB.out | apply below_alloc | apply pw_below_drewN | apply below_drew1) | exact HB.out)) hb); have n1_ := Aside0.mk (hbox); have n2_ := Aside0.mk ((by rw [hg]; exact (below_size (by repeat (first | (with_reducible first | exact HB.out | apply below_alloc | apply pw_below_drewN | apply below_drew1) | exact HB.out))) : w.heap.size ≤ gb249)); have n3_ := Aside0.mk ((by rw [hg]; exact (below_size (by repeat (first | (with_reducible first | exact HB.out | apply below_alloc | apply pw_below_drewN | apply below_drew1) | exact HB.out))) : w.heap.size ≤ gb249)); clear HB; have HB := n0_; have BK249 := n1_; have GW249 := n2_; have GE249 := n3_; clear n0_ n1_ n2_ n3_; clear hb hbox hg; have hcz39_0 : w38.cell? ⟨gb249, 0, none⟩ = some (.string a0_0) := (blk_cell BK249.out 0).trans rfl; have hcz39_1 : w38.cell? ⟨gb249, 1, none⟩ = some (.int .i64 a0_1) := (blk_cell BK249.out 1).trans rfl; have hcz39_2 : w38.cell? ⟨gb249, 2, none⟩ = some (.slice A0_2 l0_2.length c0_2) := (blk_cell BK249.out 2).trans rfl; have hcz39_3 : w38.cell? ⟨gb249, 3, none⟩ = some (.slice A0_3 l0_3.length c0_3) := (blk_cell BK249.out 3).trans rfl; have hcz39_4 : w38.cell? ⟨gb249, 4, none⟩ = some (.string a0_4) := (blk_cell BK249.out 4).trans rfl; have hfz39_0 := blk_frozen BK249.out 0; have hfz39_1 := blk_frozen BK249.out 1; have hfz39_2 := blk_frozen BK249.out 2; have hfz39_3 := blk_frozen BK249.out 3; have hfz39_4 := blk_frozen BK249.out 4) | ((with_reducible refine gate_callee (f := 121) rfl ?_); refine goesL_ (some 11) rfl rfl Try.func121 (by kernel_rfl) rfl #[.string a0_0] rfl (by (try simp only [List.map_toArray, List.map_cons, List.map_nil]); first | done | rfl | (simp only [List.length_drop, List.length_take]; rfl)) ?_; (with_reducible refine (query_name.calls a0_0 t250 _ A2.out).mono ?_); rintro e w40 ⟨rfl, hb⟩; refine ⟨_, rfl, ?_⟩; have n0_ := Aside0.mk (blk_below (g := gb249) (o := .cells #[.string a0_0, .int .i64 a0_1, .slice A0_2 l0_2.length c0_2, .slice A0_3 l0_3.length c0_3, .string a0_4] 59 (0, 0)) (by (with_reducible repeat (first | refine blk_drewN ?_ _ | refine blk_drew ?_ | refine blk_alloc ?_ _)); exact BK249.out) hb); have n1_ := Aside0.mk (below_step (by repeat (first | (with_reducible first | exact HB.out | apply below_alloc | apply pw_below_drewN | apply below_drew1 | refine below_set ?_ GE249.out) | exact HB.out)) hb); clear BK249; clear HB; have BK249 := n0_; have HB := n1_; clear n0_ n1_; (try clear hb); (try clear hb2); (try clear hk); (try clear hi); have hcz41_0 : w40.cell? ⟨gb249, 0, none⟩ = some (.string a0_0) := (blk_cell BK249.out 0).trans rfl; have hcz41_1 : w40.cell? ⟨gb249, 1, none⟩ = some (.int .i64 a0_1) := (blk_cell BK249.out 1).trans rfl; have hcz41_2 : w40.cell? ⟨gb249, 2, none⟩ = some (.slice A0_2 l0_2.length c0_2) := (blk_cell BK249.out 2).trans rfl; have hcz41_3 : w40.cell? ⟨gb249, 3, none⟩ = some (.slice A0_3 l0_3.length c0_3) := (blk_cell BK249.out 3).trans rfl; have hcz41_4 : w40.cell? ⟨gb249, 4, none⟩ = some (.string a0_4) := (blk_cell BK249.out 4).trans rfl; have hfz41_0 := blk_frozen BK249.out 0; have hfz41_1 := blk_frozen BK249.out 1; have hfz41_2 := blk_frozen BK249.out 2; have hfz41_3 := blk_frozen BK249.out 3; have hfz41_4 := blk_frozen BK249.out 4))
      (try simp only [Act.put, List.setIfInBounds_toArray, List.set_cons_zero, List.set_cons_succ])
      go_cut [3] (fun v3 wc => ∃ (kq : Nat) (x3_36 : Bool), v3 = .bool x3_36 ∧ Aside0 (query_Check.j0 kq x3_36 a0_0 a0_1 l0_2 l0_3 a0_4 = some r) ∧ Aside0 (kq ≤ k) ∧ Aside0 (wc.heap[gb249]? = some (.cells #[.string a0_0, .int .i64 a0_1, (.slice A0_2 l0_2.length c0_2), (.slice A0_3 l0_3.length c0_3), .string a0_4] 59 (0, 0))) ∧ Aside0 (Below w.heap.size w wc))
      case first =>
        have H := HC37.out
        clear HC37
        by_cases c42 : t250 = true
        · subst c42
          have H1 : (if a0_4.toList = ([] : List UInt8) then (if (l0_2.length : Int) ≥ 1 then (if (l0_2.length : Int) ≤ 6 then (if (l0_3.length : Int) ≥ 1 then (query_Check.j0 k (decide ((l0_3.length : Int) ≤ 8)) a0_0 a0_1 l0_2 l0_3 a0_4) else (query_Check.j0 k false a0_0 a0_1 l0_2 l0_3 a0_4)) else (query_Check.j0 k false a0_0 a0_1 l0_2 l0_3 a0_4)) else (query_Check.j0 k false a0_0 a0_1 l0_2 l0_3 a0_4)) else (query_Check.j0 k false a0_0 a0_1 l0_2 l0_3 a0_4)) = some r := by rw [if_pos rfl] at H; exact H
          clear H
          have H := H1
          clear H1
          by_cases c43 : a0_4.toList = ([] : List UInt8)
          · rw [if_pos c43] at H
            have c43b0 : (a0_4.toList == ([] : List UInt8)) = true := beq_iff_eq.mpr c43
            have c43b1 : (a0_4.toList != ([] : List UInt8)) = false := bne_eq_false_iff_eq.mpr c43
            clear c43
            (first | rw [c43b0] | (simp only [i64_w, i32_w]; rw [c43b0]) | skip)
            by_cases c44 : (l0_2.length : Int) ≥ 1
            · rw [if_pos c44] at H
              have c44b0 : decide (1 ≤ (l0_2.length : Int)) = true := decide_eq_true c44
              have c44b1 : decide (1 ≤ l0_2.length) = true := decide_eq_true (by omega)
              clear c44
              by_cases c45 : (l0_2.length : Int) ≤ 6
              · rw [if_pos c45] at H
                have c45b0 : decide ((l0_2.length : Int) ≤ 6) = true := decide_eq_true c45
                have c45b1 : decide (l0_2.length ≤ 6) = true := decide_eq_true (by omega)
                clear c45
                by_cases c46 : (l0_3.length : Int) ≥ 1
                · rw [if_pos c46] at H
                  have c46b0 : decide (1 ≤ (l0_3.length : Int)) = true := decide_eq_true c46
                  have c46b1 : decide (1 ≤ l0_3.length) = true := decide_eq_true (by omega)
                  clear c46
                  have H' := Aside0.mk H
                  clear H
                  have hcz47_0 : w40.cell? ⟨gb249, 0, none⟩ = some (.string a0_0) := (blk_cell BK249.out 0).trans rfl
                  have hcz47_1 : w40.cell? ⟨gb249, 1, none⟩ = some (.int .i64 a0_1) := (blk_cell BK249.out 1).trans rfl
                  have hcz47_2 : w40.cell? ⟨gb249, 2, none⟩ = some (.slice A0_2 l0_2.length c0_2) := (blk_cell BK249.out 2).trans rfl
                  have hcz47_3 : w40.cell? ⟨gb249, 3, none⟩ = some (.slice A0_3 l0_3.length c0_3) := (blk_cell BK249.out 3).trans rfl
                  have hcz47_4 : w40.cell? ⟨gb249, 4, none⟩ = some (.string a0_4) := (blk_cell BK249.out 4).trans rfl
                  have hfz47_0 := blk_frozen BK249.out 0
                  have hfz47_1 := blk_frozen BK249.out 1
                  have hfz47_2 := blk_frozen BK249.out 2
                  have hfz47_3 := blk_frozen BK249.out 3
                  have hfz47_4 := blk_frozen BK249.out 4
                  go_wp2
                  go_meet
                  case rel => exact ⟨_, (decide ((l0_3.length : Int) ≤ 8)), (by first | rfl | (simp; done) | (simp [*]; done)), H', ⟨by first | omega | exact Nat.le_refl _⟩, ⟨by (with_reducible repeat (first | refine blk_drewN ?_ _ | refine blk_drew ?_ | refine blk_alloc ?_ _)); exact BK249.out⟩, ⟨by repeat (first | (with_reducible first | exact HB.out | apply below_alloc | apply pw_below_drewN | apply below_drew1 | refine below_set ?_ GE249.out) | exact HB.out)⟩⟩
                · rw [if_neg c46] at H
                  have c46b0 : decide (1 ≤ (l0_3.length : Int)) = false := decide_eq_false c46
                  have c46b1 : decide (1 ≤ l0_3.length) = false := decide_eq_false (by omega)
                  clear c46
                  have H' := Aside0.mk H
                  clear H
                  have hcz48_0 : w40.cell? ⟨gb249, 0, none⟩ = some (.string a0_0) := (blk_cell BK249.out 0).trans rfl
                  have hcz48_1 : w40.cell? ⟨gb249, 1, none⟩ = some (.int .i64 a0_1) := (blk_cell BK249.out 1).trans rfl
                  have hcz48_2 : w40.cell? ⟨gb249, 2, none⟩ = some (.slice A0_2 l0_2.length c0_2) := (blk_cell BK249.out 2).trans rfl
                  have hcz48_3 : w40.cell? ⟨gb249, 3, none⟩ = some (.slice A0_3 l0_3.length c0_3) := (blk_cell BK249.out 3).trans rfl
                  have hcz48_4 : w40.cell? ⟨gb249, 4, none⟩ = some (.string a0_4) := (blk_cell BK249.out 4).trans rfl
                  have hfz48_0 := blk_frozen BK249.out 0
                  have hfz48_1 := blk_frozen BK249.out 1
                  have hfz48_2 := blk_frozen BK249.out 2
                  have hfz48_3 := blk_frozen BK249.out 3
                  have hfz48_4 := blk_frozen BK249.out 4
                  go_wp2
                  go_meet
                  case rel => exact ⟨_, (false), (by first | rfl | (simp; done) | (simp [*]; done)), H', ⟨by first | omega | exact Nat.le_refl _⟩, ⟨by (with_reducible repeat (first | refine blk_drewN ?_ _ | refine blk_drew ?_ | refine blk_alloc ?_ _)); exact BK249.out⟩, ⟨by repeat (first | (with_reducible first | exact HB.out | apply below_alloc | apply pw_below_drewN | apply below_drew1 | refine below_set ?_ GE249.out) | exact HB.out)⟩⟩
              · rw [if_neg c45] at H
                have c45b0 : decide ((l0_2.length : Int) ≤ 6) = false := decide_eq_false c45
                have c45b1 : decide (l0_2.length ≤ 6) = false := decide_eq_false (by omega)
                clear c45
                have H' := Aside0.mk H
                clear H
                have hcz49_0 : w40.cell? ⟨gb249, 0, none⟩ = some (.string a0_0) := (blk_cell BK249.out 0).trans rfl
                have hcz49_1 : w40.cell? ⟨gb249, 1, none⟩ = some (.int .i64 a0_1) := (blk_cell BK249.out 1).trans rfl
                have hcz49_2 : w40.cell? ⟨gb249, 2, none⟩ = some (.slice A0_2 l0_2.length c0_2) := (blk_cell BK249.out 2).trans rfl
                have hcz49_3 : w40.cell? ⟨gb249, 3, none⟩ = some (.slice A0_3 l0_3.length c0_3) := (blk_cell BK249.out 3).trans rfl
                have hcz49_4 : w40.cell? ⟨gb249, 4, none⟩ = some (.string a0_4) := (blk_cell BK249.out 4).trans rfl
                have hfz49_0 := blk_frozen BK249.out 0
                have hfz49_1 := blk_frozen BK249.out 1
                have hfz49_2 := blk_frozen BK249.out 2
                have hfz49_3 := blk_frozen BK249.out 3
                have hfz49_4 := blk_frozen BK249.out 4
                go_wp2
                go_meet
                case rel => exact ⟨_, (false), (by first | rfl | (simp; done) | (simp [*]; done)), H', ⟨by first | omega | exact Nat.le_refl _⟩, ⟨by (with_reducible repeat (first | refine blk_drewN ?_ _ | refine blk_drew ?_ | refine blk_alloc ?_ _)); exact BK249.out⟩, ⟨by repeat (first | (with_reducible first | exact HB.out | apply below_alloc | apply pw_below_drewN | apply below_drew1 | refine below_set ?_ GE249.out) | exact HB.out)⟩⟩
            · rw [if_neg c44] at H
              have c44b0 : decide (1 ≤ (l0_2.length : Int)) = false := decide_eq_false c44
              have c44b1 : decide (1 ≤ l0_2.length) = false := decide_eq_false (by omega)
              clear c44
              have H' := Aside0.mk H
              clear H
              have hcz50_0 : w40.cell? ⟨gb249, 0, none⟩ = some (.string a0_0) := (blk_cell BK249.out 0).trans rfl
              have hcz50_1 : w40.cell? ⟨gb249, 1, none⟩ = some (.int .i64 a0_1) := (blk_cell BK249.out 1).trans rfl
              have hcz50_2 : w40.cell? ⟨gb249, 2, none⟩ = some (.slice A0_2 l0_2.length c0_2) := (blk_cell BK249.out 2).trans rfl
              have hcz50_3 : w40.cell? ⟨gb249, 3, none⟩ = some (.slice A0_3 l0_3.length c0_3) := (blk_cell BK249.out 3).trans rfl
              have hcz50_4 : w40.cell? ⟨gb249, 4, none⟩ = some (.string a0_4) := (blk_cell BK249.out 4).trans rfl
              have hfz50_0 := blk_frozen BK249.out 0
              have hfz50_1 := blk_frozen BK249.out 1
              have hfz50_2 := blk_frozen BK249.out 2
              have hfz50_3 := blk_frozen BK249.out 3
              have hfz50_4 := blk_frozen BK249.out 4
              go_wp2
              go_meet
              case rel => exact ⟨_, (false), (by first | rfl | (simp; done) | (simp [*]; done)), H', ⟨by first | omega | exact Nat.le_refl _⟩, ⟨by (with_reducible repeat (first | refine blk_drewN ?_ _ | refine blk_drew ?_ | refine blk_alloc ?_ _)); exact BK249.out⟩, ⟨by repeat (first | (with_reducible first | exact HB.out | apply below_alloc | apply pw_below_drewN | apply below_drew1 | refine below_set ?_ GE249.out) | exact HB.out)⟩⟩
          · rw [if_neg c43] at H
            have c43b0 : (a0_4.toList == ([] : List UInt8)) = false := beq_eq_false_iff_ne.mpr c43
            have c43b1 : (a0_4.toList != ([] : List UInt8)) = true := bne_iff_ne.mpr c43
            (first | rw [c43b0] | (simp only [i64_w, i32_w]; rw [c43b0]) | skip)
            have H' := Aside0.mk H
            clear H
            have hcz51_0 : w40.cell? ⟨gb249, 0, none⟩ = some (.string a0_0) := (blk_cell BK249.out 0).trans rfl
            have hcz51_1 : w40.cell? ⟨gb249, 1, none⟩ = some (.int .i64 a0_1) := (blk_cell BK249.out 1).trans rfl
            have hcz51_2 : w40.cell? ⟨gb249, 2, none⟩ = some (.slice A0_2 l0_2.length c0_2) := (blk_cell BK249.out 2).trans rfl
            have hcz51_3 : w40.cell? ⟨gb249, 3, none⟩ = some (.slice A0_3 l0_3.length c0_3) := (blk_cell BK249.out 3).trans rfl
            have hcz51_4 : w40.cell? ⟨gb249, 4, none⟩ = some (.string a0_4) := (blk_cell BK249.out 4).trans rfl
            have hfz51_0 := blk_frozen BK249.out 0
            have hfz51_1 := blk_frozen BK249.out 1
            have hfz51_2 := blk_frozen BK249.out 2
            have hfz51_3 := blk_frozen BK249.out 3
            have hfz51_4 := blk_frozen BK249.out 4
            go_wp2
            go_meet
            case rel => exact ⟨_, (false), (by first | rfl | (simp; done) | (simp [*]; done)), H', ⟨by first | omega | exact Nat.le_refl _⟩, ⟨by (with_reducible repeat (first | refine blk_drewN ?_ _ | refine blk_drew ?_ | refine blk_alloc ?_ _)); exact BK249.out⟩, ⟨by repeat (first | (with_reducible first | exact HB.out | apply below_alloc | apply pw_below_drewN | apply below_drew1 | refine below_set ?_ GE249.out) | exact HB.out)⟩⟩
        · replace c42 := Bool.eq_false_iff.mpr c42
          subst c42
          have H1 : (query_Check.j0 k false a0_0 a0_1 l0_2 l0_3 a0_4) = some r := by rw [if_neg (show ¬ (false = true) by decide)] at H; exact H
          clear H
          have H := H1
          clear H1
          have H' := Aside0.mk H
          clear H
          go_wp2
          go_meet
          case rel => exact ⟨_, (false), (by first | rfl | (simp; done) | (simp [*]; done)), H', ⟨by first | omega | exact Nat.le_refl _⟩, ⟨by (with_reducible repeat (first | refine blk_drewN ?_ _ | refine blk_drew ?_ | refine blk_alloc ?_ _)); exact BK249.out⟩, ⟨by repeat (first | (with_reducible first | exact HB.out | apply below_alloc | apply pw_below_drewN | apply below_drew1 | refine below_set ?_ GE249.out) | exact HB.out)⟩⟩
      case rest =>
        clear HC37
        try clear c1
        try clear p2
        try clear c3
        try clear c3b0
        try clear c3b1
        try clear c4
        try clear c6
        try clear c7
        try clear c7b0
        try clear c7b1
        try clear c7b2
        try clear c8
        try clear c8b0
        try clear c8b1
        try clear c8b2
        try clear c9
        try clear c12
        try clear c36
        try clear c36b0
        try clear c36b1
        try clear c42
        try clear c43
        try clear c43b0
        try clear c43b1
        try clear c44
        try clear c44b0
        try clear c44b1
        try clear c45
        try clear c45b0
        try clear c45b1
        try clear c46
        try clear c46b0
        try clear c46b1
        try clear hcz10_0
        try clear hcz10_1
        try clear hcz10_2
        try clear hcz10_3
        try clear hcz10_4
        try clear hcz12_0
        try clear hcz12_1
        try clear hcz12_2
        try clear hcz12_3
        try clear hcz12_4
        try clear hcz14_0
        try clear hcz14_1
        try clear hcz14_2
        try clear hcz14_3
        try clear hcz14_4
        try clear hcz16_0
        try clear hcz16_1
        try clear hcz16_2
        try clear hcz16_3
        try clear hcz16_4
        try clear hcz18_0
        try clear hcz18_1
        try clear hcz18_2
        try clear hcz18_3
        try clear hcz18_4
        try clear hcz20_0
        try clear hcz20_1
        try clear hcz20_2
        try clear hcz20_3
        try clear hcz20_4
        try clear hcz22_0
        try clear hcz22_1
        try clear hcz22_2
        try clear hcz22_3
        try clear hcz22_4
        try clear hcz24_0
        try clear hcz24_1
        try clear hcz24_2
        try clear hcz24_3
        try clear hcz24_4
        try clear hcz26_0
        try clear hcz26_1
        try clear hcz26_2
        try clear hcz26_3
        try clear hcz26_4
        try clear hcz28_0
        try clear hcz28_1
        try clear hcz28_2
        try clear hcz28_3
        try clear hcz28_4
        try clear hcz30_0
        try clear hcz30_1
        try clear hcz30_2
        try clear hcz30_3
        try clear hcz30_4
        try clear hcz33_0
        try clear hcz33_1
        try clear hcz33_2
        try clear hcz33_3
        try clear hcz33_4
        try clear hcz35_0
        try clear hcz35_1
        try clear hcz35_2
        try clear hcz35_3
        try clear hcz35_4
        try clear hcz39_0
        try clear hcz39_1
        try clear hcz39_2
        try clear hcz39_3
        try clear hcz39_4
        try clear hcz41_0
        try clear hcz41_1
        try clear hcz41_2
        try clear hcz41_3
        try clear hcz41_4
        try clear hcz47_0
        try clear hcz47_1
        try clear hcz47_2
        try clear hcz47_3
        try clear hcz47_4
        try clear hcz48_0
        try clear hcz48_1
        try clear hcz48_2
        try clear hcz48_3
        try clear hcz48_4
        try clear hcz49_0
        try clear hcz49_1
        try clear hcz49_2
        try clear hcz49_3
        try clear hcz49_4
        try clear hcz50_0
        try clear hcz50_1
        try clear hcz50_2
        try clear hcz50_3
        try clear hcz50_4
        try clear hcz51_0
        try clear hcz51_1
        try clear hcz51_2
        try clear hcz51_3
        try clear hcz51_4
        try clear hfz10_0
        try clear hfz10_1
        try clear hfz10_2
        try clear hfz10_3
        try clear hfz10_4
        try clear hfz12_0
        try clear hfz12_1
        try clear hfz12_2
        try clear hfz12_3
        try clear hfz12_4
        try clear hfz14_0
        try clear hfz14_1
        try clear hfz14_2
        try clear hfz14_3
        try clear hfz14_4
        try clear hfz16_0
        try clear hfz16_1
        try clear hfz16_2
        try clear hfz16_3
        try clear hfz16_4
        try clear hfz18_0
        try clear hfz18_1
        try clear hfz18_2
        try clear hfz18_3
        try clear hfz18_4
        try clear hfz20_0
        try clear hfz20_1
        try clear hfz20_2
        try clear hfz20_3
        try clear hfz20_4
        try clear hfz22_0
        try clear hfz22_1
        try clear hfz22_2
        try clear hfz22_3
        try clear hfz22_4
        try clear hfz24_0
        try clear hfz24_1
        try clear hfz24_2
        try clear hfz24_3
        try clear hfz24_4
        try clear hfz26_0
        try clear hfz26_1
        try clear hfz26_2
        try clear hfz26_3
        try clear hfz26_4
        try clear hfz28_0
        try clear hfz28_1
        try clear hfz28_2
        try clear hfz28_3
        try clear hfz28_4
        try clear hfz30_0
        try clear hfz30_1
        try clear hfz30_2
        try clear hfz30_3
        try clear hfz30_4
        try clear hfz33_0
        try clear hfz33_1
        try clear hfz33_2
        try clear hfz33_3
        try clear hfz33_4
        try clear hfz35_0
        try clear hfz35_1
        try clear hfz35_2
        try clear hfz35_3
        try clear hfz35_4
        try clear hfz39_0
        try clear hfz39_1
        try clear hfz39_2
        try clear hfz39_3
        try clear hfz39_4
        try clear hfz41_0
        try clear hfz41_1
        try clear hfz41_2
        try clear hfz41_3
        try clear hfz41_4
        try clear hfz47_0
        try clear hfz47_1
        try clear hfz47_2
        try clear hfz47_3
        try clear hfz47_4
        try clear hfz48_0
        try clear hfz48_1
        try clear hfz48_2
        try clear hfz48_3
        try clear hfz48_4
        try clear hfz49_0
        try clear hfz49_1
        try clear hfz49_2
        try clear hfz49_3
        try clear hfz49_4
        try clear hfz50_0
        try clear hfz50_1
        try clear hfz50_2
        try clear hfz50_3
        try clear hfz50_4
        try clear hfz51_0
        try clear hfz51_1
        try clear hfz51_2
        try clear hfz51_3
        try clear hfz51_4
        obtain ⟨kq, x3_36, rfl, HA, HJ36, BK249, HB⟩ := hcut
        cases kq with
        | zero => exact absurd HA.out (by simp [query_Check.j0])
        | succ kj36 =>
          have H := HA.out
          clear HA
          simp only [query_Check.j0] at H
          have H' := Aside0.mk H
          clear H
          have hcz52_0 : wc.cell? ⟨gb249, 0, none⟩ = some (.string a0_0) := (blk_cell BK249.out 0).trans rfl
          have hcz52_1 : wc.cell? ⟨gb249, 1, none⟩ = some (.int .i64 a0_1) := (blk_cell BK249.out 1).trans rfl
          have hcz52_2 : wc.cell? ⟨gb249, 2, none⟩ = some (.slice A0_2 l0_2.length c0_2) := (blk_cell BK249.out 2).trans rfl
          have hcz52_3 : wc.cell? ⟨gb249, 3, none⟩ = some (.slice A0_3 l0_3.length c0_3) := (blk_cell BK249.out 3).trans rfl
          have hcz52_4 : wc.cell? ⟨gb249, 4, none⟩ = some (.string a0_4) := (blk_cell BK249.out 4).trans rfl
          have hfz52_0 := blk_frozen BK249.out 0
          have hfz52_1 := blk_frozen BK249.out 1
          have hfz52_2 := blk_frozen BK249.out 2
          have hfz52_3 := blk_frozen BK249.out 3
          have hfz52_4 := blk_frozen BK249.out 4
          go_wp2
          go_loopg [3, 69] kj36 (fun kq v3 v69 w' => ∃ (x3_2 : Bool) (x69_2 : Int), v3 = .bool x3_2 ∧ v69 = .int .i64 x69_2 ∧ Aside0 (query_Check.l0 kq x3_2 l0_3 (l0_3.length : Int) x69_2 a0_0 a0_1 l0_2 l0_3 a0_4 = some r) ∧ Aside0 (kq ≤ kj36) ∧ Aside0 (w'.heap[gb249]? = some (.cells #[.string a0_0, .int .i64 a0_1, (.slice A0_2 l0_2.length c0_2), (.slice A0_3 l0_3.length c0_3), .string a0_4] 59 (0, 0))) ∧ Aside0 (Below w.heap.size w w'))
          case atStart => exact ⟨(x3_36), (0), (by first | rfl | (simp; done) | (simp [*]; done)), (by first | rfl | (simp; done) | (simp [*]; done)), H', ⟨Nat.le_refl _⟩, ⟨by (with_reducible repeat (first | refine blk_drewN ?_ _ | refine blk_drew ?_ | refine blk_alloc ?_ _)); exact BK249.out⟩, ⟨by repeat (first | (with_reducible first | exact HB.out | apply below_alloc | apply pw_below_drewN | apply below_drew1 | refine below_set ?_ GE249.out) | exact HB.out)⟩⟩
          case round =>
            clear H'
            try clear c1
            try clear p2
            try clear c3
            try clear c3b0
            try clear c3b1
            try clear c4
            try clear c6
            try clear c7
            try clear c7b0
            try clear c7b1
            try clear c7b2
            try clear c8
            try clear c8b0
            try clear c8b1
            try clear c8b2
            try clear c9
            try clear c12
            try clear c36
            try clear c36b0
            try clear c36b1
            try clear c42
            try clear c43
            try clear c43b0
            try clear c43b1
            try clear c44
            try clear c44b0
            try clear c44b1
            try clear c45
            try clear c45b0
            try clear c45b1
            try clear c46
            try clear c46b0
            try clear c46b1
            try clear hcz10_0
            try clear hcz10_1
            try clear hcz10_2
            try clear hcz10_3
            try clear hcz10_4
            try clear hcz12_0
            try clear hcz12_1
            try clear hcz12_2
            try clear hcz12_3
            try clear hcz12_4
            try clear hcz14_0
            try clear hcz14_1
            try clear hcz14_2
            try clear hcz14_3
            try clear hcz14_4
            try clear hcz16_0
            try clear hcz16_1
            try clear hcz16_2
            try clear hcz16_3
            try clear hcz16_4
            try clear hcz18_0
            try clear hcz18_1
            try clear hcz18_2
            try clear hcz18_3
            try clear hcz18_4
            try clear hcz20_0
            try clear hcz20_1
            try clear hcz20_2
            try clear hcz20_3
            try clear hcz20_4
            try clear hcz22_0
            try clear hcz22_1
            try clear hcz22_2
            try clear hcz22_3
            try clear hcz22_4
            try clear hcz24_0
            try clear hcz24_1
            try clear hcz24_2
            try clear hcz24_3
            try clear hcz24_4
            try clear hcz26_0
            try clear hcz26_1
            try clear hcz26_2
            try clear hcz26_3
            try clear hcz26_4
            try clear hcz28_0
            try clear hcz28_1
            try clear hcz28_2
            try clear hcz28_3
            try clear hcz28_4
            try clear hcz30_0
            try clear hcz30_1
            try clear hcz30_2
            try clear hcz30_3
            try clear hcz30_4
            try clear hcz33_0
            try clear hcz33_1
            try clear hcz33_2
            try clear hcz33_3
            try clear hcz33_4
            try clear hcz35_0
            try clear hcz35_1
            try clear hcz35_2
            try clear hcz35_3
            try clear hcz35_4
            try clear hcz39_0
            try clear hcz39_1
            try clear hcz39_2
            try clear hcz39_3
            try clear hcz39_4
            try clear hcz41_0
            try clear hcz41_1
            try clear hcz41_2
            try clear hcz41_3
            try clear hcz41_4
            try clear hcz47_0
            try clear hcz47_1
            try clear hcz47_2
            try clear hcz47_3
            try clear hcz47_4
            try clear hcz48_0
            try clear hcz48_1
            try clear hcz48_2
            try clear hcz48_3
            try clear hcz48_4
            try clear hcz49_0
            try clear hcz49_1
            try clear hcz49_2
            try clear hcz49_3
            try clear hcz49_4
            try clear hcz50_0
            try clear hcz50_1
            try clear hcz50_2
            try clear hcz50_3
            try clear hcz50_4
            try clear hcz51_0
            try clear hcz51_1
            try clear hcz51_2
            try clear hcz51_3
            try clear hcz51_4
            try clear hcz52_0
            try clear hcz52_1
            try clear hcz52_2
            try clear hcz52_3
            try clear hcz52_4
            try clear hfz10_0
            try clear hfz10_1
            try clear hfz10_2
            try clear hfz10_3
            try clear hfz10_4
            try clear hfz12_0
            try clear hfz12_1
            try clear hfz12_2
            try clear hfz12_3
            try clear hfz12_4
            try clear hfz14_0
            try clear hfz14_1
            try clear hfz14_2
            try clear hfz14_3
            try clear hfz14_4
            try clear hfz16_0
            try clear hfz16_1
            try clear hfz16_2
            try clear hfz16_3
            try clear hfz16_4
            try clear hfz18_0
            try clear hfz18_1
            try clear hfz18_2
            try clear hfz18_3
            try clear hfz18_4
            try clear hfz20_0
            try clear hfz20_1
            try clear hfz20_2
            try clear hfz20_3
            try clear hfz20_4
            try clear hfz22_0
            try clear hfz22_1
            try clear hfz22_2
            try clear hfz22_3
            try clear hfz22_4
            try clear hfz24_0
            try clear hfz24_1
            try clear hfz24_2
            try clear hfz24_3
            try clear hfz24_4
            try clear hfz26_0
            try clear hfz26_1
            try clear hfz26_2
            try clear hfz26_3
            try clear hfz26_4
            try clear hfz28_0
            try clear hfz28_1
            try clear hfz28_2
            try clear hfz28_3
            try clear hfz28_4
            try clear hfz30_0
            try clear hfz30_1
            try clear hfz30_2
            try clear hfz30_3
            try clear hfz30_4
            try clear hfz33_0
            try clear hfz33_1
            try clear hfz33_2
            try clear hfz33_3
            try clear hfz33_4
            try clear hfz35_0
            try clear hfz35_1
            try clear hfz35_2
            try clear hfz35_3
            try clear hfz35_4
            try clear hfz39_0
            try clear hfz39_1
            try clear hfz39_2
            try clear hfz39_3
            try clear hfz39_4
            try clear hfz41_0
            try clear hfz41_1
            try clear hfz41_2
            try clear hfz41_3
            try clear hfz41_4
            try clear hfz47_0
            try clear hfz47_1
            try clear hfz47_2
            try clear hfz47_3
            try clear hfz47_4
            try clear hfz48_0
            try clear hfz48_1
            try clear hfz48_2
            try clear hfz48_3
            try clear hfz48_4
            try clear hfz49_0
            try clear hfz49_1
            try clear hfz49_2
            try clear hfz49_3
            try clear hfz49_4
            try clear hfz50_0
            try clear hfz50_1
            try clear hfz50_2
            try clear hfz50_3
            try clear hfz50_4
            try clear hfz51_0
            try clear hfz51_1
            try clear hfz51_2
            try clear hfz51_3
            try clear hfz51_4
            try clear hfz52_0
            try clear hfz52_1
            try clear hfz52_2
            try clear hfz52_3
            try clear hfz52_4
            try clear p2
            obtain ⟨x3_2, x69_2, rfl, rfl, HA, HK2, BK249, HB⟩ := hrel
            cases gk with
            | zero => exact absurd HA.out (by simp [query_Check.l0])
            | succ k2 =>
              have H := HA.out
              clear HA
              simp only [query_Check.l0] at H
              by_cases c53 : x69_2 < (l0_3.length : Int)
              · rw [if_pos c53] at H
                have c53b0 : decide (x69_2 < (l0_3.length : Int)) = true := decide_eq_true c53
                clear c53
                by_cases c54 : 0 ≤ x69_2
                · rw [if_pos c54] at H
                  have c54b0 : decide (0 ≤ x69_2) = true := decide_eq_true c54
                  clear c54
                  by_cases c55 : x69_2 < (l0_3.length : Int)
                  · rw [if_pos c55] at H
                    have c55b0 : decide (x69_2 < (l0_3.length : Int)) = true := decide_eq_true c55
                    clear c55
                    by_cases c56 : x3_2 = true
                    · subst c56
                      have H1 : ((query_name.f ((rd_T118 l0_3 x69_2).f0)).bind fun t254 => (if t254 = true then ((query_name.f ((rd_T118 l0_3 x69_2).f1)).bind fun t255 => (if t255 = true then ((query_name.f ((rd_T118 l0_3 x69_2).f2)).bind fun t256 => (query_Check.l0 k2 t256 l0_3 (l0_3.length : Int) (wrap64 (x69_2 + 1)) a0_0 a0_1 l0_2 l0_3 a0_4)) else (query_Check.l0 k2 false l0_3 (l0_3.length : Int) (wrap64 (x69_2 + 1)) a0_0 a0_1 l0_2 l0_3 a0_4))) else (query_Check.l0 k2 false l0_3 (l0_3.length : Int) (wrap64 (x69_2 + 1)) a0_0 a0_1 l0_2 l0_3 a0_4))) = some r := by rw [if_pos rfl] at H; exact H
                      clear H
                      have H := H1
                      clear H1
                      replace H := Option.bind_eq_some_iff.mp H
                      obtain ⟨t254, A570, H⟩ := H
                      replace H : (if t254 = true then ((query_name.f ((rd_T118 l0_3 x69_2).f1)).bind fun t255 => (if t255 = true then ((query_name.f ((rd_T118 l0_3 x69_2).f2)).bind fun t256 => (query_Check.l0 k2 t256 l0_3 (l0_3.length : Int) (wrap64 (x69_2 + 1)) a0_0 a0_1 l0_2 l0_3 a0_4)) else (query_Check.l0 k2 false l0_3 (l0_3.length : Int) (wrap64 (x69_2 + 1)) a0_0 a0_1 l0_2 l0_3 a0_4))) else (query_Check.l0 k2 false l0_3 (l0_3.length : Int) (wrap64 (x69_2 + 1)) a0_0 a0_1 l0_2 l0_3 a0_4)) = some r := H
                      have A57 := Aside0.mk A570
                      clear A570
                      by_cases c58 : t254 = true
                      · subst c58
                        have H1 : ((query_name.f ((rd_T118 l0_3 x69_2).f1)).bind fun t255 => (if t255 = true then ((query_name.f ((rd_T118 l0_3 x69_2).f2)).bind fun t256 => (query_Check.l0 k2 t256 l0_3 (l0_3.length : Int) (wrap64 (x69_2 + 1)) a0_0 a0_1 l0_2 l0_3 a0_4)) else (query_Check.l0 k2 false l0_3 (l0_3.length : Int) (wrap64 (x69_2 + 1)) a0_0 a0_1 l0_2 l0_3 a0_4))) = some r := by rw [if_pos rfl] at H; exact H
                        clear H
                        have H := H1
                        clear H1
                        replace H := Option.bind_eq_some_iff.mp H
                        obtain ⟨t255, A590, H⟩ := H
                        replace H : (if t255 = true then ((query_name.f ((rd_T118 l0_3 x69_2).f2)).bind fun t256 => (query_Check.l0 k2 t256 l0_3 (l0_3.length : Int) (wrap64 (x69_2 + 1)) a0_0 a0_1 l0_2 l0_3 a0_4)) else (query_Check.l0 k2 false l0_3 (l0_3.length : Int) (wrap64 (x69_2 + 1)) a0_0 a0_1 l0_2 l0_3 a0_4)) = some r := H
                        have A59 := Aside0.mk A590
                        clear A590
                        by_cases c60 : t255 = true
                        · subst c60
                          have H1 : ((query_name.f ((rd_T118 l0_3 x69_2).f2)).bind fun t256 => (query_Check.l0 k2 t256 l0_3 (l0_3.length : Int) (wrap64 (x69_2 + 1)) a0_0 a0_1 l0_2 l0_3 a0_4)) = some r := by rw [if_pos rfl] at H; exact H
                          clear H
                          have H := H1
                          clear H1
                          replace H := Option.bind_eq_some_iff.mp H
                          obtain ⟨t256, A610, H⟩ := H
                          replace H : (query_Check.l0 k2 t256 l0_3 (l0_3.length : Int) (wrap64 (x69_2 + 1)) a0_0 a0_1 l0_2 l0_3 a0_4) = some r := H
                          have A61 := Aside0.mk A610
                          clear A610
                          have H' := Aside0.mk H
                          clear H
                          have p252 : 0 ≤ (x69_2 : Int) := of_decide_eq_true (by first | (with_reducible assumption) | assumption)
                          have q252 : x69_2 < (l0_3.length : Int) := of_decide_eq_true (by first | (with_reducible assumption) | assumption)
                          obtain ⟨ad252, e252, hx252_0, hx252_1, hx252_2⟩ := at_T118 HR0_3.out x69_2 p252 q252
                          cases e252
                          replace hx252_0 := (HB.out.cell (World.block_lt_of_cell? w _ hx252_0)).trans hx252_0
                          replace hx252_1 := (HB.out.cell (World.block_lt_of_cell? w _ hx252_1)).trans hx252_1
                          replace hx252_2 := (HB.out.cell (World.block_lt_of_cell? w _ hx252_2)).trans hx252_2
                          replace p252 := eq_true p252
                          replace q252 := eq_true q252
                          go_wp2_with (first | ((with_reducible refine gate_dst (N := 5) rfl ?_); (try (refine gate_guard (by rfl) ?_; dsimp only)); refine box_event ?hg (N := 5) ?hd (cs := #[.string (⟨#[]⟩ : ByteArray), .string (⟨#[]⟩ : ByteArray), .string (⟨#[]⟩ : ByteArray)]) (t := 118) ?hr ?_; (case hd => rfl); (case hg => rfl); (case hr => first | (go_simp; done) | (go_simp; rfl)); intro gb253 hg w62 hbox hb; have n0_ := Aside0.mk (blk_below (g := gb249) (o := .cells #[.string a0_0, .int .i64 a0_1, .slice A0_2 l0_2.length c0_2, .slice (some ad252) l0_3.length c0_3, .string a0_4] 59 (0, 0)) (by (with_reducible repeat (first | refine blk_drewN ?_ _ | refine blk_drew ?_ | refine blk_alloc ?_ _)); exact BK249.out) hb); have n1_ := Aside0.mk (below_step (by repeat (first | (with_reducible first | exact HB.out | apply below_alloc | apply pw_below_drewN | apply below_drew1 | refine below_set ?_ GE249.out) | exact HB.out)) hb); have n2_ := Aside0.mk (hbox); have n3_ := Aside0.mk ((by rw [hg]; exact (below_size (by repeat (first | (with_reducible first | exact HB.out | apply below_alloc | apply pw_below_drewN | apply below_drew1 | refine below_set ?_ GE249.out) | exact HB.out))) : w.heap.size ≤ gb253)); have n4_ := Aside0.mk ((by rw [hg]; exact (below_size (by repeat (first | (with_reducible first | exact HB.out | apply below_alloc | apply pw_below_drewN | apply below_drew1 | refine below_set ?_ GE249.out) | exact HB.out))) : w.heap.size ≤ gb253)); have n5_ := Aside0.mk ((by rw [hg]; exact Nat.ne_of_lt (blk_lt (g := gb249) (o := .cells #[.string a0_0, .int .i64 a0_1, .slice A0_2 l0_2.length c0_2, .slice (some ad252) l0_3.length c0_3, .string a0_4] 59 (0, 0)) (by (with_reducible repeat (first | refine blk_drewN ?_ _ | refine blk_drew ?_ | refine blk_alloc ?_ _)); exact BK249.out)) : gb249 ≠ gb253)); have n6_ := Aside0.mk ((by rw [hg]; exact Nat.ne_of_gt (blk_lt (g := gb249) (o := .cells #[.string a0_0, .int .i64 a0_1, .slice A0_2 l0_2.length c0_2, .slice (some ad252) l0_3.length c0_3, .string a0_4] 59 (0, 0)) (by (with_reducible repeat (first | refine blk_drewN ?_ _ | refine blk_drew ?_ | refine blk_alloc ?_ _)); exact BK249.out)) : gb253 ≠ gb249)); clear BK249; clear HB; have BK249 := n0_; have HB := n1_; have BK253 := n2_; have GW253 := n3_; have GE253 := n4_; have NB249_253 := n5_; have NB253_249 := n6_; clear n0_ n1_ n2_ n3_ n4_ n5_ n6_; clear hb hbox hg; have hnb63 := NB253_249.out; have hnc63 := NB249_253.out; have hcz64_0 : w62.cell? ⟨gb253, 0, none⟩ = some (.string (⟨#[]⟩ : ByteArray)) := (blk_cell BK253.out 0).trans rfl; have hcz64_1 : w62.cell? ⟨gb253, 1, none⟩ = some (.string (⟨#[]⟩ : ByteArray)) := (blk_cell BK253.out 1).trans rfl; have hcz64_2 : w62.cell? ⟨gb253, 2, none⟩ = some (.string (⟨#[]⟩ : ByteArray)) := (blk_cell BK253.out 2).trans rfl; have hfz64_0 := blk_frozen BK253.out 0; have hfz64_1 := blk_frozen BK253.out 1; have hfz64_2 := blk_frozen BK253.out 2) | (go_at_call 121; (with_reducible refine (query_name.calls ((rd_T118 l0_3 x69_2).f0) true _ A57.out).mono ?_); rintro e w65 ⟨rfl, hb⟩; have n0_ := Aside0.mk (blk_below (g := gb249) (o := .cells #[.string a0_0, .int .i64 a0_1, .slice A0_2 l0_2.length c0_2, .slice (some ad252) l0_3.length c0_3, .string a0_4] 59 (0, 0)) (by (with_reducible repeat (first | refine blk_drewN ?_ _ | refine blk_drew ?_ | refine blk_alloc ?_ _)); refine blk_far ?_ NB249_253.out _; (with_reducible repeat (first | refine blk_drewN ?_ _ | refine blk_drew ?_ | refine blk_alloc ?_ _)); refine blk_far ?_ NB249_253.out _; (with_reducible repeat (first | refine blk_drewN ?_ _ | refine blk_drew ?_ | refine blk_alloc ?_ _)); refine blk_far ?_ NB249_253.out _; (with_reducible repeat (first | refine blk_drewN ?_ _ | refine blk_drew ?_ | refine blk_alloc ?_ _)); exact BK249.out) hb); have n1_ := Aside0.mk (blk_below (g := gb253) (o := .cells #[.string ((rd_T118 l0_3 x69_2).f0), .string ((rd_T118 l0_3 x69_2).f1), .string ((rd_T118 l0_3 x69_2).f2)] 118 (0, 0)) (by (with_reducible repeat (first | refine blk_drewN ?_ _ | refine blk_drew ?_ | refine blk_alloc ?_ _)); refine blk_put (cs := #[.string ((rd_T118 l0_3 x69_2).f0), .string ((rd_T118 l0_3 x69_2).f1), .string (⟨#[]⟩ : ByteArray)]) ?_ 2 _ rfl; (with_reducible repeat (first | refine blk_drewN ?_ _ | refine blk_drew ?_ | refine blk_alloc ?_ _)); refine blk_put (cs := #[.string ((rd_T118 l0_3 x69_2).f0), .string (⟨#[]⟩ : ByteArray), .string (⟨#[]⟩ : ByteArray)]) ?_ 1 _ rfl; (with_reducible repeat (first | refine blk_drewN ?_ _ | refine blk_drew ?_ | refine blk_alloc ?_ _)); refine blk_put (cs := #[.string (⟨#[]⟩ : ByteArray), .string (⟨#[]⟩ : ByteArray), .string (⟨#[]⟩ : ByteArray)]) ?_ 0 _ rfl; (with_reducible repeat (first | refine blk_drewN ?_ _ | refine blk_drew ?_ | refine blk_alloc ?_ _)); exact BK253.out) hb); have n2_ := Aside0.mk (below_step (by repeat (first | (with_reducible first | exact HB.out | apply below_alloc | apply pw_below_drewN | apply below_drew1 | refine below_set ?_ GE249.out | refine below_set ?_ GE253.out) | exact HB.out)) hb); clear BK249; clear BK253; clear HB; have BK249 := n0_; have BK253 := n1_; have HB := n2_; clear n0_ n1_ n2_; (try clear hb); (try clear hb2); (try clear hk); (try clear hi); have hcz66_0 : w65.cell? ⟨gb253, 0, none⟩ = some (.string ((rd_T118 l0_3 x69_2).f0)) := (blk_cell BK253.out 0).trans rfl; have hcz66_1 : w65.cell? ⟨gb253, 1, none⟩ = some (.string ((rd_T118 l0_3 x69_2).f1)) := (blk_cell BK253.out 1).trans rfl; have hcz66_2 : w65.cell? ⟨gb253, 2, none⟩ = some (.string ((rd_T118 l0_3 x69_2).f2)) := (blk_cell BK253.out 2).trans rfl; have hfz66_0 := blk_frozen BK253.out 0; have hfz66_1 := blk_frozen BK253.out 1; have hfz66_2 := blk_frozen BK253.out 2) | (go_at_call 121; (with_reducible refine (query_name.calls ((rd_T118 l0_3 x69_2).f1) true _ A59.out).mono ?_); rintro e w67 ⟨rfl, hb⟩; have n0_ := Aside0.mk (blk_below (g := gb249) (o := .cells #[.string a0_0, .int .i64 a0_1, .slice A0_2 l0_2.length c0_2, .slice (some ad252) l0_3.length c0_3, .string a0_4] 59 (0, 0)) (by (with_reducible repeat (first | refine blk_drewN ?_ _ | refine blk_drew ?_ | refine blk_alloc ?_ _)); exact BK249.out) hb); have n1_ := Aside0.mk (blk_below (g := gb253) (o := .cells #[.string ((rd_T118 l0_3 x69_2).f0), .string ((rd_T118 l0_3 x69_2).f1), .string ((rd_T118 l0_3 x69_2).f2)] 118 (0, 0)) (by (with_reducible repeat (first | refine blk_drewN ?_ _ | refine blk_drew ?_ | refine blk_alloc ?_ _)); exact BK253.out) hb); have n2_ := Aside0.mk (below_step (by repeat (first | (with_reducible first | exact HB.out | apply below_alloc | apply pw_below_drewN | apply below_drew1 | refine below_set ?_ GE249.out | refine below_set ?_ GE253.out) | exact HB.out)) hb); clear BK249; clear BK253; clear HB; have BK249 := n0_; have BK253 := n1_; have HB := n2_; clear n0_ n1_ n2_; (try clear hb); (try clear hb2); (try clear hk); (try clear hi); have hcz68_0 : w67.cell? ⟨gb253, 0, none⟩ = some (.string ((rd_T118 l0_3 x69_2).f0)) := (blk_cell BK253.out 0).trans rfl; have hcz68_1 : w67.cell? ⟨gb253, 1, none⟩ = some (.string ((rd_T118 l0_3 x69_2).f1)) := (blk_cell BK253.out 1).trans rfl; have hcz68_2 : w67.cell? ⟨gb253, 2, none⟩ = some (.string ((rd_T118 l0_3 x69_2).f2)) := (blk_cell BK253.out 2).trans rfl; have hfz68_0 := blk_frozen BK253.out 0; have hfz68_1 := blk_frozen BK253.out 1; have hfz68_2 := blk_frozen BK253.out 2) | (go_at_call 121; (with_reducible refine (query_name.calls ((rd_T118 l0_3 x69_2).f2) t256 _ A61.out).mono ?_); rintro e w69 ⟨rfl, hb⟩; have n0_ := Aside0.mk (blk_below (g := gb249) (o := .cells #[.string a0_0, .int .i64 a0_1, .slice A0_2 l0_2.length c0_2, .slice (some ad252) l0_3.length c0_3, .string a0_4] 59 (0, 0)) (by (with_reducible repeat (first | refine blk_drewN ?_ _ | refine blk_drew ?_ | refine blk_alloc ?_ _)); exact BK249.out) hb); have n1_ := Aside0.mk (blk_below (g := gb253) (o := .cells #[.string ((rd_T118 l0_3 x69_2).f0), .string ((rd_T118 l0_3 x69_2).f1), .string ((rd_T118 l0_3 x69_2).f2)] 118 (0, 0)) (by (with_reducible repeat (first | refine blk_drewN ?_ _ | refine blk_drew ?_ | refine blk_alloc ?_ _)); exact BK253.out) hb); have n2_ := Aside0.mk (below_step (by repeat (first | (with_reducible first | exact HB.out | apply below_alloc | apply pw_below_drewN | apply below_drew1 | refine below_set ?_ GE249.out | refine below_set ?_ GE253.out) | exact HB.out)) hb); clear BK249; clear BK253; clear HB; have BK249 := n0_; have BK253 := n1_; have HB := n2_; clear n0_ n1_ n2_; (try clear hb); (try clear hb2); (try clear hk); (try clear hi)))
                          go_roundg k2
                          case measure => have := HJ36.out; have := HK2.out; omega
                          case rel => exact ⟨(t256), (wrap64 (x69_2 + 1)), (by first | rfl | (simp; done) | (simp [*]; done)), (by first | rfl | (simp; done) | (simp [*]; done)), H', ⟨by have := HJ36.out; have := HK2.out; omega⟩, ⟨by (with_reducible repeat (first | refine blk_drewN ?_ _ | refine blk_drew ?_ | refine blk_alloc ?_ _)); exact BK249.out⟩, ⟨by repeat (first | (with_reducible first | exact HB.out | apply below_alloc | apply pw_below_drewN | apply below_drew1 | refine below_set ?_ GE249.out | refine below_set ?_ GE253.out) | exact HB.out)⟩⟩
                        · replace c60 := Bool.eq_false_iff.mpr c60
                          subst c60
                          have H1 : (query_Check.l0 k2 false l0_3 (l0_3.length : Int) (wrap64 (x69_2 + 1)) a0_0 a0_1 l0_2 l0_3 a0_4) = some r := by rw [if_neg (show ¬ (false = true) by decide)] at H; exact H
                          clear H
                          have H := H1
                          clear H1
                          have H' := Aside0.mk H
                          clear H
                          have p252 : 0 ≤ (x69_2 : Int) := of_decide_eq_true (by first | (with_reducible assumption) | assumption)
                          have q252 : x69_2 < (l0_3.length : Int) := of_decide_eq_true (by first | (with_reducible assumption) | assumption)
                          obtain ⟨ad252, e252, hx252_0, hx252_1, hx252_2⟩ := at_T118 HR0_3.out x69_2 p252 q252
                          cases e252
                          replace hx252_0 := (HB.out.cell (World.block_lt_of_cell? w _ hx252_0)).trans hx252_0
                          replace hx252_1 := (HB.out.cell (World.block_lt_of_cell? w _ hx252_1)).trans hx252_1
                          replace hx252_2 := (HB.out.cell (World.block_lt_of_cell? w _ hx252_2)).trans hx252_2
                          replace p252 := eq_true p252
                          replace q252 := eq_true q252
                          go_wp2_with (first | ((with_reducible refine gate_dst (N := 5) rfl ?_); (try (refine gate_guard (by rfl) ?_; dsimp only)); refine box_event ?hg (N := 5) ?hd (cs := #[.string (⟨#[]⟩ : ByteArray), .string (⟨#[]⟩ : ByteArray), .string (⟨#[]⟩ : ByteArray)]) (t := 118) ?hr ?_; (case hd => rfl); (case hg => rfl); (case hr => first | (go_simp; done) | (go_simp; rfl)); intro gb253 hg w70 hbox hb; have n0_ := Aside0.mk (blk_below (g := gb249) (o := .cells #[.string a0_0, .int .i64 a0_1, .slice A0_2 l0_2.length c0_2, .slice (some ad252) l0_3.length c0_3, .string a0_4] 59 (0, 0)) (by (with_reducible repeat (first | refine blk_drewN ?_ _ | refine blk_drew ?_ | refine blk_alloc ?_ _)); exact BK249.out) hb); have n1_ := Aside0.mk (below_step (by repeat (first | (with_reducible first | exact HB.out | apply below_alloc | apply pw_below_drewN | apply below_drew1 | refine below_set ?_ GE249.out) | exact HB.out)) hb); have n2_ := Aside0.mk (hbox); have n3_ := Aside0.mk ((by rw [hg]; exact (below_size (by repeat (first | (with_reducible first | exact HB.out | apply below_alloc | apply pw_below_drewN | apply below_drew1 | refine below_set ?_ GE249.out) | exact HB.out))) : w.heap.size ≤ gb253)); have n4_ := Aside0.mk ((by rw [hg]; exact (below_size (by repeat (first | (with_reducible first | exact HB.out | apply below_alloc | apply pw_below_drewN | apply below_drew1 | refine below_set ?_ GE249.out) | exact HB.out))) : w.heap.size ≤ gb253)); have n5_ := Aside0.mk ((by rw [hg]; exact Nat.ne_of_lt (blk_lt (g := gb249) (o := .cells #[.string a0_0, .int .i64 a0_1, .slice A0_2 l0_2.length c0_2, .slice (some ad252) l0_3.length c0_3, .string a0_4] 59 (0, 0)) (by (with_reducible repeat (first | refine blk_drewN ?_ _ | refine blk_drew ?_ | refine blk_alloc ?_ _)); exact BK249.out)) : gb249 ≠ gb253)); have n6_ := Aside0.mk ((by rw [hg]; exact Nat.ne_of_gt (blk_lt (g := gb249) (o := .cells #[.string a0_0, .int .i64 a0_1, .slice A0_2 l0_2.length c0_2, .slice (some ad252) l0_3.length c0_3, .string a0_4] 59 (0, 0)) (by (with_reducible repeat (first | refine blk_drewN ?_ _ | refine blk_drew ?_ | refine blk_alloc ?_ _)); exact BK249.out)) : gb253 ≠ gb249)); clear BK249; clear HB; have BK249 := n0_; have HB := n1_; have BK253 := n2_; have GW253 := n3_; have GE253 := n4_; have NB249_253 := n5_; have NB253_249 := n6_; clear n0_ n1_ n2_ n3_ n4_ n5_ n6_; clear hb hbox hg; have hnb71 := NB253_249.out; have hnc71 := NB249_253.out; have hcz72_0 : w70.cell? ⟨gb253, 0, none⟩ = some (.string (⟨#[]⟩ : ByteArray)) := (blk_cell BK253.out 0).trans rfl; have hcz72_1 : w70.cell? ⟨gb253, 1, none⟩ = some (.string (⟨#[]⟩ : ByteArray)) := (blk_cell BK253.out 1).trans rfl; have hcz72_2 : w70.cell? ⟨gb253, 2, none⟩ = some (.string (⟨#[]⟩ : ByteArray)) := (blk_cell BK253.out 2).trans rfl; have hfz72_0 := blk_frozen BK253.out 0; have hfz72_1 := blk_frozen BK253.out 1; have hfz72_2 := blk_frozen BK253.out 2) | (go_at_call 121; (with_reducible refine (query_name.calls ((rd_T118 l0_3 x69_2).f0) true _ A57.out).mono ?_); rintro e w73 ⟨rfl, hb⟩; have n0_ := Aside0.mk (blk_below (g := gb249) (o := .cells #[.string a0_0, .int .i64 a0_1, .slice A0_2 l0_2.length c0_2, .slice (some ad252) l0_3.length c0_3, .string a0_4] 59 (0, 0)) (by (with_reducible repeat (first | refine blk_drewN ?_ _ | refine blk_drew ?_ | refine blk_alloc ?_ _)); refine blk_far ?_ NB249_253.out _; (with_reducible repeat (first | refine blk_drewN ?_ _ | refine blk_drew ?_ | refine blk_alloc ?_ _)); refine blk_far ?_ NB249_253.out _; (with_reducible repeat (first | refine blk_drewN ?_ _ | refine blk_drew ?_ | refine blk_alloc ?_ _)); refine blk_far ?_ NB249_253.out _; (with_reducible repeat (first | refine blk_drewN ?_ _ | refine blk_drew ?_ | refine blk_alloc ?_ _)); exact BK249.out) hb); have n1_ := Aside0.mk (blk_below (g := gb253) (o := .cells #[.string ((rd_T118 l0_3 x69_2).f0), .string ((rd_T118 l0_3 x69_2).f1), .string ((rd_T118 l0_3 x69_2).f2)] 118 (0, 0)) (by (with_reducible repeat (first | refine blk_drewN ?_ _ | refine blk_drew ?_ | refine blk_alloc ?_ _)); refine blk_put (cs := #[.string ((rd_T118 l0_3 x69_2).f0), .string ((rd_T118 l0_3 x69_2).f1), .string (⟨#[]⟩ : ByteArray)]) ?_ 2 _ rfl; (with_reducible repeat (first | refine blk_drewN ?_ _ | refine blk_drew ?_ | refine blk_alloc ?_ _)); refine blk_put (cs := #[.string ((rd_T118 l0_3 x69_2).f0), .string (⟨#[]⟩ : ByteArray), .string (⟨#[]⟩ : ByteArray)]) ?_ 1 _ rfl; (with_reducible repeat (first | refine blk_drewN ?_ _ | refine blk_drew ?_ | refine blk_alloc ?_ _)); refine blk_put (cs := #[.string (⟨#[]⟩ : ByteArray), .string (⟨#[]⟩ : ByteArray), .string (⟨#[]⟩ : ByteArray)]) ?_ 0 _ rfl; (with_reducible repeat (first | refine blk_drewN ?_ _ | refine blk_drew ?_ | refine blk_alloc ?_ _)); exact BK253.out) hb); have n2_ := Aside0.mk (below_step (by repeat (first | (with_reducible first | exact HB.out | apply below_alloc | apply pw_below_drewN | apply below_drew1 | refine below_set ?_ GE249.out | refine below_set ?_ GE253.out) | exact HB.out)) hb); clear BK249; clear BK253; clear HB; have BK249 := n0_; have BK253 := n1_; have HB := n2_; clear n0_ n1_ n2_; (try clear hb); (try clear hb2); (try clear hk); (try clear hi); have hcz74_0 : w73.cell? ⟨gb253, 0, none⟩ = some (.string ((rd_T118 l0_3 x69_2).f0)) := (blk_cell BK253.out 0).trans rfl; have hcz74_1 : w73.cell? ⟨gb253, 1, none⟩ = some (.string ((rd_T118 l0_3 x69_2).f1)) := (blk_cell BK253.out 1).trans rfl; have hcz74_2 : w73.cell? ⟨gb253, 2, none⟩ = some (.string ((rd_T118 l0_3 x69_2).f2)) := (blk_cell BK253.out 2).trans rfl; have hfz74_0 := blk_frozen BK253.out 0; have hfz74_1 := blk_frozen BK253.out 1; have hfz74_2 := blk_frozen BK253.out 2) | (go_at_call 121; (with_reducible refine (query_name.calls ((rd_T118 l0_3 x69_2).f1) false _ A59.out).mono ?_); rintro e w75 ⟨rfl, hb⟩; have n0_ := Aside0.mk (blk_below (g := gb249) (o := .cells #[.string a0_0, .int .i64 a0_1, .slice A0_2 l0_2.length c0_2, .slice (some ad252) l0_3.length c0_3, .string a0_4] 59 (0, 0)) (by (with_reducible repeat (first | refine blk_drewN ?_ _ | refine blk_drew ?_ | refine blk_alloc ?_ _)); exact BK249.out) hb); have n1_ := Aside0.mk (blk_below (g := gb253) (o := .cells #[.string ((rd_T118 l0_3 x69_2).f0), .string ((rd_T118 l0_3 x69_2).f1), .string ((rd_T118 l0_3 x69_2).f2)] 118 (0, 0)) (by (with_reducible repeat (first | refine blk_drewN ?_ _ | refine blk_drew ?_ | refine blk_alloc ?_ _)); exact BK253.out) hb); have n2_ := Aside0.mk (below_step (by repeat (first | (with_reducible first | exact HB.out | apply below_alloc | apply pw_below_drewN | apply below_drew1 | refine below_set ?_ GE249.out | refine below_set ?_ GE253.out) | exact HB.out)) hb); clear BK249; clear BK253; clear HB; have BK249 := n0_; have BK253 := n1_; have HB := n2_; clear n0_ n1_ n2_; (try clear hb); (try clear hb2); (try clear hk); (try clear hi)))
                          go_roundg k2
                          case measure => have := HJ36.out; have := HK2.out; omega
                          case rel => exact ⟨(false), (wrap64 (x69_2 + 1)), (by first | rfl | (simp; done) | (simp [*]; done)), (by first | rfl | (simp; done) | (simp [*]; done)), H', ⟨by have := HJ36.out; have := HK2.out; omega⟩, ⟨by (with_reducible repeat (first | refine blk_drewN ?_ _ | refine blk_drew ?_ | refine blk_alloc ?_ _)); exact BK249.out⟩, ⟨by repeat (first | (with_reducible first | exact HB.out | apply below_alloc | apply pw_below_drewN | apply below_drew1 | refine below_set ?_ GE249.out | refine below_set ?_ GE253.out) | exact HB.out)⟩⟩
                      · replace c58 := Bool.eq_false_iff.mpr c58
                        subst c58
                        have H1 : (query_Check.l0 k2 false l0_3 (l0_3.length : Int) (wrap64 (x69_2 + 1)) a0_0 a0_1 l0_2 l0_3 a0_4) = some r := by rw [if_neg (show ¬ (false = true) by decide)] at H; exact H
                        clear H
                        have H := H1
                        clear H1
                        have H' := Aside0.mk H
                        clear H
                        have p252 : 0 ≤ (x69_2 : Int) := of_decide_eq_true (by first | (with_reducible assumption) | assumption)
                        have q252 : x69_2 < (l0_3.length : Int) := of_decide_eq_true (by first | (with_reducible assumption) | assumption)
                        obtain ⟨ad252, e252, hx252_0, hx252_1, hx252_2⟩ := at_T118 HR0_3.out x69_2 p252 q252
                        cases e252
                        replace hx252_0 := (HB.out.cell (World.block_lt_of_cell? w _ hx252_0)).trans hx252_0
                        replace hx252_1 := (HB.out.cell (World.block_lt_of_cell? w _ hx252_1)).trans hx252_1
                        replace hx252_2 := (HB.out.cell (World.block_lt_of_cell? w _ hx252_2)).trans hx252_2
                        replace p252 := eq_true p252
                        replace q252 := eq_true q252
                        go_wp2_with (first | ((with_reducible refine gate_dst (N := 5) rfl ?_); (try (refine gate_guard (by rfl) ?_; dsimp only)); refine box_event ?hg (N := 5) ?hd (cs := #[.string (⟨#[]⟩ : ByteArray), .string (⟨#[]⟩ : ByteArray), .string (⟨#[]⟩ : ByteArray)]) (t := 118) ?hr ?_; (case hd => rfl); (case hg => rfl); (case hr => first | (go_simp; done) | (go_simp; rfl)); intro gb253 hg w76 hbox hb; have n0_ := Aside0.mk (blk_below (g := gb249) (o := .cells #[.string a0_0, .int .i64 a0_1, .slice A0_2 l0_2.length c0_2, .slice (some ad252) l0_3.length c0_3, .string a0_4] 59 (0, 0)) (by (with_reducible repeat (first | refine blk_drewN ?_ _ | refine blk_drew ?_ | refine blk_alloc ?_ _)); exact BK249.out) hb); have n1_ := Aside0.mk (below_step (by repeat (first | (with_reducible first | exact HB.out | apply below_alloc | apply pw_below_drewN | apply below_drew1 | refine below_set ?_ GE249.out) | exact HB.out)) hb); have n2_ := Aside0.mk (hbox); have n3_ := Aside0.mk ((by rw [hg]; exact (below_size (by repeat (first | (with_reducible first | exact HB.out | apply below_alloc | apply pw_below_drewN | apply below_drew1 | refine below_set ?_ GE249.out) | exact HB.out))) : w.heap.size ≤ gb253)); have n4_ := Aside0.mk ((by rw [hg]; exact (below_size (by repeat (first | (with_reducible first | exact HB.out | apply below_alloc | apply pw_below_drewN | apply below_drew1 | refine below_set ?_ GE249.out) | exact HB.out))) : w.heap.size ≤ gb253)); have n5_ := Aside0.mk ((by rw [hg]; exact Nat.ne_of_lt (blk_lt (g := gb249) (o := .cells #[.string a0_0, .int .i64 a0_1, .slice A0_2 l0_2.length c0_2, .slice (some ad252) l0_3.length c0_3, .string a0_4] 59 (0, 0)) (by (with_reducible repeat (first | refine blk_drewN ?_ _ | refine blk_drew ?_ | refine blk_alloc ?_ _)); exact BK249.out)) : gb249 ≠ gb253)); have n6_ := Aside0.mk ((by rw [hg]; exact Nat.ne_of_gt (blk_lt (g := gb249) (o := .cells #[.string a0_0, .int .i64 a0_1, .slice A0_2 l0_2.length c0_2, .slice (some ad252) l0_3.length c0_3, .string a0_4] 59 (0, 0)) (by (with_reducible repeat (first | refine blk_drewN ?_ _ | refine blk_drew ?_ | refine blk_alloc ?_ _)); exact BK249.out)) : gb253 ≠ gb249)); clear BK249; clear HB; have BK249 := n0_; have HB := n1_; have BK253 := n2_; have GW253 := n3_; have GE253 := n4_; have NB249_253 := n5_; have NB253_249 := n6_; clear n0_ n1_ n2_ n3_ n4_ n5_ n6_; clear hb hbox hg; have hnb77 := NB253_249.out; have hnc77 := NB249_253.out; have hcz78_0 : w76.cell? ⟨gb253, 0, none⟩ = some (.string (⟨#[]⟩ : ByteArray)) := (blk_cell BK253.out 0).trans rfl; have hcz78_1 : w76.cell? ⟨gb253, 1, none⟩ = some (.string (⟨#[]⟩ : ByteArray)) := (blk_cell BK253.out 1).trans rfl; have hcz78_2 : w76.cell? ⟨gb253, 2, none⟩ = some (.string (⟨#[]⟩ : ByteArray)) := (blk_cell BK253.out 2).trans rfl; have hfz78_0 := blk_frozen BK253.out 0; have hfz78_1 := blk_frozen BK253.out 1; have hfz78_2 := blk_frozen BK253.out 2) | (go_at_call 121; (with_reducible refine (query_name.calls ((rd_T118 l0_3 x69_2).f0) false _ A57.out).mono ?_); rintro e w79 ⟨rfl, hb⟩; have n0_ := Aside0.mk (blk_below (g := gb249) (o := .cells #[.string a0_0, .int .i64 a0_1, .slice A0_2 l0_2.length c0_2, .slice (some ad252) l0_3.length c0_3, .string a0_4] 59 (0, 0)) (by (with_reducible repeat (first | refine blk_drewN ?_ _ | refine blk_drew ?_ | refine blk_alloc ?_ _)); refine blk_far ?_ NB249_253.out _; (with_reducible repeat (first | refine blk_drewN ?_ _ | refine blk_drew ?_ | refine blk_alloc ?_ _)); refine blk_far ?_ NB249_253.out _; (with_reducible repeat (first | refine blk_drewN ?_ _ | refine blk_drew ?_ | refine blk_alloc ?_ _)); refine blk_far ?_ NB249_253.out _; (with_reducible repeat (first | refine blk_drewN ?_ _ | refine blk_drew ?_ | refine blk_alloc ?_ _)); exact BK249.out) hb); have n1_ := Aside0.mk (blk_below (g := gb253) (o := .cells #[.string ((rd_T118 l0_3 x69_2).f0), .string ((rd_T118 l0_3 x69_2).f1), .string ((rd_T118 l0_3 x69_2).f2)] 118 (0, 0)) (by (with_reducible repeat (first | refine blk_drewN ?_ _ | refine blk_drew ?_ | refine blk_alloc ?_ _)); refine blk_put (cs := #[.string ((rd_T118 l0_3 x69_2).f0), .string ((rd_T118 l0_3 x69_2).f1), .string (⟨#[]⟩ : ByteArray)]) ?_ 2 _ rfl; (with_reducible repeat (first | refine blk_drewN ?_ _ | refine blk_drew ?_ | refine blk_alloc ?_ _)); refine blk_put (cs := #[.string ((rd_T118 l0_3 x69_2).f0), .string (⟨#[]⟩ : ByteArray), .string (⟨#[]⟩ : ByteArray)]) ?_ 1 _ rfl; (with_reducible repeat (first | refine blk_drewN ?_ _ | refine blk_drew ?_ | refine blk_alloc ?_ _)); refine blk_put (cs := #[.string (⟨#[]⟩ : ByteArray), .string (⟨#[]⟩ : ByteArray), .string (⟨#[]⟩ : ByteArray)]) ?_ 0 _ rfl; (with_reducible repeat (first | refine blk_drewN ?_ _ | refine blk_drew ?_ | refine blk_alloc ?_ _)); exact BK253.out) hb); have n2_ := Aside0.mk (below_step (by repeat (first | (with_reducible first | exact HB.out | apply below_alloc | apply pw_below_drewN | apply below_drew1 | refine below_set ?_ GE249.out | refine below_set ?_ GE253.out) | exact HB.out)) hb); clear BK249; clear BK253; clear HB; have BK249 := n0_; have BK253 := n1_; have HB := n2_; clear n0_ n1_ n2_; (try clear hb); (try clear hb2); (try clear hk); (try clear hi)))
                        go_roundg k2
                        case measure => have := HJ36.out; have := HK2.out; omega
                        case rel => exact ⟨(false), (wrap64 (x69_2 + 1)), (by first | rfl | (simp; done) | (simp [*]; done)), (by first | rfl | (simp; done) | (simp [*]; done)), H', ⟨by have := HJ36.out; have := HK2.out; omega⟩, ⟨by (with_reducible repeat (first | refine blk_drewN ?_ _ | refine blk_drew ?_ | refine blk_alloc ?_ _)); exact BK249.out⟩, ⟨by repeat (first | (with_reducible first | exact HB.out | apply below_alloc | apply pw_below_drewN | apply below_drew1 | refine below_set ?_ GE249.out | refine below_set ?_ GE253.out) | exact HB.out)⟩⟩
                    · replace c56 := Bool.eq_false_iff.mpr c56
                      subst c56
                      have H1 : (query_Check.l0 k2 false l0_3 (l0_3.length : Int) (wrap64 (x69_2 + 1)) a0_0 a0_1 l0_2 l0_3 a0_4) = some r := by rw [if_neg (show ¬ (false = true) by decide)] at H; exact H
                      clear H
                      have H := H1
                      clear H1
                      have H' := Aside0.mk H
                      clear H
                      have p252 : 0 ≤ (x69_2 : Int) := of_decide_eq_true (by first | (with_reducible assumption) | assumption)
                      have q252 : x69_2 < (l0_3.length : Int) := of_decide_eq_true (by first | (with_reducible assumption) | assumption)
                      obtain ⟨ad252, e252, hx252_0, hx252_1, hx252_2⟩ := at_T118 HR0_3.out x69_2 p252 q252
                      cases e252
                      replace hx252_0 := (HB.out.cell (World.block_lt_of_cell? w _ hx252_0)).trans hx252_0
                      replace hx252_1 := (HB.out.cell (World.block_lt_of_cell? w _ hx252_1)).trans hx252_1
                      replace hx252_2 := (HB.out.cell (World.block_lt_of_cell? w _ hx252_2)).trans hx252_2
                      replace p252 := eq_true p252
                      replace q252 := eq_true q252
                      go_wp2_with (first | ((with_reducible refine gate_dst (N := 5) rfl ?_); (try (refine gate_guard (by rfl) ?_; dsimp only)); refine box_event ?hg (N := 5) ?hd (cs := #[.string (⟨#[]⟩ : ByteArray), .string (⟨#[]⟩ : ByteArray), .string (⟨#[]⟩ : ByteArray)]) (t := 118) ?hr ?_; (case hd => rfl); (case hg => rfl); (case hr => first | (go_simp; done) | (go_simp; rfl)); intro gb253 hg w80 hbox hb; have n0_ := Aside0.mk (blk_below (g := gb249) (o := .cells #[.string a0_0, .int .i64 a0_1, .slice A0_2 l0_2.length c0_2, .slice (some ad252) l0_3.length c0_3, .string a0_4] 59 (0, 0)) (by (with_reducible repeat (first | refine blk_drewN ?_ _ | refine blk_drew ?_ | refine blk_alloc ?_ _)); exact BK249.out) hb); have n1_ := Aside0.mk (below_step (by repeat (first | (with_reducible first | exact HB.out | apply below_alloc | apply pw_below_drewN | apply below_drew1 | refine below_set ?_ GE249.out) | exact HB.out)) hb); have n2_ := Aside0.mk (hbox); have n3_ := Aside0.mk ((by rw [hg]; exact (below_size (by repeat (first | (with_reducible first | exact HB.out | apply below_alloc | apply pw_below_drewN | apply below_drew1 | refine below_set ?_ GE249.out) | exact HB.out))) : w.heap.size ≤ gb253)); have n4_ := Aside0.mk ((by rw [hg]; exact (below_size (by repeat (first | (with_reducible first | exact HB.out | apply below_alloc | apply pw_below_drewN | apply below_drew1 | refine below_set ?_ GE249.out) | exact HB.out))) : w.heap.size ≤ gb253)); have n5_ := Aside0.mk ((by rw [hg]; exact Nat.ne_of_lt (blk_lt (g := gb249) (o := .cells #[.string a0_0, .int .i64 a0_1, .slice A0_2 l0_2.length c0_2, .slice (some ad252) l0_3.length c0_3, .string a0_4] 59 (0, 0)) (by (with_reducible repeat (first | refine blk_drewN ?_ _ | refine blk_drew ?_ | refine blk_alloc ?_ _)); exact BK249.out)) : gb249 ≠ gb253)); have n6_ := Aside0.mk ((by rw [hg]; exact Nat.ne_of_gt (blk_lt (g := gb249) (o := .cells #[.string a0_0, .int .i64 a0_1, .slice A0_2 l0_2.length c0_2, .slice (some ad252) l0_3.length c0_3, .string a0_4] 59 (0, 0)) (by (with_reducible repeat (first | refine blk_drewN ?_ _ | refine blk_drew ?_ | refine blk_alloc ?_ _)); exact BK249.out)) : gb253 ≠ gb249)); clear BK249; clear HB; have BK249 := n0_; have HB := n1_; have BK253 := n2_; have GW253 := n3_; have GE253 := n4_; have NB249_253 := n5_; have NB253_249 := n6_; clear n0_ n1_ n2_ n3_ n4_ n5_ n6_; clear hb hbox hg; have hnb81 := NB253_249.out; have hnc81 := NB249_253.out; have hcz82_0 : w80.cell? ⟨gb253, 0, none⟩ = some (.string (⟨#[]⟩ : ByteArray)) := (blk_cell BK253.out 0).trans rfl; have hcz82_1 : w80.cell? ⟨gb253, 1, none⟩ = some (.string (⟨#[]⟩ : ByteArray)) := (blk_cell BK253.out 1).trans rfl; have hcz82_2 : w80.cell? ⟨gb253, 2, none⟩ = some (.string (⟨#[]⟩ : ByteArray)) := (blk_cell BK253.out 2).trans rfl; have hfz82_0 := blk_frozen BK253.out 0; have hfz82_1 := blk_frozen BK253.out 1; have hfz82_2 := blk_frozen BK253.out 2))
                      go_roundg k2
                      case measure => have := HJ36.out; have := HK2.out; omega
                      case rel => exact ⟨(false), (wrap64 (x69_2 + 1)), (by first | rfl | (simp; done) | (simp [*]; done)), (by first | rfl | (simp; done) | (simp [*]; done)), H', ⟨by have := HJ36.out; have := HK2.out; omega⟩, ⟨by (with_reducible repeat (first | refine blk_drewN ?_ _ | refine blk_drew ?_ | refine blk_alloc ?_ _)); refine blk_far ?_ NB249_253.out _; (with_reducible repeat (first | refine blk_drewN ?_ _ | refine blk_drew ?_ | refine blk_alloc ?_ _)); refine blk_far ?_ NB249_253.out _; (with_reducible repeat (first | refine blk_drewN ?_ _ | refine blk_drew ?_ | refine blk_alloc ?_ _)); refine blk_far ?_ NB249_253.out _; (with_reducible repeat (first | refine blk_drewN ?_ _ | refine blk_drew ?_ | refine blk_alloc ?_ _)); exact BK249.out⟩, ⟨by repeat (first | (with_reducible first | exact HB.out | apply below_alloc | apply pw_below_drewN | apply below_drew1 | refine below_set ?_ GE249.out | refine below_set ?_ GE253.out) | exact HB.out)⟩⟩
                  · rw [if_neg c55] at H
                    exact absurd H (by simp)
                · rw [if_neg c54] at H
                  exact absurd H (by simp)
              · rw [if_neg c53] at H
                have c53b0 : decide (x69_2 < (l0_3.length : Int)) = false := decide_eq_false c53
                clear c53
                by_cases c83 : x3_2 = true
                · subst c83
                  have H1 : ((query_Vars.f k2 a0_0 a0_1 l0_2 l0_3 a0_4).bind fun t257 => (query_Check.l1 k2 true t257 l0_2 (l0_2.length : Int) 0 a0_0 a0_1 l0_2 l0_3 a0_4)) = some r := by rw [if_pos rfl] at H; exact H
                  clear H
                  have H := H1
                  clear H1
                  replace H := Option.bind_eq_some_iff.mp H
                  obtain ⟨t257, A840, H⟩ := H
                  replace H : (query_Check.l1 k2 true t257 l0_2 (l0_2.length : Int) 0 a0_0 a0_1 l0_2 l0_3 a0_4) = some r := H
                  have A84 := Aside0.mk A840
                  clear A840
                  have H' := Aside0.mk H
                  clear H
                  have hcz85_0 : wr.cell? ⟨gb249, 0, none⟩ = some (.string a0_0) := (blk_cell BK249.out 0).trans rfl
                  have hcz85_1 : wr.cell? ⟨gb249, 1, none⟩ = some (.int .i64 a0_1) := (blk_cell BK249.out 1).trans rfl
                  have hcz85_2 : wr.cell? ⟨gb249, 2, none⟩ = some (.slice A0_2 l0_2.length c0_2) := (blk_cell BK249.out 2).trans rfl
                  have hcz85_3 : wr.cell? ⟨gb249, 3, none⟩ = some (.slice A0_3 l0_3.length c0_3) := (blk_cell BK249.out 3).trans rfl
                  have hcz85_4 : wr.cell? ⟨gb249, 4, none⟩ = some (.string a0_4) := (blk_cell BK249.out 4).trans rfl
                  have hfz85_0 := blk_frozen BK249.out 0
                  have hfz85_1 := blk_frozen BK249.out 1
                  have hfz85_2 := blk_frozen BK249.out 2
                  have hfz85_3 := blk_frozen BK249.out 3
                  have hfz85_4 := blk_frozen BK249.out 4
                  go_wp2_with (first | ((with_reducible refine gate_callee (f := 62) rfl ?_); refine goesL_ (some 93) rfl rfl Try.func62 (by kernel_rfl) rfl #[.agg #[.string a0_0, .int .i64 a0_1, .slice A0_2 l0_2.length c0_2, .slice A0_3 l0_3.length c0_3, .string a0_4]] rfl (by (try simp only [List.map_toArray, List.map_cons, List.map_nil]); first | done | rfl | (simp only [List.length_drop, List.length_take]; rfl)) ?_; (with_reducible refine (query_Vars.calls k2 a0_0 a0_1 _ _ l0_2 _ _ l0_3 a0_4 t257 _ ?side1 ?side2 ?side3 ?side4 A84.out).mono ?_); (case side1 => repeat (first | exact (Kd.C_below HR0_2.out HB.out) | (with_reducible refine Kd.C_alloc ?_ _) | (with_reducible refine Kd.C_drewN ?_ _) | (with_reducible refine Kd.C_drew ?_))); (case side2 => exact HC0_2.out); (case side3 => repeat (first | exact (Kd.C_below HR0_3.out HB.out) | (with_reducible refine Kd.C_alloc ?_ _) | (with_reducible refine Kd.C_drewN ?_ _) | (with_reducible refine Kd.C_drew ?_))); (case side4 => exact HC0_3.out); rintro e w86 ⟨v258, rfl, ho0, hb⟩; refine ⟨_, rfl, ?_⟩; have n0_ := Aside0.mk (Kd.R_lower ho0 (below_size (by repeat (first | (with_reducible first | exact HB.out | apply below_alloc | apply pw_below_drewN | apply below_drew1 | refine below_set ?_ GE249.out) | exact HB.out)))); have n1_ := Aside0.mk (blk_below (g := gb249) (o := .cells #[.string a0_0, .int .i64 a0_1, .slice A0_2 l0_2.length c0_2, .slice A0_3 l0_3.length c0_3, .string a0_4] 59 (0, 0)) (by (with_reducible repeat (first | refine blk_drewN ?_ _ | refine blk_drew ?_ | refine blk_alloc ?_ _)); exact BK249.out) hb); have n2_ := Aside0.mk (below_step (by repeat (first | (with_reducible first | exact HB.out | apply below_alloc | apply pw_below_drewN | apply below_drew1 | refine below_set ?_ GE249.out) | exact HB.out)) hb); clear BK249; clear HB; have HO259 := n0_; have BK249 := n1_; have HB := n2_; clear n0_ n1_ n2_; (try clear hb); (try clear hb2); (try clear hk); (try clear hi); (try clear ho0); have hcz87_0 : w86.cell? ⟨gb249, 0, none⟩ = some (.string a0_0) := (blk_cell BK249.out 0).trans rfl; have hcz87_1 : w86.cell? ⟨gb249, 1, none⟩ = some (.int .i64 a0_1) := (blk_cell BK249.out 1).trans rfl; have hcz87_2 : w86.cell? ⟨gb249, 2, none⟩ = some (.slice A0_2 l0_2.length c0_2) := (blk_cell BK249.out 2).trans rfl; have hcz87_3 : w86.cell? ⟨gb249, 3, none⟩ = some (.slice A0_3 l0_3.length c0_3) := (blk_cell BK249.out 3).trans rfl; have hcz87_4 : w86.cell? ⟨gb249, 4, none⟩ = some (.string a0_4) := (blk_cell BK249.out 4).trans rfl; have hfz87_0 := blk_frozen BK249.out 0; have hfz87_1 := blk_frozen BK249.out 1; have hfz87_2 := blk_frozen BK249.out 2; have hfz87_3 := blk_frozen BK249.out 3; have hfz87_4 := blk_frozen BK249.out 4))
                  go_loopg [3, 97] k2 (fun kq v3 v97 w' => ∃ (x3_3 : Bool) (x97_3 : Int), v3 = .bool x3_3 ∧ v97 = .int .i64 x97_3 ∧ Aside0 (query_Check.l1 kq x3_3 t257 l0_2 (l0_2.length : Int) x97_3 a0_0 a0_1 l0_2 l0_3 a0_4 = some r) ∧ Aside0 (kq ≤ k2) ∧ Aside0 (Kd.R Kd.string 9 w' w.heap.size (fun _ => True) v258 t257) ∧ Aside0 (w'.heap[gb249]? = some (.cells #[.string a0_0, .int .i64 a0_1, (.slice A0_2 l0_2.length c0_2), (.slice A0_3 l0_3.length c0_3), .string a0_4] 59 (0, 0))) ∧ Aside0 (Below w.heap.size w w'))
                  case atStart => exact ⟨(true), (0), (by first | rfl | (simp; done) | (simp [*]; done)), (by first | rfl | (simp; done) | (simp [*]; done)), H', ⟨Nat.le_refl _⟩, ⟨by (with_reducible repeat (first | apply Kd.R_alloc | apply Kd.R_drewN | apply Kd.R_drew)); exact HO259.out⟩, ⟨by (with_reducible repeat (first | refine blk_drewN ?_ _ | refine blk_drew ?_ | refine blk_alloc ?_ _)); exact BK249.out⟩, ⟨by repeat (first | (with_reducible first | exact HB.out | apply below_alloc | apply pw_below_drewN | apply below_drew1 | refine below_set ?_ GE249.out) | exact HB.out)⟩⟩
                  case round =>
                    clear H'
                    try clear c1
                    try clear p2
                    try clear q2
                    try clear hx2
                    try clear c3
                    try clear c3b0
                    try clear c3b1
                    try clear c4
                    try clear c5
                    try clear c6
                    try clear p6
                    try clear c7
                    try clear c7b0
                    try clear c7b1
                    try clear c7b2
                    try clear c8
                    try clear c8b0
                    try clear c8b1
                    try clear c8b2
                    try clear c9
                    try clear c12
                    try clear p25
                    try clear q25
                    try clear hx25
                    try clear c36
                    try clear c36b0
                    try clear c36b1
                    try clear c42
                    try clear c43
                    try clear c43b0
                    try clear c43b1
                    try clear c44
                    try clear c44b0
                    try clear c44b1
                    try clear c45
                    try clear c45b0
                    try clear c45b1
                    try clear c46
                    try clear c46b0
                    try clear c46b1
                    try clear c53
                    try clear c53b0
                    try clear c54
                    try clear c54b0
                    try clear c55
                    try clear c55b0
                    try clear c56
                    try clear c58
                    try clear c60
                    try clear c62
                    try clear c63
                    try clear p64
                    try clear c71
                    try clear c77
                    try clear c81
                    try clear c83
                    try clear hcz10_0
                    try clear hcz10_1
                    try clear hcz10_2
                    try clear hcz10_3
                    try clear hcz10_4
                    try clear hcz12_0
                    try clear hcz12_1
                    try clear hcz12_2
                    try clear hcz12_3
                    try clear hcz12_4
                    try clear hcz14_0
                    try clear hcz14_1
                    try clear hcz14_2
                    try clear hcz14_3
                    try clear hcz14_4
                    try clear hcz16_0
                    try clear hcz16_1
                    try clear hcz16_2
                    try clear hcz16_3
                    try clear hcz16_4
                    try clear hcz18_0
                    try clear hcz18_1
                    try clear hcz18_2
                    try clear hcz18_3
                    try clear hcz18_4
                    try clear hcz20_0
                    try clear hcz20_1
                    try clear hcz20_2
                    try clear hcz20_3
                    try clear hcz20_4
                    try clear hcz22_0
                    try clear hcz22_1
                    try clear hcz22_2
                    try clear hcz22_3
                    try clear hcz22_4
                    try clear hcz24_0
                    try clear hcz24_1
                    try clear hcz24_2
                    try clear hcz24_3
                    try clear hcz24_4
                    try clear hcz26_0
                    try clear hcz26_1
                    try clear hcz26_2
                    try clear hcz26_3
                    try clear hcz26_4
                    try clear hcz28_0
                    try clear hcz28_1
                    try clear hcz28_2
                    try clear hcz28_3
                    try clear hcz28_4
                    try clear hcz30_0
                    try clear hcz30_1
                    try clear hcz30_2
                    try clear hcz30_3
                    try clear hcz30_4
                    try clear hcz33_0
                    try clear hcz33_1
                    try clear hcz33_2
                    try clear hcz33_3
                    try clear hcz33_4
                    try clear hcz35_0
                    try clear hcz35_1
                    try clear hcz35_2
                    try clear hcz35_3
                    try clear hcz35_4
                    try clear hcz39_0
                    try clear hcz39_1
                    try clear hcz39_2
                    try clear hcz39_3
                    try clear hcz39_4
                    try clear hcz41_0
                    try clear hcz41_1
                    try clear hcz41_2
                    try clear hcz41_3
                    try clear hcz41_4
                    try clear hcz47_0
                    try clear hcz47_1
                    try clear hcz47_2
                    try clear hcz47_3
                    try clear hcz47_4
                    try clear hcz48_0
                    try clear hcz48_1
                    try clear hcz48_2
                    try clear hcz48_3
                    try clear hcz48_4
                    try clear hcz49_0
                    try clear hcz49_1
                    try clear hcz49_2
                    try clear hcz49_3
                    try clear hcz49_4
                    try clear hcz50_0
                    try clear hcz50_1
                    try clear hcz50_2
                    try clear hcz50_3
                    try clear hcz50_4
                    try clear hcz51_0
                    try clear hcz51_1
                    try clear hcz51_2
                    try clear hcz51_3
                    try clear hcz51_4
                    try clear hcz52_0
                    try clear hcz52_1
                    try clear hcz52_2
                    try clear hcz52_3
                    try clear hcz52_4
                    try clear hcz64_0
                    try clear hcz64_1
                    try clear hcz64_2
                    try clear hcz66_0
                    try clear hcz66_1
                    try clear hcz66_2
                    try clear hcz68_0
                    try clear hcz68_1
                    try clear hcz68_2
                    try clear hcz72_0
                    try clear hcz72_1
                    try clear hcz72_2
                    try clear hcz74_0
                    try clear hcz74_1
                    try clear hcz74_2
                    try clear hcz78_0
                    try clear hcz78_1
                    try clear hcz78_2
                    try clear hcz82_0
                    try clear hcz82_1
                    try clear hcz82_2
                    try clear hcz85_0
                    try clear hcz85_1
                    try clear hcz85_2
                    try clear hcz85_3
                    try clear hcz85_4
                    try clear hcz87_0
                    try clear hcz87_1
                    try clear hcz87_2
                    try clear hcz87_3
                    try clear hcz87_4
                    try clear hfz10_0
                    try clear hfz10_1
                    try clear hfz10_2
                    try clear hfz10_3
                    try clear hfz10_4
                    try clear hfz12_0
                    try clear hfz12_1
                    try clear hfz12_2
                    try clear hfz12_3
                    try clear hfz12_4
                    try clear hfz14_0
                    try clear hfz14_1
                    try clear hfz14_2
                    try clear hfz14_3
                    try clear hfz14_4
                    try clear hfz16_0
                    try clear hfz16_1
                    try clear hfz16_2
                    try clear hfz16_3
                    try clear hfz16_4
                    try clear hfz18_0
                    try clear hfz18_1
                    try clear hfz18_2
                    try clear hfz18_3
                    try clear hfz18_4
                    try clear hfz20_0
                    try clear hfz20_1
                    try clear hfz20_2
                    try clear hfz20_3
                    try clear hfz20_4
                    try clear hfz22_0
                    try clear hfz22_1
                    try clear hfz22_2
                    try clear hfz22_3
                    try clear hfz22_4
                    try clear hfz24_0
                    try clear hfz24_1
                    try clear hfz24_2
                    try clear hfz24_3
                    try clear hfz24_4
                    try clear hfz26_0
                    try clear hfz26_1
                    try clear hfz26_2
                    try clear hfz26_3
                    try clear hfz26_4
                    try clear hfz28_0
                    try clear hfz28_1
                    try clear hfz28_2
                    try clear hfz28_3
                    try clear hfz28_4
                    try clear hfz30_0
                    try clear hfz30_1
                    try clear hfz30_2
                    try clear hfz30_3
                    try clear hfz30_4
                    try clear hfz33_0
                    try clear hfz33_1
                    try clear hfz33_2
                    try clear hfz33_3
                    try clear hfz33_4
                    try clear hfz35_0
                    try clear hfz35_1
                    try clear hfz35_2
                    try clear hfz35_3
                    try clear hfz35_4
                    try clear hfz39_0
                    try clear hfz39_1
                    try clear hfz39_2
                    try clear hfz39_3
                    try clear hfz39_4
                    try clear hfz41_0
                    try clear hfz41_1
                    try clear hfz41_2
                    try clear hfz41_3
                    try clear hfz41_4
                    try clear hfz47_0
                    try clear hfz47_1
                    try clear hfz47_2
                    try clear hfz47_3
                    try clear hfz47_4
                    try clear hfz48_0
                    try clear hfz48_1
                    try clear hfz48_2
                    try clear hfz48_3
                    try clear hfz48_4
                    try clear hfz49_0
                    try clear hfz49_1
                    try clear hfz49_2
                    try clear hfz49_3
                    try clear hfz49_4
                    try clear hfz50_0
                    try clear hfz50_1
                    try clear hfz50_2
                    try clear hfz50_3
                    try clear hfz50_4
                    try clear hfz51_0
                    try clear hfz51_1
                    try clear hfz51_2
                    try clear hfz51_3
                    try clear hfz51_4
                    try clear hfz52_0
                    try clear hfz52_1
                    try clear hfz52_2
                    try clear hfz52_3
                    try clear hfz52_4
                    try clear hfz64_0
                    try clear hfz64_1
                    try clear hfz64_2
                    try clear hfz66_0
                    try clear hfz66_1
                    try clear hfz66_2
                    try clear hfz68_0
                    try clear hfz68_1
                    try clear hfz68_2
                    try clear hfz72_0
                    try clear hfz72_1
                    try clear hfz72_2
                    try clear hfz74_0
                    try clear hfz74_1
                    try clear hfz74_2
                    try clear hfz78_0
                    try clear hfz78_1
                    try clear hfz78_2
                    try clear hfz82_0
                    try clear hfz82_1
                    try clear hfz82_2
                    try clear hfz85_0
                    try clear hfz85_1
                    try clear hfz85_2
                    try clear hfz85_3
                    try clear hfz85_4
                    try clear hfz87_0
                    try clear hfz87_1
                    try clear hfz87_2
                    try clear hfz87_3
                    try clear hfz87_4
                    try clear hx252_0
                    try clear hx252_1
                    try clear hx252_2
                    try clear p2
                    try clear p252
                    try clear q252
                    obtain ⟨x3_3, x97_3, rfl, rfl, HA, HK3, HO_6, BK249, HB⟩ := hrel
                    cases gk with
                    | zero => exact absurd HA.out (by simp [query_Check.l1])
                    | succ k3 =>
                      have H := HA.out
                      clear HA
                      simp only [query_Check.l1] at H
                      by_cases c88 : x97_3 < (l0_2.length : Int)
                      · rw [if_pos c88] at H
                        have c88b0 : decide (x97_3 < (l0_2.length : Int)) = true := decide_eq_true c88
                        clear c88
                        by_cases c89 : 0 ≤ x97_3
                        · rw [if_pos c89] at H
                          have c89b0 : decide (0 ≤ x97_3) = true := decide_eq_true c89
                          clear c89
                          by_cases c90 : x97_3 < (l0_2.length : Int)
                          · rw [if_pos c90] at H
                            have c90b0 : decide (x97_3 < (l0_2.length : Int)) = true := decide_eq_true c90
                            clear c90
                            by_cases c91 : x3_3 = true
                            · subst c91
                              have H1 : ((slices_Contains_string_string.f k3 t257 (rdOf ByteArray.empty l0_2 x97_3)).bind fun t261 => (if t261 = true then (if x97_3 ≤ (l0_2.length : Int) then ((slices_Contains_string_string.f k3 (l0_2.take (x97_3 : Int).toNat) (rdOf ByteArray.empty l0_2 x97_3)).bind fun t263 => (query_Check.l1 k3 (!t263) t257 l0_2 (l0_2.length : Int) (wrap64 (x97_3 + 1)) a0_0 a0_1 l0_2 l0_3 a0_4)) else (none)) else (query_Check.l1 k3 false t257 l0_2 (l0_2.length : Int) (wrap64 (x97_3 + 1)) a0_0 a0_1 l0_2 l0_3 a0_4))) = some r := by rw [if_pos rfl] at H; exact H
                              clear H
                              have H := H1
                              clear H1
                              replace H := Option.bind_eq_some_iff.mp H
                              obtain ⟨t261, A920, H⟩ := H
                              replace H : (if t261 = true then (if x97_3 ≤ (l0_2.length : Int) then ((slices_Contains_string_string.f k3 (l0_2.take (x97_3 : Int).toNat) (rdOf ByteArray.empty l0_2 x97_3)).bind fun t263 => (query_Check.l1 k3 (!t263) t257 l0_2 (l0_2.length : Int) (wrap64 (x97_3 + 1)) a0_0 a0_1 l0_2 l0_3 a0_4)) else (none)) else (query_Check.l1 k3 false t257 l0_2 (l0_2.length : Int) (wrap64 (x97_3 + 1)) a0_0 a0_1 l0_2 l0_3 a0_4)) = some r := H
                              have A92 := Aside0.mk A920
                              clear A920
                              by_cases c93 : t261 = true
                              · subst c93
                                have H1 : (if x97_3 ≤ (l0_2.length : Int) then ((slices_Contains_string_string.f k3 (l0_2.take (x97_3 : Int).toNat) (rdOf ByteArray.empty l0_2 x97_3)).bind fun t263 => (query_Check.l1 k3 (!t263) t257 l0_2 (l0_2.length : Int) (wrap64 (x97_3 + 1)) a0_0 a0_1 l0_2 l0_3 a0_4)) else (none)) = some r := by rw [if_pos rfl] at H; exact H
                                clear H
                                have H := H1
                                clear H1
                                have c94b0 := eq_true (of_decide_eq_true (by first | (with_reducible assumption) | assumption) : 0 ≤ x97_3)
                                by_cases c95 : x97_3 ≤ (l0_2.length : Int)
                                · rw [if_pos c95] at H
                                  have c95b0 := eq_true c95
                                  have c95b1 : decide (x97_3 ≤ (l0_2.length : Int)) = true := decide_eq_true c95
                                  clear c95
                                  replace H := Option.bind_eq_some_iff.mp H
                                  obtain ⟨t263, A960, H⟩ := H
                                  replace H : (query_Check.l1 k3 (!t263) t257 l0_2 (l0_2.length : Int) (wrap64 (x97_3 + 1)) a0_0 a0_1 l0_2 l0_3 a0_4) = some r := H
                                  have A96 := Aside0.mk A960
                                  clear A960
                                  have H' := Aside0.mk H
                                  clear H
                                  have p260 : 0 ≤ (x97_3 : Int) := of_decide_eq_true (by first | (with_reducible assumption) | assumption)
                                  have q260 : x97_3 < (l0_2.length : Int) := of_decide_eq_true (by first | (with_reducible assumption) | assumption)
                                  obtain ⟨ad260, e260, hx260_0⟩ := Kd.at_string HR0_2.out x97_3 p260 q260
                                  cases e260
                                  replace hx260_0 := (HB.out.cell (World.block_lt_of_cell? w _ hx260_0)).trans hx260_0
                                  replace p260 := eq_true p260
                                  replace q260 := eq_true q260
                                  obtain ⟨Ao97, co97, eo97⟩ := Kd.R_slice HO_6.out
                                  subst eo97
                                  have HLenT : Aside0 ((l0_2.take (x97_3 : Int).toNat).length = (x97_3 : Int).toNat) := ⟨by rw [List.length_take]; have := of_eq_true p260; have := of_eq_true q260; omega⟩
                                  go_wp2_with (first | (go_at_call 96; (with_reducible refine (slices_Contains_string_string.calls k3 _ _ t257 (rdOf ByteArray.empty l0_2 x97_3) true _ ?side1 ?side2 A92.out).mono ?_); (case side1 => repeat (first | exact (Kd.R_reads' HO_6.out).2.2 | (with_reducible refine Kd.C_alloc ?_ _) | (with_reducible refine Kd.C_drewN ?_ _) | (with_reducible refine Kd.C_drew ?_))); (case side2 => exact (Kd.R_reads' HO_6.out).2.1); rintro e w' ⟨rfl, ⟨nd, rfl⟩⟩; have hcz98_0 : wr.cell? ⟨gb249, 0, none⟩ = some (.string a0_0) := (blk_cell BK249.out 0).trans rfl; have hcz98_1 : wr.cell? ⟨gb249, 1, none⟩ = some (.int .i64 a0_1) := (blk_cell BK249.out 1).trans rfl; have hcz98_2 : wr.cell? ⟨gb249, 2, none⟩ = some (.slice (some ad260) l0_2.length c0_2) := (blk_cell BK249.out 2).trans rfl; have hcz98_3 : wr.cell? ⟨gb249, 3, none⟩ = some (.slice A0_3 l0_3.length c0_3) := (blk_cell BK249.out 3).trans rfl; have hcz98_4 : wr.cell? ⟨gb249, 4, none⟩ = some (.string a0_4) := (blk_cell BK249.out 4).trans rfl; have hfz98_0 := blk_frozen BK249.out 0; have hfz98_1 := blk_frozen BK249.out 1; have hfz98_2 := blk_frozen BK249.out 2; have hfz98_3 := blk_frozen BK249.out 3; have hfz98_4 := blk_frozen BK249.out 4; obtain ⟨i099, hi099, _, hsz99, _⟩ := info_parts info9; obtain ⟨hcut99, hA99, hC99⟩ := print_take_of (P := Try.prog) Value.string (⟨#[]⟩ : ByteArray) 30 9 .i64 Try.underlying30 hi099 hsz99 (some ad260) c0_2 l0_2 x97_3 (of_decide_eq_true (by first | (with_reducible assumption) | assumption)) (of_decide_eq_true (by first | (with_reducible assumption) | assumption)) HC0_2.out; have HR262 := Aside0.mk (Kd.C_of_reads (h1 := fun _ => rfl) (hA99 _ (Kd.reads_of_C HR0_2.out))); have HC262 := Aside0.mk hC99; clear hA99 hC99 hi099 hsz99) | (go_at_call 96; rw [← HLenT.out]; (with_reducible refine (slices_Contains_string_string.calls k3 _ _ (l0_2.take (x97_3 : Int).toNat) (rdOf ByteArray.empty l0_2 x97_3) t263 _ ?side1 ?side2 A96.out).mono ?_); (case side1 => repeat (first | exact (Kd.C_below HR262.out (by repeat (first | (with_reducible first | exact HB.out | apply below_alloc | apply pw_below_drewN | apply below_drew1 | refine below_set ?_ GE249.out) | exact HB.out))) | (with_reducible refine Kd.C_alloc ?_ _) | (with_reducible refine Kd.C_drewN ?_ _) | (with_reducible refine Kd.C_drew ?_))); (case side2 => exact HC262.out); rintro e w' ⟨rfl, ⟨nd, rfl⟩⟩))
                                  go_roundg k3
                                  case measure => have := HJ36.out; have := HK2.out; have := HK3.out; omega
                                  case rel => exact ⟨(!t263), (wrap64 (x97_3 + 1)), (by first | rfl | (simp; done) | (simp [*]; done)), (by first | rfl | (simp; done) | (simp [*]; done)), H', ⟨by have := HJ36.out; have := HK2.out; have := HK3.out; omega⟩, ⟨by (with_reducible repeat (first | apply Kd.R_alloc | apply Kd.R_drewN | apply Kd.R_drew)); exact HO_6.out⟩, ⟨by (with_reducible repeat (first | refine blk_drewN ?_ _ | refine blk_drew ?_ | refine blk_alloc ?_ _)); exact BK249.out⟩, ⟨by repeat (first | (with_reducible first | exact HB.out | apply below_alloc | apply pw_below_drewN | apply below_drew1 | refine below_set ?_ GE249.out) | exact HB.out)⟩⟩
                                · rw [if_neg c95] at H
                                  exact absurd H (by simp)
                              · replace c93 := Bool.eq_false_iff.mpr c93
                                subst c93
                                have H1 : (query_Check.l1 k3 false t257 l0_2 (l0_2.length : Int) (wrap64 (x97_3 + 1)) a0_0 a0_1 l0_2 l0_3 a0_4) = some r := by rw [if_neg (show ¬ (false = true) by decide)] at H; exact H
                                clear H
                                have H := H1
                                clear H1
                                have H' := Aside0.mk H
                                clear H
                                have p260 : 0 ≤ (x97_3 : Int) := of_decide_eq_true (by first | (with_reducible assumption) | assumption)
                                have q260 : x97_3 < (l0_2.length : Int) := of_decide_eq_true (by first | (with_reducible assumption) | assumption)
                                obtain ⟨ad260, e260, hx260_0⟩ := Kd.at_string HR0_2.out x97_3 p260 q260
                                cases e260
                                replace hx260_0 := (HB.out.cell (World.block_lt_of_cell? w _ hx260_0)).trans hx260_0
                                replace p260 := eq_true p260
                                replace q260 := eq_true q260
                                obtain ⟨Ao100, co100, eo100⟩ := Kd.R_slice HO_6.out
                                subst eo100
                                go_wp2_with (first | (go_at_call 96; (with_reducible refine (slices_Contains_string_string.calls k3 _ _ t257 (rdOf ByteArray.empty l0_2 x97_3) false _ ?side1 ?side2 A92.out).mono ?_); (case side1 => repeat (first | exact (Kd.R_reads' HO_6.out).2.2 | (with_reducible refine Kd.C_alloc ?_ _) | (with_reducible refine Kd.C_drewN ?_ _) | (with_reducible refine Kd.C_drew ?_))); (case side2 => exact (Kd.R_reads' HO_6.out).2.1); rintro e w' ⟨rfl, ⟨nd, rfl⟩⟩))
                                go_roundg k3
                                case measure => have := HJ36.out; have := HK2.out; have := HK3.out; omega
                                case rel => exact ⟨(false), (wrap64 (x97_3 + 1)), (by first | rfl | (simp; done) | (simp [*]; done)), (by first | rfl | (simp; done) | (simp [*]; done)), H', ⟨by have := HJ36.out; have := HK2.out; have := HK3.out; omega⟩, ⟨by (with_reducible repeat (first | apply Kd.R_alloc | apply Kd.R_drewN | apply Kd.R_drew)); exact HO_6.out⟩, ⟨by (with_reducible repeat (first | refine blk_drewN ?_ _ | refine blk_drew ?_ | refine blk_alloc ?_ _)); exact BK249.out⟩, ⟨by repeat (first | (with_reducible first | exact HB.out | apply below_alloc | apply pw_below_drewN | apply below_drew1 | refine below_set ?_ GE249.out) | exact HB.out)⟩⟩
                            · replace c91 := Bool.eq_false_iff.mpr c91
                              subst c91
                              have H1 : (query_Check.l1 k3 false t257 l0_2 (l0_2.length : Int) (wrap64 (x97_3 + 1)) a0_0 a0_1 l0_2 l0_3 a0_4) = some r := by rw [if_neg (show ¬ (false = true) by decide)] at H; exact H
                              clear H
                              have H := H1
                              clear H1
                              have H' := Aside0.mk H
                              clear H
                              have p260 : 0 ≤ (x97_3 : Int) := of_decide_eq_true (by first | (with_reducible assumption) | assumption)
                              have q260 : x97_3 < (l0_2.length : Int) := of_decide_eq_true (by first | (with_reducible assumption) | assumption)
                              obtain ⟨ad260, e260, hx260_0⟩ := Kd.at_string HR0_2.out x97_3 p260 q260
                              cases e260
                              replace hx260_0 := (HB.out.cell (World.block_lt_of_cell? w _ hx260_0)).trans hx260_0
                              replace p260 := eq_true p260
                              replace q260 := eq_true q260
                              go_wp2
                              go_roundg k3
                              case measure => have := HJ36.out; have := HK2.out; have := HK3.out; omega
                              case rel => exact ⟨(false), (wrap64 (x97_3 + 1)), (by first | rfl | (simp; done) | (simp [*]; done)), (by first | rfl | (simp; done) | (simp [*]; done)), H', ⟨by have := HJ36.out; have := HK2.out; have := HK3.out; omega⟩, ⟨by (with_reducible repeat (first | apply Kd.R_alloc | apply Kd.R_drewN | apply Kd.R_drew)); exact HO_6.out⟩, ⟨by (with_reducible repeat (first | refine blk_drewN ?_ _ | refine blk_drew ?_ | refine blk_alloc ?_ _)); exact BK249.out⟩, ⟨by repeat (first | (with_reducible first | exact HB.out | apply below_alloc | apply pw_below_drewN | apply below_drew1 | refine below_set ?_ GE249.out) | exact HB.out)⟩⟩
                          · rw [if_neg c90] at H
                            exact absurd H (by simp)
                        · rw [if_neg c89] at H
                          exact absurd H (by simp)
                      · rw [if_neg c88] at H
                        have c88b0 : decide (x97_3 < (l0_2.length : Int)) = false := decide_eq_false c88
                        clear c88
                        by_cases c101 : x3_3 = true
                        · subst c101
                          have H1 : (some 0) = some r := by rw [if_pos rfl] at H; exact H
                          clear H
                          have H := H1
                          clear H1
                          obtain rfl := Option.some.inj H
                          go_wp2
                          go_ret
                          exact ⟨by first | rfl | (simp [errW_none, errW_some] <;> rfl) | (simp [*, errW_none, errW_some] <;> rfl), by repeat (first | (with_reducible first | exact HB.out | apply below_alloc | apply pw_below_drewN | apply below_drew1 | refine below_set ?_ GE249.out) | exact HB.out)⟩
                        · replace c101 := Bool.eq_false_iff.mpr c101
                          subst c101
                          have H1 : (some 1) = some r := by rw [if_neg (show ¬ (false = true) by decide)] at H; exact H
                          clear H
                          have H := H1
                          clear H1
                          obtain rfl := Option.some.inj H
                          go_wp2
                          go_ret
                          exact ⟨by first | rfl | (simp [errW_none, errW_some] <;> rfl) | (simp [*, errW_none, errW_some] <;> rfl), by repeat (first | (with_reducible first | exact HB.out | apply below_alloc | apply pw_below_drewN | apply below_drew1 | refine below_set ?_ GE249.out) | exact HB.out)⟩
                · replace c83 := Bool.eq_false_iff.mpr c83
                  subst c83
                  have H1 : (some 1) = some r := by rw [if_neg (show ¬ (false = true) by decide)] at H; exact H
                  clear H
                  have H := H1
                  clear H1
                  obtain rfl := Option.some.inj H
                  go_wp2
                  go_ret
                  exact ⟨by first | rfl | (simp [errW_none, errW_some] <;> rfl) | (simp [*, errW_none, errW_some] <;> rfl), by repeat (first | (with_reducible first | exact HB.out | apply below_alloc | apply pw_below_drewN | apply below_drew1 | refine below_set ?_ GE249.out) | exact HB.out)⟩
    · rw [if_neg c36] at H
      have c36b0 : (a0_1 == 1) = false := beq_eq_false_iff_ne.mpr c36
      have c36b1 : (a0_1 != 1) = true := bne_iff_ne.mpr c36
      obtain rfl := Option.some.inj H
      go_enter Try.func95, Try.ntmps95
      go_wp2_with (first | ((with_reducible refine gate_dst (N := 1) rfl ?_); (try (refine gate_guard (by rfl) ?_; dsimp only)); refine box_event ?hg (N := 1) ?hd (cs := #[.string a0_0, .int .i64 a0_1, .slice A0_2 l0_2.length c0_2, .slice A0_3 l0_3.length c0_3, .string a0_4]) (t := 59) ?hr ?_; (case hd => rfl); (case hg => rfl); (case hr => first | (go_simp; done) | (go_simp; rfl)); intro gb249 hg w102 hbox hb; have n0_ := Aside0.mk (below_step (by repeat (first | (with_reducible first | exact HB.out | apply below_alloc | apply pw_below_drewN | apply below_drew1) | exact HB.out)) hb); have n1_ := Aside0.mk (hbox); have n2_ := Aside0.mk ((by rw [hg]; exact (below_size (by repeat (first | (with_reducible first | exact HB.out | apply below_alloc | apply pw_below_drewN | apply below_drew1) | exact HB.out))) : w.heap.size ≤ gb249)); have n3_ := Aside0.mk ((by rw [hg]; exact (below_size (by repeat (first | (with_reducible first | exact HB.out | apply below_alloc | apply pw_below_drewN | apply below_drew1) | exact HB.out))) : w.heap.size ≤ gb249)); clear HB; have HB := n0_; have BK249 := n1_; have GW249 := n2_; have GE249 := n3_; clear n0_ n1_ n2_ n3_; clear hb hbox hg; have hcz103_0 : w102.cell? ⟨gb249, 0, none⟩ = some (.string a0_0) := (blk_cell BK249.out 0).trans rfl; have hcz103_1 : w102.cell? ⟨gb249, 1, none⟩ = some (.int .i64 a0_1) := (blk_cell BK249.out 1).trans rfl; have hcz103_2 : w102.cell? ⟨gb249, 2, none⟩ = some (.slice A0_2 l0_2.length c0_2) := (blk_cell BK249.out 2).trans rfl; have hcz103_3 : w102.cell? ⟨gb249, 3, none⟩ = some (.slice A0_3 l0_3.length c0_3) := (blk_cell BK249.out 3).trans rfl; have hcz103_4 : w102.cell? ⟨gb249, 4, none⟩ = some (.string a0_4) := (blk_cell BK249.out 4).trans rfl; have hfz103_0 := blk_frozen BK249.out 0; have hfz103_1 := blk_frozen BK249.out 1; have hfz103_2 := blk_frozen BK249.out 2; have hfz103_3 := blk_frozen BK249.out 3; have hfz103_4 := blk_frozen BK249.out 4) | ((with_reducible refine gate_callee (f := 121) rfl ?_); refine goesL_ (some 11) rfl rfl Try.func121 (by kernel_rfl) rfl #[.string a0_0] rfl (by (try simp only [List.map_toArray, List.map_cons, List.map_nil]); first | done | rfl | (simp only [List.length_drop, List.length_take]; rfl)) ?_; (with_reducible refine (query_name.calls a0_0 t250 _ A2.out).mono ?_); rintro e w104 ⟨rfl, hb⟩; refine ⟨_, rfl, ?_⟩; have n0_ := Aside0.mk (blk_below (g := gb249) (o := .cells #[.string a0_0, .int .i64 a0_1, .slice A0_2 l0_2.length c0_2, .slice A0_3 l0_3.length c0_3, .string a0_4] 59 (0, 0)) (by (with_reducible repeat (first | refine blk_drewN ?_ _ | refine blk_drew ?_ | refine blk_alloc ?_ _)); exact BK249.out) hb); have n1_ := Aside0.mk (below_step (by repeat (first | (with_reducible first | exact HB.out | apply below_alloc | apply pw_below_drewN | apply below_drew1 | refine below_set ?_ GE249.out) | exact HB.out)) hb); clear BK249; clear HB; have BK249 := n0_; have HB := n1_; clear n0_ n1_; (try clear hb); (try clear hb2); (try clear hk); (try clear hi); have hcz105_0 : w104.cell? ⟨gb249, 0, none⟩ = some (.string a0_0) := (blk_cell BK249.out 0).trans rfl; have hcz105_1 : w104.cell? ⟨gb249, 1, none⟩ = some (.int .i64 a0_1) := (blk_cell BK249.out 1).trans rfl; have hcz105_2 : w104.cell? ⟨gb249, 2, none⟩ = some (.slice A0_2 l0_2.length c0_2) := (blk_cell BK249.out 2).trans rfl; have hcz105_3 : w104.cell? ⟨gb249, 3, none⟩ = some (.slice A0_3 l0_3.length c0_3) := (blk_cell BK249.out 3).trans rfl; have hcz105_4 : w104.cell? ⟨gb249, 4, none⟩ = some (.string a0_4) := (blk_cell BK249.out 4).trans rfl; have hfz105_0 := blk_frozen BK249.out 0; have hfz105_1 := blk_frozen BK249.out 1; have hfz105_2 := blk_frozen BK249.out 2; have hfz105_3 := blk_frozen BK249.out 3; have hfz105_4 := blk_frozen BK249.out 4))
      go_ret
      exact ⟨by first | rfl | (simp [errW_none, errW_some] <;> rfl) | (simp [*, errW_none, errW_some] <;> rfl), by repeat (first | (with_reducible first | exact HB.out | apply below_alloc | apply pw_below_drewN | apply below_drew1 | refine below_set ?_ GE249.out) | exact HB.out)⟩

end Go.Proofs.Ytcchcifcfcpjiaa.PJ
