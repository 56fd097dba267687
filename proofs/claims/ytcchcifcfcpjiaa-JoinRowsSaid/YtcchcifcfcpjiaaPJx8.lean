-- Printed by the kit's print for this seat; taken on by this session.
import Derived.Test.YtcchcifcfcpjiaaPJx0
import Derived.Test.YtcchcifcfcpjiaaPJx7
namespace Go.Proofs.Ytcchcifcfcpjiaa.PJ
open Go.RowKit Go.Proofs.YtcchcifcfcpjiaaW.PrintWords Go.Proofs.YtcchcifcfcpjiaaW.PrintLast Go.Proofs.YtcchcifcfcpjiaaW.PrintMore
attribute [local go_sem] max2_int min2_int max_two min_two max_three min_three max_four min_four   -- for this text's walks alone
set_option linter.unusedVariables false
set_option linter.unusedSimpArgs false

/-! ### rhizomeref11_Sorted: function 75 -/
mutual
def rhizomeref11_Sorted.l0 : Nat → List (List Int) → List (List Int) → List (List Int) → Int → Int → Option ((List (List Int)))
  | 0, _, _, _, _, _ => none
  | k + 1, x3, x4, x5, x6, x7 => if x6 < (x3.length : Int) then (rhizomeref11_Sorted.j1 k x3 x4 x5 x6 x7 true) else (rhizomeref11_Sorted.j1 k x3 x4 x5 x6 x7 (decide (x7 < (x4.length : Int))))
def rhizomeref11_Sorted.j1 : Nat → List (List Int) → List (List Int) → List (List Int) → Int → Int → Bool → Option ((List (List Int)))
  | 0, _, _, _, _, _, _ => none
  | k + 1, x3, x4, x5, x6, x7, x34 => if x34 = true then (if x6 < (x3.length : Int) then (rhizomeref11_Sorted.j2 k x3 x4 x5 x6 x7 0 (decide (x7 < (x4.length : Int)))) else (rhizomeref11_Sorted.j2 k x3 x4 x5 x6 x7 0 false)) else (some x5)
def rhizomeref11_Sorted.j2 : Nat → List (List Int) → List (List Int) → List (List Int) → Int → Int → Int → Bool → Option ((List (List Int)))
  | 0, _, _, _, _, _, _, _ => none
  | k + 1, x3, x4, x5, x6, x7, x8, x44 => if x44 = true then (if 0 ≤ x6 then (if x6 < (x3.length : Int) then (if 0 ≤ x7 then (if x7 < (x4.length : Int) then ((rhizomeref10_Cmp.f k (rd_L4 x3 x6) (rd_L4 x4 x7)).bind fun t219 => (rhizomeref11_Sorted.j3 k x3 x4 x5 x6 x7 t219)) else (none)) else (none)) else (none)) else (none)) else (rhizomeref11_Sorted.j3 k x3 x4 x5 x6 x7 x8)
def rhizomeref11_Sorted.j3 : Nat → List (List Int) → List (List Int) → List (List Int) → Int → Int → Int → Option ((List (List Int)))
  | 0, _, _, _, _, _, _ => none
  | k + 1, x3, x4, x5, x6, x7, x8 => if x7 ≥ (x4.length : Int) then (rhizomeref11_Sorted.j4 k x3 x4 x5 x6 x7 x8 true) else (if x6 < (x3.length : Int) then (rhizomeref11_Sorted.j4 k x3 x4 x5 x6 x7 x8 (decide (x8 < 0))) else (rhizomeref11_Sorted.j4 k x3 x4 x5 x6 x7 x8 false))
def rhizomeref11_Sorted.j4 : Nat → List (List Int) → List (List Int) → List (List Int) → Int → Int → Int → Bool → Option ((List (List Int)))
  | 0, _, _, _, _, _, _, _ => none
  | k + 1, x3, x4, x5, x6, x7, x8, x56 => if x56 = true then (if 0 ≤ x6 then (if x6 < (x3.length : Int) then (if x5.length < 5864062014805 then (rhizomeref11_Sorted.l0 k x3 x4 (x5 ++ [rd_L4 x3 x6]) (wrap64 (x6 + 1)) x7) else (none)) else (none)) else (none)) else (if x6 ≥ (x3.length : Int) then (if 0 ≤ x7 then (if x7 < (x4.length : Int) then (if x5.length < 5864062014805 then (rhizomeref11_Sorted.l0 k x3 x4 (x5 ++ [rd_L4 x4 x7]) x6 (wrap64 (x7 + 1))) else (none)) else (none)) else (none)) else (if x8 > 0 then (if 0 ≤ x7 then (if x7 < (x4.length : Int) then (if x5.length < 5864062014805 then (rhizomeref11_Sorted.l0 k x3 x4 (x5 ++ [rd_L4 x4 x7]) x6 (wrap64 (x7 + 1))) else (none)) else (none)) else (none)) else (rhizomeref11_Sorted.l0 k x3 x4 x5 (wrap64 (x6 + 1)) x7)))
def rhizomeref11_Sorted.f : Nat → List (List Int) → Option ((List (List Int)))
  | 0, _ => none
  | k + 1, l0 => if (l0.length : Int) < 2 then (some l0) else (if 0 ≤ (wrap64 ((l0.length : Int) / 2)) then (if (wrap64 ((l0.length : Int) / 2)) ≤ (l0.length : Int) then ((rhizomeref11_Sorted.f k (l0.take ((wrap64 ((l0.length : Int) / 2)) : Int).toNat)).bind fun t206 => ((rhizomeref11_Sorted.f k (l0.drop ((wrap64 ((l0.length : Int) / 2)) : Int).toNat)).bind fun t214 => (rhizomeref11_Sorted.l0 k t206 t214 ([] : List (List Int)) 0 0))) else (none)) else (none))
end
theorem rhizomeref11_Sorted.mono_l : ∀ k, (∀ y0, LeO (rhizomeref11_Sorted.f k y0) (rhizomeref11_Sorted.f (k + 1) y0)) ∧ (∀ y0 y1 y2 y3 y4, LeO (rhizomeref11_Sorted.l0 k y0 y1 y2 y3 y4) (rhizomeref11_Sorted.l0 (k + 1) y0 y1 y2 y3 y4)) ∧ (∀ y0 y1 y2 y3 y4 y5, LeO (rhizomeref11_Sorted.j1 k y0 y1 y2 y3 y4 y5) (rhizomeref11_Sorted.j1 (k + 1) y0 y1 y2 y3 y4 y5)) ∧ (∀ y0 y1 y2 y3 y4 y5 y6, LeO (rhizomeref11_Sorted.j2 k y0 y1 y2 y3 y4 y5 y6) (rhizomeref11_Sorted.j2 (k + 1) y0 y1 y2 y3 y4 y5 y6)) ∧ (∀ y0 y1 y2 y3 y4 y5, LeO (rhizomeref11_Sorted.j3 k y0 y1 y2 y3 y4 y5) (rhizomeref11_Sorted.j3 (k + 1) y0 y1 y2 y3 y4 y5)) ∧ (∀ y0 y1 y2 y3 y4 y5 y6, LeO (rhizomeref11_Sorted.j4 k y0 y1 y2 y3 y4 y5 y6) (rhizomeref11_Sorted.j4 (k + 1) y0 y1 y2 y3 y4 y5 y6))
  | 0 => ⟨fun _ r h => by simp [rhizomeref11_Sorted.f] at h, fun _ _ _ _ _ r h => by simp [rhizomeref11_Sorted.l0] at h, fun _ _ _ _ _ _ r h => by simp [rhizomeref11_Sorted.j1] at h, fun _ _ _ _ _ _ _ r h => by simp [rhizomeref11_Sorted.j2] at h, fun _ _ _ _ _ _ r h => by simp [rhizomeref11_Sorted.j3] at h, fun _ _ _ _ _ _ _ r h => by simp [rhizomeref11_Sorted.j4] at h⟩
  | k + 1 => by
    obtain ⟨ih0, ih1, ih2, ih3, ih4, ih5⟩ := rhizomeref11_Sorted.mono_l k
    refine ⟨?_, ?_, ?_, ?_, ?_, ?_⟩
    · intro y0
      unfold rhizomeref11_Sorted.f
      repeat' first
      | (with_reducible exact ih0 _)
      | (with_reducible exact ih1 _ _ _ _ _)
      | (with_reducible exact ih2 _ _ _ _ _ _)
      | (with_reducible exact ih3 _ _ _ _ _ _ _)
      | (with_reducible exact ih4 _ _ _ _ _ _)
      | (with_reducible exact ih5 _ _ _ _ _ _ _)
      | (with_reducible exact rhizomeref10_Cmp.mono _ _ _)
      | (with_reducible exact LeO.refl _)
      | (with_reducible exact LeO.none _)
      | (with_reducible refine LeO.ite ?_ ?_)
      | (with_reducible refine LeO.bind ?_ (fun _ => ?_))
      | exact ih0 _
      | exact ih1 _ _ _ _ _
      | exact ih2 _ _ _ _ _ _
      | exact ih3 _ _ _ _ _ _ _
      | exact ih4 _ _ _ _ _ _
      | exact ih5 _ _ _ _ _ _ _
      | exact rhizomeref10_Cmp.mono _ _ _
      | exact LeO.none _
      | refine LeO.ite ?_ ?_
      | refine LeO.bind ?_ (fun _ => ?_)
    · intro y0 y1 y2 y3 y4
      unfold rhizomeref11_Sorted.l0
      repeat' first
      | (with_reducible exact ih0 _)
      | (with_reducible exact ih1 _ _ _ _ _)
      | (with_reducible exact ih2 _ _ _ _ _ _)
      | (with_reducible exact ih3 _ _ _ _ _ _ _)
      | (with_reducible exact ih4 _ _ _ _ _ _)
      | (with_reducible exact ih5 _ _ _ _ _ _ _)
      | (with_reducible exact rhizomeref10_Cmp.mono _ _ _)
      | (with_reducible exact LeO.refl _)
      | (with_reducible exact LeO.none _)
      | (with_reducible refine LeO.ite ?_ ?_)
      | (with_reducible refine LeO.bind ?_ (fun _ => ?_))
      | exact ih0 _
      | exact ih1 _ _ _ _ _
      | exact ih2 _ _ _ _ _ _
      | exact ih3 _ _ _ _ _ _ _
      | exact ih4 _ _ _ _ _ _
      | exact ih5 _ _ _ _ _ _ _
      | exact rhizomeref10_Cmp.mono _ _ _
      | exact LeO.none _
      | refine LeO.ite ?_ ?_
      | refine LeO.bind ?_ (fun _ => ?_)
    · intro y0 y1 y2 y3 y4 y5
      unfold rhizomeref11_Sorted.j1
      repeat' first
      | (with_reducible exact ih0 _)
      | (with_reducible exact ih1 _ _ _ _ _)
      | (with_reducible exact ih2 _ _ _ _ _ _)
      | (with_reducible exact ih3 _ _ _ _ _ _ _)
      | (with_reducible exact ih4 _ _ _ _ _ _)
      | (with_reducible exact ih5 _ _ _ _ _ _ _)
      | (with_reducible exact rhizomeref10_Cmp.mono _ _ _)
      | (with_reducible exact LeO.refl _)
      | (with_reducible exact LeO.none _)
      | (with_reducible refine LeO.ite ?_ ?_)
      | (with_reducible refine LeO.bind ?_ (fun _ => ?_))
      | exact ih0 _
      | exact ih1 _ _ _ _ _
      | exact ih2 _ _ _ _ _ _
      | exact ih3 _ _ _ _ _ _ _
      | exact ih4 _ _ _ _ _ _
      | exact ih5 _ _ _ _ _ _ _
      | exact rhizomeref10_Cmp.mono _ _ _
      | exact LeO.none _
      | refine LeO.ite ?_ ?_
      | refine LeO.bind ?_ (fun _ => ?_)
    · intro y0 y1 y2 y3 y4 y5 y6
      unfold rhizomeref11_Sorted.j2
      repeat' first
      | (with_reducible exact ih0 _)
      | (with_reducible exact ih1 _ _ _ _ _)
      | (with_reducible exact ih2 _ _ _ _ _ _)
      | (with_reducible exact ih3 _ _ _ _ _ _ _)
      | (with_reducible exact ih4 _ _ _ _ _ _)
      | (with_reducible exact ih5 _ _ _ _ _ _ _)
      | (with_reducible exact rhizomeref10_Cmp.mono _ _ _)
      | (with_reducible exact LeO.refl _)
      | (with_reducible exact LeO.none _)
      | (with_reducible refine LeO.ite ?_ ?_)
      | (with_reducible refine LeO.bind ?_ (fun _ => ?_))
      | exact ih0 _
      | exact ih1 _ _ _ _ _
      | exact ih2 _ _ _ _ _ _
      | exact ih3 _ _ _ _ _ _ _
      | exact ih4 _ _ _ _ _ _
      | exact ih5 _ _ _ _ _ _ _
      | exact rhizomeref10_Cmp.mono _ _ _
      | exact LeO.none _
      | refine LeO.ite ?_ ?_
      | refine LeO.bind ?_ (fun _ => ?_)
    · intro y0 y1 y2 y3 y4 y5
      unfold rhizomeref11_Sorted.j3
      repeat' first
      | (with_reducible exact ih0 _)
      | (with_reducible exact ih1 _ _ _ _ _)
      | (with_reducible exact ih2 _ _ _ _ _ _)
      | (with_reducible exact ih3 _ _ _ _ _ _ _)
      | (with_reducible exact ih4 _ _ _ _ _ _)
      | (with_reducible exact ih5 _ _ _ _ _ _ _)
      | (with_reducible exact rhizomeref10_Cmp.mono _ _ _)
      | (with_reducible exact LeO.refl _)
      | (with_reducible exact LeO.none _)
      | (with_reducible refine LeO.ite ?_ ?_)
      | (with_reducible refine LeO.bind ?_ (fun _ => ?_))
      | exact ih0 _
      | exact ih1 _ _ _ _ _
      | exact ih2 _ _ _ _ _ _
      | exact ih3 _ _ _ _ _ _ _
      | exact ih4 _ _ _ _ _ _
      | exact ih5 _ _ _ _ _ _ _
      | exact rhizomeref10_Cmp.mono _ _ _
      | exact LeO.none _
      | refine LeO.ite ?_ ?_
      | refine LeO.bind ?_ (fun _ => ?_)
    · intro y0 y1 y2 y3 y4 y5 y6
      unfold rhizomeref11_Sorted.j4
      repeat' first
      | (with_reducible exact ih0 _)
      | (with_reducible exact ih1 _ _ _ _ _)
      | (with_reducible exact ih2 _ _ _ _ _ _)
      | (with_reducible exact ih3 _ _ _ _ _ _ _)
      | (with_reducible exact ih4 _ _ _ _ _ _)
      | (with_reducible exact ih5 _ _ _ _ _ _ _)
      | (with_reducible exact rhizomeref10_Cmp.mono _ _ _)
      | (with_reducible exact LeO.refl _)
      | (with_reducible exact LeO.none _)
      | (with_reducible refine LeO.ite ?_ ?_)
      | (with_reducible refine LeO.bind ?_ (fun _ => ?_))
      | exact ih0 _
      | exact ih1 _ _ _ _ _
      | exact ih2 _ _ _ _ _ _
      | exact ih3 _ _ _ _ _ _ _
      | exact ih4 _ _ _ _ _ _
      | exact ih5 _ _ _ _ _ _ _
      | exact rhizomeref10_Cmp.mono _ _ _
      | exact LeO.none _
      | refine LeO.ite ?_ ?_
      | refine LeO.bind ?_ (fun _ => ?_)
theorem rhizomeref11_Sorted.mono : ∀ a0 k, LeO (rhizomeref11_Sorted.f k a0) (rhizomeref11_Sorted.f (k + 1) a0) := by
  intro a0 k
  obtain ⟨ih0, ih1, ih2, ih3, ih4, ih5⟩ := rhizomeref11_Sorted.mono_l k
  exact ih0 a0
def rhizomeref11_Sorted.T3 : Bool × List (List Nat × List Nat) := (true, [([], []), ([], []), ([1], [1]), ([2], [2]), ([0, 3], [0, 3]), ([4], [4]), ([], []), ([], []), ([7], [7]), ([8], [8]), ([6, 9], [6, 9]), ([10, 5], [10]), ([5, 11, 0, 1, 2, 3, 4, 5], [5]), ([11, 12, 0, 1, 2, 3, 4, 5, 6, 7, 8, 9, 10, 11, 12], [11])])
def rhizomeref11_Sorted.B3 : List Nat := [0, 0, 2, 6, 15, 31, 0, 0, 128, 384, 960, 2047, 4095, 8191]
theorem rhizomeref11_Sorted.tab3 : rtab .any (opsOf Try.f75 3) = rhizomeref11_Sorted.T3 := by kernel_rfl
theorem rhizomeref11_Sorted.bits3 : waitsOk rhizomeref11_Sorted.T3.2 rhizomeref11_Sorted.B3 = true := by kernel_rfl
def rhizomeref11_Sorted.T9 : Bool × List (List Nat × List Nat) := (true, [([], []), ([], []), ([0, 1], [0, 1]), ([2], [2]), ([], []), ([], []), ([4, 5], [4, 5]), ([6], [6]), ([3, 7], [3, 7]), ([8, 8, 0, 1, 2, 3, 4, 5, 6, 7, 8], [8])])
def rhizomeref11_Sorted.B9 : List Nat := [0, 0, 3, 7, 0, 0, 48, 112, 255, 511]
theorem rhizomeref11_Sorted.tab9 : rtab .any (opsOf Try.f75 9) = rhizomeref11_Sorted.T9 := by kernel_rfl
theorem rhizomeref11_Sorted.bits9 : waitsOk rhizomeref11_Sorted.T9.2 rhizomeref11_Sorted.B9 = true := by kernel_rfl
set_option maxHeartbeats 8000000 in
set_option maxRecDepth 100000 in
theorem rhizomeref11_Sorted.calls (k : Nat) : ∀ (P0_ : Nat → Prop) (A0 : Option Addr) (c0 : Nat) (l0 : List (List Int)) (r : List (List Int)) (w : World) (hs0 : Kd.V (Kd.slice 3 (Kd.int .i64)) 75 w w.heap.size (fun k_ => P0_ k_) (.slice A0 l0.length c0) l0) (h : rhizomeref11_Sorted.f k l0 = some r),
    Calls Try.prog 75 #[.slice A0 l0.length c0] w fun e w' => ∃ v0_ : Value, e = .returned (v0_) ∧ Kd.V (Kd.slice 3 (Kd.int .i64)) 75 w' w.heap.size (fun k_ => (P0_ k_ ∨ w.heap.size ≤ k_)) v0_ r ∧ Below w.heap.size w w' := by
  induction k using Nat.strongRecOn with
  | _ k ih =>
  intro P0_ A0 c0 l0 r w hs0 h
  cases k with
  | zero => exact absurd h (by simp [rhizomeref11_Sorted.f])
  | succ k =>
  simp only [rhizomeref11_Sorted.f] at h
  have HO0 := Aside0.mk (show Kd.V (Kd.slice 3 (Kd.int .i64)) 75 w w.heap.size (fun k_ => (P0_ k_ ∨ w.heap.size ≤ k_)) (.slice A0 l0.length c0) l0 from Kd.V_mono hs0 (fun k_ hk => .inl hk))
  have HB := Aside0.mk (Below.refl w.heap.size w)
  have H : (if (l0.length : Int) < 2 then (some l0) else (if 0 ≤ (wrap64 ((l0.length : Int) / 2)) then (if (wrap64 ((l0.length : Int) / 2)) ≤ (l0.length : Int) then ((rhizomeref11_Sorted.f k (l0.take ((wrap64 ((l0.length : Int) / 2)) : Int).toNat)).bind fun t206 => ((rhizomeref11_Sorted.f k (l0.drop ((wrap64 ((l0.length : Int) / 2)) : Int).toNat)).bind fun t214 => (rhizomeref11_Sorted.l0 k t206 t214 ([] : List (List Int)) 0 0))) else (none)) else (none))) = some r := h
  clear h
  by_cases c2 : (l0.length : Int) < 2
  · rw [if_pos c2] at H
    have c2b0 : decide ((l0.length : Int) < 2) = true := decide_eq_true c2
    have c2b1 : decide (l0.length < 2) = true := decide_eq_true (by omega)
    clear c2
    obtain rfl := Option.some.inj H
    go_enter Try.func75, Try.ntmps75
    go_wp2
    go_ret
    exact ⟨_, by first | rfl | (simp [errW_none, errW_some] <;> rfl) | (simp [*, errW_none, errW_some] <;> rfl), by (with_reducible repeat (first | apply Kd.V_alloc | apply Kd.V_drewN | apply Kd.V_drew)); exact HO0.out, by repeat (first | (with_reducible first | exact HB.out | apply below_alloc | apply pw_below_drewN | apply below_drew1) | exact HB.out)⟩
  · rw [if_neg c2] at H
    have c2b0 : decide ((l0.length : Int) < 2) = false := decide_eq_false c2
    have c2b1 : decide (l0.length < 2) = false := decide_eq_false (by omega)
    clear c2
    obtain ⟨ji3, hji3⟩ : ∃ j_ : Int, (wrap64 ((l0.length : Int) / 2)) = j_ := ⟨_, rfl⟩
    replace H : (if 0 ≤ (ji3) then (if (ji3) ≤ (l0.length : Int) then ((rhizomeref11_Sorted.f k (l0.take ((ji3) : Int).toNat)).bind fun t206 => ((rhizomeref11_Sorted.f k (l0.drop ((ji3) : Int).toNat)).bind fun t214 => (rhizomeref11_Sorted.l0 k t206 t214 ([] : List (List Int)) 0 0))) else (none)) else (none)) = some r := by first | (rw [hji3] at H; exact H) | (simp only [hji3] at H ⊢; exact H)
    have hji3w : (IntKind.i64.wrap ((l0.length : Int) / 2)) = ji3 := (i64_w _).trans hji3
    by_cases c4 : 0 ≤ (ji3)
    · rw [if_pos c4] at H
      have c4b0 := eq_true c4
      have c4b1 : decide (0 ≤ (ji3)) = true := decide_eq_true c4
      clear c4
      by_cases c5 : (ji3) ≤ (l0.length : Int)
      · rw [if_pos c5] at H
        have c5b0 := eq_true c5
        have c5b1 : decide ((ji3) ≤ (l0.length : Int)) = true := decide_eq_true c5
        clear c5
        obtain ⟨y201, hy201⟩ : ∃ y_ : List (List Int), y_ = (l0.take ((ji3) : Int).toNat) := ⟨_, rfl⟩
        replace H : ((rhizomeref11_Sorted.f k y201).bind fun t206 => ((rhizomeref11_Sorted.f k (l0.drop ((ji3) : Int).toNat)).bind fun t214 => (rhizomeref11_Sorted.l0 k t206 t214 ([] : List (List Int)) 0 0))) = some r := by first | (rw [hy201]; with_reducible exact H) | (have H2_ := (Option.bind_some _ _).symm.trans H; rw [hy201]; with_reducible exact H2_) | (have H2_ := (Option.bind_some _ _).symm.trans H; with_reducible exact H2_) | with_reducible exact H | (rw [hy201]; exact H) | exact H
        have Ny201 := Aside0.mk hy201
        clear hy201
        replace H := Option.bind_eq_some_iff.mp H
        obtain ⟨t206, A60, H⟩ := H
        replace H : ((rhizomeref11_Sorted.f k (l0.drop ((ji3) : Int).toNat)).bind fun t214 => (rhizomeref11_Sorted.l0 k t206 t214 ([] : List (List Int)) 0 0)) = some r := H
        have A6 := Aside0.mk A60
        clear A60
        have c7b0 := eq_true (of_decide_eq_true (by first | (with_reducible assumption) | assumption) : 0 ≤ (ji3))
        have c8b0 := eq_true (of_decide_eq_true (by first | (with_reducible assumption) | assumption) : (ji3) ≤ (l0.length : Int))
        obtain ⟨y209, hy209⟩ : ∃ y_ : List (List Int), y_ = (l0.drop ((ji3) : Int).toNat) := ⟨_, rfl⟩
        replace H : ((rhizomeref11_Sorted.f k y209).bind fun t214 => (rhizomeref11_Sorted.l0 k t206 t214 ([] : List (List Int)) 0 0)) = some r := by first | (rw [hy209]; with_reducible exact H) | (have H2_ := (Option.bind_some _ _).symm.trans H; rw [hy209]; with_reducible exact H2_) | (have H2_ := (Option.bind_some _ _).symm.trans H; with_reducible exact H2_) | with_reducible exact H | (rw [hy209]; exact H) | exact H
        have Ny209 := Aside0.mk hy209
        clear hy209
        replace H := Option.bind_eq_some_iff.mp H
        obtain ⟨t214, A90, H⟩ := H
        replace H : (rhizomeref11_Sorted.l0 k t206 t214 ([] : List (List Int)) 0 0) = some r := H
        have A9 := Aside0.mk A90
        clear A90
        have H' := Aside0.mk H
        clear H
        go_enter Try.func75, Try.ntmps75
        try go_wp2
        have n0_ := Aside0.mk (Kd.V_drew HO0.out)
        have n1_ := Aside0.mk (below_drew1 HB.out)
        clear HO0
        clear HB
        have HO0 := n0_
        have HB := n1_
        clear n0_ n1_
        have q11 : ((ji3) : Int) ≤ ((l0.length : Int) : Int) := of_decide_eq_true (by first | (with_reducible assumption) | assumption)
        obtain ⟨i011, hi011, _, hsz11, _⟩ := info_parts info75
        have hroom11 : l0.length ≤ c0 := (Kd.V_reads' HO0.out).2.1
        have hC11 : Kd.F (Kd.slice 3 (Kd.int .i64)) _ _ A0 l0.length l0 := (Kd.V_at (base := w.heap.size) HO0.out).2.2
        have hcut11 := cut_to (P := Try.prog) 63 75 .i64 Try.underlying63 hi011 A0 l0.length c0 (ji3) (of_decide_eq_true (by first | (with_reducible assumption) | assumption)) q11 hroom11
        have hr11 := Kd.F_take (m := ((ji3) : Int).toNat) hC11 (by omega)
        have hy11 : y201.length = ((ji3) : Int).toNat := (by rw [Ny201.out, List.length_take]; omega)
        rw [← Ny201.out] at hr11
        rw [← hy11] at hcut11
        have HO205 := Aside0.mk (show Kd.V (Kd.slice 3 (Kd.int .i64)) 75 _ w.heap.size _ (.slice A0 y201.length c0) y201 from Kd.V_mk (by omega) hr11)
        have HC205 := Aside0.mk (show y201.length ≤ c0 from by omega)
        clear hr11 hC11 hroom11 hi011 hsz11
        have KY11 := Aside0.mk hy11
        clear hy11
        replace q11 := eq_true q11
        have q12 : ((ji3) : Int) ≤ ((l0.length : Int) : Int) := of_decide_eq_true (by first | (with_reducible assumption) | assumption)
        obtain ⟨i012, hi012, _, hsz12, _⟩ := info_parts info75
        have hroom12 : l0.length ≤ c0 := (Kd.V_reads' HO0.out).2.1
        have hC12 : Kd.F (Kd.slice 3 (Kd.int .i64)) _ _ A0 l0.length l0 := (Kd.V_at (base := w.heap.size) HO0.out).2.2
        have q012 : (0 : Int) ≤ ((ji3) : Int) := of_decide_eq_true (by first | (with_reducible assumption) | assumption)
        have hcut12 := cut_from (P := Try.prog) 63 75 .i64 Try.underlying63 hi012 1 hsz12 A0 l0.length c0 (ji3) q012 q12
        have hr12 := Kd.F_cut (m := ((ji3) : Int).toNat) (c := c0) hC12 (by omega) hroom12
        obtain ⟨A12, hA12⟩ : ∃ A1, A1 = (if c0 = ((ji3) : Int).toNat then A0 else (A0 : Option Addr).map (·.add (((ji3) : Int).toNat * 1))) := ⟨_, rfl⟩
        obtain ⟨c12, hc12⟩ : ∃ c1, c1 = c0 - ((ji3) : Int).toNat := ⟨_, rfl⟩
        have hy12 : y209.length = l0.length - ((ji3) : Int).toNat := (by rw [Ny209.out, List.length_drop] <;> omega)
        rw [show (l0).drop ((ji3) : Int).toNat = y209 from Ny209.out.symm] at hr12
        replace hr12 : Kd.F (Kd.slice 3 (Kd.int .i64)) _ _ A12 y209.length y209 := (by rw [hA12]; exact hr12)
        rw [← hy12, ← hA12, ← hc12] at hcut12
        have HO213 := Aside0.mk (show Kd.V (Kd.slice 3 (Kd.int .i64)) 75 _ w.heap.size _ (.slice A12 y209.length c12) y209 from Kd.V_mk (by rw [hy12, hc12]; exact Nat.sub_le_sub_right hroom12 _) hr12)
        have HC213 := Aside0.mk (show y209.length ≤ c12 from by rw [hy12, hc12]; exact Nat.sub_le_sub_right hroom12 _)
        clear hr12 hC12 hroom12 hi012 hsz12 hc12
        have KY12 := Aside0.mk hy12
        have KA12 := Aside0.mk hA12
        clear hy12 hA12
        replace q12 := eq_true q12
        refine start_ (n := 14) (S := fun w' => True) (ds := []) #[false, false, false, false, false, false, false, false, false, false, false, false, false, false] (by kernel_rfl) rfl rfl trivial (fun hHeld => ?_); refine with_tabW rhizomeref11_Sorted.tab3 rhizomeref11_Sorted.bits3 (fun HT_ HW_ => ?_)
        generalize w.drew = w10 at HO0 HB HO205 HO213 hHeld ⊢
        refine pure_ (i := 0) (N := some 13) (v := ?_) (a' := ?_) #[true, false, false, false, false, false, false, false, false, false, false, false, false, false] rfl rfl (any_of HT_.out (by kernel_rfl)) (fun _ _ _ h => h) (Or.inl ⟨by rfl, ?_⟩) ?_ ?_
        rotate_left
        · intro w'
          go_simp
          with_reducible rfl
        rotate_left
        · simp only [Act.put, List.setIfInBounds_toArray, List.set_cons_zero, List.set_cons_succ, i64_w, i32_w]
          rfl
        refine pure_ (i := 1) (N := some 14) (v := ?_) (a' := ?_) #[true, true, false, false, false, false, false, false, false, false, false, false, false, false] rfl rfl (any_of HT_.out (by kernel_rfl)) (fun _ _ _ h => h) (Or.inl ⟨by rfl, ?_⟩) ?_ ?_
        rotate_left
        · intro w'
          go_simp
          with_reducible rfl
        rotate_left
        · simp only [Act.put, List.setIfInBounds_toArray, List.set_cons_zero, List.set_cons_succ, i64_w, i32_w]
          rfl
        refine pure_ (i := 2) (N := some 15) (v := ?_) (a' := ?_) #[true, true, true, false, false, false, false, false, false, false, false, false, false, false] rfl rfl (any_of HT_.out (by kernel_rfl)) (fun _ _ _ h => h) (Or.inl ⟨by rfl, ?_⟩) ?_ ?_
        rotate_left
        · intro w'
          go_simp
          with_reducible rfl
        rotate_left
        · simp only [Act.put, List.setIfInBounds_toArray, List.set_cons_zero, List.set_cons_succ, i64_w, i32_w]
          rfl
        refine pure_ (i := 3) (N := some 16) (v := ?_) (a' := ?_) #[true, true, true, true, false, false, false, false, false, false, false, false, false, false] rfl rfl (any_of HT_.out (by kernel_rfl)) (fun _ _ _ h => h) (Or.inl ⟨by rfl, ?_⟩) ?_ ?_
        rotate_left
        · intro w'
          go_simp
          with_reducible rfl
        rotate_left
        · simp only [Act.put, List.setIfInBounds_toArray, List.set_cons_zero, List.set_cons_succ, i64_w, i32_w]
          rfl
        refine pure_ (i := 4) (N := some 17) (v := ?_) (a' := ?_) #[true, true, true, true, true, false, false, false, false, false, false, false, false, false] rfl rfl (any_of HT_.out (by kernel_rfl)) (fun _ _ _ h => h) (Or.inl ⟨by rfl, ?_⟩) ?_ ?_
        rotate_left
        · intro w'
          go_simp
          with_reducible rfl
        rotate_left
        · simp only [Act.put, List.setIfInBounds_toArray, List.set_cons_zero, List.set_cons_succ, i64_w, i32_w]
          rfl
        refine pure_ (i := 6) (N := some 19) (v := ?_) (a' := ?_) #[true, true, true, true, true, false, true, false, false, false, false, false, false, false] rfl rfl (any_of HT_.out (by kernel_rfl)) (fun _ _ _ h => h) (Or.inl ⟨by rfl, ?_⟩) ?_ ?_
        rotate_left
        · intro w'
          go_simp
          with_reducible rfl
        rotate_left
        · simp only [Act.put, List.setIfInBounds_toArray, List.set_cons_zero, List.set_cons_succ, i64_w, i32_w]
          rfl
        refine pure_ (i := 7) (N := some 20) (v := ?_) (a' := ?_) #[true, true, true, true, true, false, true, true, false, false, false, false, false, false] rfl rfl (any_of HT_.out (by kernel_rfl)) (fun _ _ _ h => h) (Or.inl ⟨by rfl, ?_⟩) ?_ ?_
        rotate_left
        · intro w'
          go_simp
          with_reducible rfl
        rotate_left
        · simp only [Act.put, List.setIfInBounds_toArray, List.set_cons_zero, List.set_cons_succ, i64_w, i32_w]
          rfl
        refine pure_ (i := 8) (N := some 21) (v := ?_) (a' := ?_) #[true, true, true, true, true, false, true, true, true, false, false, false, false, false] rfl rfl (any_of HT_.out (by kernel_rfl)) (fun _ _ _ h => h) (Or.inl ⟨by rfl, ?_⟩) ?_ ?_
        rotate_left
        · intro w'
          go_simp
          with_reducible rfl
        rotate_left
        · simp only [Act.put, List.setIfInBounds_toArray, List.set_cons_zero, List.set_cons_succ, i64_w, i32_w]
          rfl
        refine pure_ (i := 9) (N := some 22) (v := ?_) (a' := ?_) #[true, true, true, true, true, false, true, true, true, true, false, false, false, false] rfl rfl (any_of HT_.out (by kernel_rfl)) (fun _ _ _ h => h) (Or.inl ⟨by rfl, ?_⟩) ?_ ?_
        rotate_left
        · intro w'
          go_simp
          with_reducible rfl
        rotate_left
        · simp only [Act.put, List.setIfInBounds_toArray, List.set_cons_zero, List.set_cons_succ, i64_w, i32_w]
          rfl
        refine pure_ (i := 10) (N := some 23) (v := ?_) (a' := ?_) #[true, true, true, true, true, false, true, true, true, true, true, false, false, false] rfl rfl (any_of HT_.out (by kernel_rfl)) (fun _ _ _ h => h) (Or.inl ⟨by rfl, ?_⟩) ?_ ?_
        rotate_left
        · intro w'
          go_simp
          with_reducible rfl
        rotate_left
        · simp only [Act.put, List.setIfInBounds_toArray, List.set_cons_zero, List.set_cons_succ, i64_w, i32_w]
          rfl
        refine one_ (i := 5) (N := some 18) #[true, true, true, true, true, true, true, true, true, true, true, false, false, false] rfl rfl (one_of HT_.out (by kernel_rfl)) (by decide) (fun K hK => ?_)
        refine goes_ Try.func75 (by kernel_rfl) rfl #[.slice A0 y201.length c0] (by rfl) rfl rfl (by (try simp only [List.map_toArray, List.map_cons, List.map_nil]); first | done | rfl | (simp only [List.length_drop, List.length_take]; rfl)) ?_
        with_reducible refine (ih k (by omega) (fun k_ => (P0_ k_ ∨ w.heap.size ≤ k_)) _ _ y201 t206 _ ?side1 A6.out).mono ?_
        (case side1 => exact HO205.out)
        rintro e w13 ⟨v207, rfl, ho0, hb⟩
        refine ⟨_, rfl, ?_⟩
        have n0_ := Aside0.mk (Kd.V_below (by (with_reducible repeat (first | apply Kd.V_alloc | apply Kd.V_drewN | apply Kd.V_drew)); exact HO0.out) hb)
        have n1_ := Aside0.mk (Kd.V_below (by (with_reducible repeat (first | apply Kd.V_alloc | apply Kd.V_drewN | apply Kd.V_drew)); exact HO205.out) hb)
        have n2_ := Aside0.mk (Kd.V_below (by (with_reducible repeat (first | apply Kd.V_alloc | apply Kd.V_drewN | apply Kd.V_drew)); exact HO213.out) hb)
        have n3_ := Aside0.mk (Kd.V_lower (Kd.V_mono (ok' := fun k_ => (P0_ k_ ∨ w.heap.size ≤ k_)) ho0 (fun k_ hk_ => Or.elim hk_ (fun hs_ => hs_) (fun hn_ => (.inr (Nat.le_trans (below_size (by repeat (first | (with_reducible first | exact HB.out | apply below_alloc | apply pw_below_drewN | apply below_drew1) | exact HB.out))) hn_))))) (below_size (by repeat (first | (with_reducible first | exact HB.out | apply below_alloc | apply pw_below_drewN | apply below_drew1) | exact HB.out))))
        have n4_ := Aside0.mk (below_step (by repeat (first | (with_reducible first | exact HB.out | apply below_alloc | apply pw_below_drewN | apply below_drew1) | exact HB.out)) hb)
        clear HO0
        clear HO205
        clear HO213
        clear HB
        have HO0 := n0_
        have HO205 := n1_
        have HO213 := n2_
        have HO208 := n3_
        have HB := n4_
        clear n0_ n1_ n2_ n3_ n4_
        (try clear hb)
        (try clear hb2)
        (try clear hk)
        (try clear hi)
        (try clear ho0)
        refine hK.out _ _ trivial (fun hHeld => ?_)
        clear hK K
        refine norm_ (a' := ?_) ?_ ?_
        rotate_left
        · show Act.put _ (some 18) _ = _
          simp only [Act.put, List.setIfInBounds_toArray, List.set_cons_zero, List.set_cons_succ, i64_w, i32_w]
          rfl
        refine one_ (i := 11) (N := some 24) #[true, true, true, true, true, true, true, true, true, true, true, true, false, false] rfl rfl (one_of HT_.out (by kernel_rfl)) (by decide) (fun K hK => ?_)
        refine goes_ Try.func75 (by kernel_rfl) rfl #[.slice A12 y209.length c12] (by rfl) rfl rfl (by (try simp only [List.map_toArray, List.map_cons, List.map_nil]); first | done | rfl | (simp only [List.length_drop, List.length_take]; rfl)) ?_
        with_reducible refine (ih k (by omega) (fun k_ => (P0_ k_ ∨ w.heap.size ≤ k_)) _ _ y209 t214 _ ?side1 A9.out).mono ?_
        (case side1 => exact HO213.out)
        rintro e w14 ⟨v215, rfl, ho0, hb⟩
        refine ⟨_, rfl, ?_⟩
        have n0_ := Aside0.mk (Kd.V_below (by (with_reducible repeat (first | apply Kd.V_alloc | apply Kd.V_drewN | apply Kd.V_drew)); exact HO0.out) hb)
        have n1_ := Aside0.mk (Kd.V_below (by (with_reducible repeat (first | apply Kd.V_alloc | apply Kd.V_drewN | apply Kd.V_drew)); exact HO205.out) hb)
        have n2_ := Aside0.mk (Kd.V_below (by (with_reducible repeat (first | apply Kd.V_alloc | apply Kd.V_drewN | apply Kd.V_drew)); exact HO213.out) hb)
        have n3_ := Aside0.mk (Kd.V_below (by (with_reducible repeat (first | apply Kd.V_alloc | apply Kd.V_drewN | apply Kd.V_drew)); exact HO208.out) hb)
        have n4_ := Aside0.mk (Kd.V_lower (Kd.V_mono (ok' := fun k_ => (P0_ k_ ∨ w.heap.size ≤ k_)) ho0 (fun k_ hk_ => Or.elim hk_ (fun hs_ => hs_) (fun hn_ => (.inr (Nat.le_trans (below_size (by repeat (first | (with_reducible first | exact HB.out | apply below_alloc | apply pw_below_drewN | apply below_drew1) | exact HB.out))) hn_))))) (below_size (by repeat (first | (with_reducible first | exact HB.out | apply below_alloc | apply pw_below_drewN | apply below_drew1) | exact HB.out))))
        have n5_ := Aside0.mk (below_step (by repeat (first | (with_reducible first | exact HB.out | apply below_alloc | apply pw_below_drewN | apply below_drew1) | exact HB.out)) hb)
        clear HO0
        clear HO205
        clear HO213
        clear HO208
        clear HB
        have HO0 := n0_
        have HO205 := n1_
        have HO213 := n2_
        have HO208 := n3_
        have HO216 := n4_
        have HB := n5_
        clear n0_ n1_ n2_ n3_ n4_ n5_
        (try clear hb)
        (try clear hb2)
        (try clear hk)
        (try clear hi)
        (try clear ho0)
        refine hK.out _ _ trivial (fun hHeld => ?_)
        clear hK K
        refine norm_ (a' := ?_) ?_ ?_
        rotate_left
        · show Act.put _ (some 24) _ = _
          simp only [Act.put, List.setIfInBounds_toArray, List.set_cons_zero, List.set_cons_succ, i64_w, i32_w]
          rfl
        refine pure_ (i := 12) (N := some 3) (v := ?_) (a' := ?_) #[true, true, true, true, true, true, true, true, true, true, true, true, true, false] rfl rfl (any_of HT_.out (by kernel_rfl)) (fun _ _ _ h => h) (Or.inl ⟨by rfl, ?_⟩) ?_ ?_
        rotate_left
        · intro w'
          go_simp
          with_reducible rfl
        rotate_left
        · simp only [Act.put, List.setIfInBounds_toArray, List.set_cons_zero, List.set_cons_succ, i64_w, i32_w]
          rfl
        refine pure_ (i := 13) (N := some 4) (v := ?_) (a' := ?_) #[true, true, true, true, true, true, true, true, true, true, true, true, true, true] rfl rfl (any_of HT_.out (by kernel_rfl)) (fun _ _ _ h => h) (Or.inl ⟨by rfl, ?_⟩) ?_ ?_
        rotate_left
        · intro w'
          go_simp
          with_reducible rfl
        rotate_left
        · simp only [Act.put, List.setIfInBounds_toArray, List.set_cons_zero, List.set_cons_succ, i64_w, i32_w]
          rfl
        refine done_ (done_of HT_.out (by kernel_rfl)) ?_
        try go_wp2
        go_loopg [5, 6, 7] k (fun kq v5 v6 v7 w' => ∃ (x5_1 : List (List Int)) (x6_1 : Int) (x7_1 : Int), v6 = .int .i64 x6_1 ∧ v7 = .int .i64 x7_1 ∧ Aside0 (rhizomeref11_Sorted.l0 kq t206 t214 x5_1 x6_1 x7_1 = some r) ∧ Aside0 (kq ≤ k) ∧ Aside0 (Kd.V (Kd.slice 3 (Kd.int .i64)) 75 w' w.heap.size (fun k_ => (P0_ k_ ∨ w.heap.size ≤ k_) ∧ some k_ ≠ (v5 : Value).ownBlock) v207 t206) ∧ Aside0 (Kd.V (Kd.slice 3 (Kd.int .i64)) 75 w' w.heap.size (fun k_ => (P0_ k_ ∨ w.heap.size ≤ k_) ∧ some k_ ≠ (v5 : Value).ownBlock) v215 t214) ∧ Aside0 (Kd.N (Kd.slice 3 (Kd.int .i64)) 75 w' w.heap.size (fun k_ => (P0_ k_ ∨ w.heap.size ≤ k_)) v5 x5_1) ∧ Aside0 (Below w.heap.size w w'))
        case atStart => exact ⟨(([] : List (List Int))), (0), (0), (by first | rfl | (simp; done) | (simp [*]; done)), (by first | rfl | (simp; done) | (simp [*]; done)), H', ⟨Nat.le_refl _⟩, ⟨by (with_reducible repeat (first | apply Kd.V_alloc | apply Kd.V_drewN | apply Kd.V_drew)); exact Kd.V_mono HO208.out (fun _ hk => ⟨hk, (by simp [Value.ownBlock])⟩)⟩, ⟨by (with_reducible repeat (first | apply Kd.V_alloc | apply Kd.V_drewN | apply Kd.V_drew)); exact Kd.V_mono HO216.out (fun _ hk => ⟨hk, (by simp [Value.ownBlock])⟩)⟩, ⟨by first | exact Kd.S_nil _ _ _ _ _ | exact Kd.N_nil _ _ _ _ _ | exact Kd.V_nil _ _ _ _ _ | exact Kd.Q_nil _ _ _ _ _ | exact Kd.R_nil _ _ _ _ _⟩, ⟨by repeat (first | (with_reducible first | exact HB.out | apply below_alloc | apply pw_below_drewN | apply below_drew1) | exact HB.out)⟩⟩
        case round =>
          clear H'
          try clear c1
          try clear q1
          try clear c2
          try clear c2b0
          try clear c2b1
          try clear p2
          try clear c4
          try clear c4b0
          try clear c4b1
          try clear c5
          try clear c5b0
          try clear c5b1
          try clear p6
          try clear c7
          try clear c7b0
          try clear c8
          try clear c8b0
          try clear q11
          try clear c12
          try clear q12
          try clear q012
          try clear q11
          try clear q12
          obtain ⟨x5_1, x6_1, x7_1, rfl, rfl, HA, HK1, HO_3, HO_4, HO_5, HB⟩ := hrel
          cases gk with
          | zero => exact absurd HA.out (by simp [rhizomeref11_Sorted.l0])
          | succ k1 =>
            have H := HA.out
            clear HA
            simp only [rhizomeref11_Sorted.l0] at H
            have HC15 := Aside0.mk H
            clear H
            go_upto_region 6 with (fail)
            go_cut [34] (fun v34 wc => ∃ (kq : Nat) (x34_14 : Bool), v34 = .bool x34_14 ∧ Aside0 (rhizomeref11_Sorted.j1 kq t206 t214 x5_1 x6_1 x7_1 x34_14 = some r) ∧ Aside0 (kq ≤ k1) ∧ Aside0 (Kd.V (Kd.slice 3 (Kd.int .i64)) 75 wc w.heap.size (fun k_ => (P0_ k_ ∨ w.heap.size ≤ k_) ∧ some k_ ≠ (u5 : Value).ownBlock) v207 t206) ∧ Aside0 (Kd.V (Kd.slice 3 (Kd.int .i64)) 75 wc w.heap.size (fun k_ => (P0_ k_ ∨ w.heap.size ≤ k_) ∧ some k_ ≠ (u5 : Value).ownBlock) v215 t214) ∧ Aside0 (Kd.N (Kd.slice 3 (Kd.int .i64)) 75 wc w.heap.size (fun k_ => (P0_ k_ ∨ w.heap.size ≤ k_)) u5 x5_1) ∧ Aside0 (Below w.heap.size w wc))
            case first =>
              have H := HC15.out
              clear HC15
              by_cases c16 : x6_1 < (t206.length : Int)
              · rw [if_pos c16] at H
                have c16b0 : decide (x6_1 < (t206.length : Int)) = true := decide_eq_true c16
                clear c16
                (first | rw [c16b0] | (simp only [i64_w, i32_w]; rw [c16b0]) | skip)
                have H' := Aside0.mk H
                clear H
                obtain ⟨Ao17, co17, eo17⟩ := Kd.V_slice HO_3.out
                subst eo17
                go_wp2
                go_meet
                case rel => exact ⟨_, (true), (by first | rfl | (simp; done) | (simp [*]; done)), H', ⟨by have := HK1.out; first | omega | exact Nat.le_refl _⟩, ⟨by (with_reducible repeat (first | apply Kd.V_alloc | apply Kd.V_drewN | apply Kd.V_drew)); exact HO_3.out⟩, ⟨by (with_reducible repeat (first | apply Kd.V_alloc | apply Kd.V_drewN | apply Kd.V_drew)); exact HO_4.out⟩, ⟨by (with_reducible repeat (first | apply Kd.N_alloc | apply Kd.N_drewN | apply Kd.N_drew)); exact HO_5.out⟩, ⟨by repeat (first | (with_reducible first | exact HB.out | apply below_alloc | apply pw_below_drewN | apply below_drew1) | exact HB.out)⟩⟩
              · rw [if_neg c16] at H
                have c16b0 : decide (x6_1 < (t206.length : Int)) = false := decide_eq_false c16
                clear c16
                (first | rw [c16b0] | (simp only [i64_w, i32_w]; rw [c16b0]) | skip)
                have H' := Aside0.mk H
                clear H
                obtain ⟨Ao18, co18, eo18⟩ := Kd.V_slice HO_3.out
                subst eo18
                obtain ⟨Ao19, co19, eo19⟩ := Kd.V_slice HO_4.out
                subst eo19
                go_wp2
                go_meet
                case rel => exact ⟨_, (decide (x7_1 < (t214.length : Int))), (by first | rfl | (simp; done) | (simp [*]; done)), H', ⟨by have := HK1.out; first | omega | exact Nat.le_refl _⟩, ⟨by (with_reducible repeat (first | apply Kd.V_alloc | apply Kd.V_drewN | apply Kd.V_drew)); exact HO_3.out⟩, ⟨by (with_reducible repeat (first | apply Kd.V_alloc | apply Kd.V_drewN | apply Kd.V_drew)); exact HO_4.out⟩, ⟨by (with_reducible repeat (first | apply Kd.N_alloc | apply Kd.N_drewN | apply Kd.N_drew)); exact HO_5.out⟩, ⟨by repeat (first | (with_reducible first | exact HB.out | apply below_alloc | apply pw_below_drewN | apply below_drew1) | exact HB.out)⟩⟩
            case rest =>
              clear HC15
              try clear c1
              try clear q1
              try clear c2
              try clear c2b0
              try clear c2b1
              try clear p2
              try clear c4
              try clear c4b0
              try clear c4b1
              try clear c5
              try clear c5b0
              try clear c5b1
              try clear p6
              try clear c7
              try clear c7b0
              try clear c8
              try clear c8b0
              try clear q11
              try clear c12
              try clear q12
              try clear c16
              try clear c16b0
              try clear p2
              try clear p6
              try clear q012
              try clear q1
              try clear q11
              try clear q12
              obtain ⟨kq, x34_14, rfl, HA, HJ14, HO_3, HO_4, HO_5, HB⟩ := hcut
              cases kq with
              | zero => exact absurd HA.out (by simp [rhizomeref11_Sorted.j1])
              | succ kj14 =>
                have H := HA.out
                clear HA
                simp only [rhizomeref11_Sorted.j1] at H
                by_cases c20 : x34_14 = true
                · subst c20
                  have H1 : (if x6_1 < (t206.length : Int) then (rhizomeref11_Sorted.j2 kj14 t206 t214 x5_1 x6_1 x7_1 0 (decide (x7_1 < (t214.length : Int)))) else (rhizomeref11_Sorted.j2 kj14 t206 t214 x5_1 x6_1 x7_1 0 false)) = some r := by rw [if_pos rfl] at H; exact H
                  clear H
                  have H := H1
                  clear H1
                  have HC21 := Aside0.mk H
                  clear H
                  go_upto_region 8 with (fail)
                  go_cut [44] (fun v44 wc => ∃ (kq : Nat) (x44_20 : Bool), v44 = .bool x44_20 ∧ Aside0 (rhizomeref11_Sorted.j2 kq t206 t214 x5_1 x6_1 x7_1 0 x44_20 = some r) ∧ Aside0 (kq ≤ kj14) ∧ Aside0 (Kd.V (Kd.slice 3 (Kd.int .i64)) 75 wc w.heap.size (fun k_ => (P0_ k_ ∨ w.heap.size ≤ k_) ∧ some k_ ≠ (u5 : Value).ownBlock) v207 t206) ∧ Aside0 (Kd.V (Kd.slice 3 (Kd.int .i64)) 75 wc w.heap.size (fun k_ => (P0_ k_ ∨ w.heap.size ≤ k_) ∧ some k_ ≠ (u5 : Value).ownBlock) v215 t214) ∧ Aside0 (Kd.N (Kd.slice 3 (Kd.int .i64)) 75 wc w.heap.size (fun k_ => (P0_ k_ ∨ w.heap.size ≤ k_)) u5 x5_1) ∧ Aside0 (Below w.heap.size w wc))
                  case first =>
                    have H := HC21.out
                    clear HC21
                    by_cases c22 : x6_1 < (t206.length : Int)
                    · rw [if_pos c22] at H
                      have c22b0 : decide (x6_1 < (t206.length : Int)) = true := decide_eq_true c22
                      clear c22
                      (first | rw [c22b0] | (simp only [i64_w, i32_w]; rw [c22b0]) | skip)
                      have H' := Aside0.mk H
                      clear H
                      obtain ⟨Ao23, co23, eo23⟩ := Kd.V_slice HO_3.out
                      subst eo23
                      obtain ⟨Ao24, co24, eo24⟩ := Kd.V_slice HO_4.out
                      subst eo24
                      go_wp2
                      go_meet
                      case rel => exact ⟨_, (decide (x7_1 < (t214.length : Int))), (by first | rfl | (simp; done) | (simp [*]; done)), H', ⟨by have := HK1.out; have := HJ14.out; first | omega | exact Nat.le_refl _⟩, ⟨by (with_reducible repeat (first | apply Kd.V_alloc | apply Kd.V_drewN | apply Kd.V_drew)); exact HO_3.out⟩, ⟨by (with_reducible repeat (first | apply Kd.V_alloc | apply Kd.V_drewN | apply Kd.V_drew)); exact HO_4.out⟩, ⟨by (with_reducible repeat (first | apply Kd.N_alloc | apply Kd.N_drewN | apply Kd.N_drew)); exact HO_5.out⟩, ⟨by repeat (first | (with_reducible first | exact HB.out | apply below_alloc | apply pw_below_drewN | apply below_drew1) | exact HB.out)⟩⟩
                    · rw [if_neg c22] at H
                      have c22b0 : decide (x6_1 < (t206.length : Int)) = false := decide_eq_false c22
                      clear c22
                      (first | rw [c22b0] | (simp only [i64_w, i32_w]; rw [c22b0]) | skip)
                      have H' := Aside0.mk H
                      clear H
                      obtain ⟨Ao25, co25, eo25⟩ := Kd.V_slice HO_3.out
                      subst eo25
                      go_wp2
                      go_meet
                      case rel => exact ⟨_, (false), (by first | rfl | (simp; done) | (simp [*]; done)), H', ⟨by have := HK1.out; have := HJ14.out; first | omega | exact Nat.le_refl _⟩, ⟨by (with_reducible repeat (first | apply Kd.V_alloc | apply Kd.V_drewN | apply Kd.V_drew)); exact HO_3.out⟩, ⟨by (with_reducible repeat (first | apply Kd.V_alloc | apply Kd.V_drewN | apply Kd.V_drew)); exact HO_4.out⟩, ⟨by (with_reducible repeat (first | apply Kd.N_alloc | apply Kd.N_drewN | apply Kd.N_drew)); exact HO_5.out⟩, ⟨by repeat (first | (with_reducible first | exact HB.out | apply below_alloc | apply pw_below_drewN | apply below_drew1) | exact HB.out)⟩⟩
                  case rest =>
                    clear HC21
                    try clear c1
                    try clear q1
                    try clear c2
                    try clear c2b0
                    try clear c2b1
                    try clear p2
                    try clear c4
                    try clear c4b0
                    try clear c4b1
                    try clear c5
                    try clear c5b0
                    try clear c5b1
                    try clear p6
                    try clear c7
                    try clear c7b0
                    try clear c8
                    try clear c8b0
                    try clear q11
                    try clear c12
                    try clear q12
                    try clear c16
                    try clear c16b0
                    try clear c20
                    try clear c22
                    try clear c22b0
                    try clear p2
                    try clear p6
                    try clear q012
                    try clear q1
                    try clear q11
                    try clear q12
                    obtain ⟨kq, x44_20, rfl, HA, HJ20, HO_3, HO_4, HO_5, HB⟩ := hcut
                    cases kq with
                    | zero => exact absurd HA.out (by simp [rhizomeref11_Sorted.j2])
                    | succ kj20 =>
                      have H := HA.out
                      clear HA
                      simp only [rhizomeref11_Sorted.j2] at H
                      have HC26 := Aside0.mk H
                      clear H
                      go_upto_if 44 with (fail)
                      go_cut [8] (fun v8 wc => ∃ (kq : Nat) (x8_25 : Int), v8 = .int .i64 x8_25 ∧ Aside0 (rhizomeref11_Sorted.j3 kq t206 t214 x5_1 x6_1 x7_1 x8_25 = some r) ∧ Aside0 (kq ≤ kj20) ∧ Aside0 (Kd.V (Kd.slice 3 (Kd.int .i64)) 75 wc w.heap.size (fun k_ => (P0_ k_ ∨ w.heap.size ≤ k_) ∧ some k_ ≠ (u5 : Value).ownBlock) v207 t206) ∧ Aside0 (Kd.V (Kd.slice 3 (Kd.int .i64)) 75 wc w.heap.size (fun k_ => (P0_ k_ ∨ w.heap.size ≤ k_) ∧ some k_ ≠ (u5 : Value).ownBlock) v215 t214) ∧ Aside0 (Kd.N (Kd.slice 3 (Kd.int .i64)) 75 wc w.heap.size (fun k_ => (P0_ k_ ∨ w.heap.size ≤ k_)) u5 x5_1) ∧ Aside0 (Below w.heap.size w wc))
                      case first =>
                        have H := HC26.out
                        clear HC26
                        by_cases c27 : x44_20 = true
                        · subst c27
                          have H1 : (if 0 ≤ x6_1 then (if x6_1 < (t206.length : Int) then (if 0 ≤ x7_1 then (if x7_1 < (t214.length : Int) then ((rhizomeref10_Cmp.f kj20 (rd_L4 t206 x6_1) (rd_L4 t214 x7_1)).bind fun t219 => (rhizomeref11_Sorted.j3 kj20 t206 t214 x5_1 x6_1 x7_1 t219)) else (none)) else (none)) else (none)) else (none)) = some r := by rw [if_pos rfl] at H; exact H
                          clear H
                          have H := H1
                          clear H1
                          by_cases c28 : 0 ≤ x6_1
                          · rw [if_pos c28] at H
                            have c28b0 : decide (0 ≤ x6_1) = true := decide_eq_true c28
                            clear c28
                            (first | rw [c28b0] | (simp only [i64_w, i32_w]; rw [c28b0]) | skip)
                            by_cases c29 : x6_1 < (t206.length : Int)
                            · rw [if_pos c29] at H
                              have c29b0 : decide (x6_1 < (t206.length : Int)) = true := decide_eq_true c29
                              clear c29
                              by_cases c30 : 0 ≤ x7_1
                              · rw [if_pos c30] at H
                                have c30b0 : decide (0 ≤ x7_1) = true := decide_eq_true c30
                                clear c30
                                by_cases c31 : x7_1 < (t214.length : Int)
                                · rw [if_pos c31] at H
                                  have c31b0 : decide (x7_1 < (t214.length : Int)) = true := decide_eq_true c31
                                  clear c31
                                  replace H := Option.bind_eq_some_iff.mp H
                                  obtain ⟨t219, A320, H⟩ := H
                                  replace H : (rhizomeref11_Sorted.j3 kj20 t206 t214 x5_1 x6_1 x7_1 t219) = some r := H
                                  have A32 := Aside0.mk A320
                                  clear A320
                                  have H' := Aside0.mk H
                                  clear H
                                  try go_wp2
                                  have n0_ := Aside0.mk (Kd.V_drew HO_3.out)
                                  have n1_ := Aside0.mk (Kd.V_drew HO_4.out)
                                  have n2_ := Aside0.mk (Kd.N_drew HO_5.out)
                                  have n3_ := Aside0.mk (below_drew1 HB.out)
                                  clear HO_3
                                  clear HO_4
                                  clear HO_5
                                  clear HB
                                  have HO_3 := n0_
                                  have HO_4 := n1_
                                  have HO_5 := n2_
                                  have HB := n3_
                                  clear n0_ n1_ n2_ n3_
                                  obtain ⟨Ao34, co34, eo34⟩ := Kd.V_slice HO_3.out
                                  (first | subst eo34 | (injection eo34 with f1_ f2_ f3_; have f4_ := f1_.symm; have f5_ := f3_.symm; clear f1_ f2_ f3_; subst f4_; subst f5_))
                                  have p217 : 0 ≤ (x6_1 : Int) := of_decide_eq_true (by first | (with_reducible assumption) | assumption)
                                  have q217 : x6_1 < (t206.length : Int) := of_decide_eq_true (by first | (with_reducible assumption) | assumption)
                                  obtain ⟨ad217, A217_0, c217_0, e217, hx217_0, hl217_0, hi217_0⟩ := at_L4 (Kd.V_reads' HO_3.out).2.2 x6_1 p217 q217
                                  cases e217
                                  obtain ⟨ce217, hce217, hMe217, hcc217⟩ := Kd.V_get HO_3.out [] x6_1 p217 (by first | exact q217 | exact of_decide_eq_true (by first | (with_reducible assumption) | assumption) | (have e_ := (Kd.V_reads' HO_3.out).1; omega))
                                  obtain ⟨ua217_0, uc217_0, rfl, ul217_0, ge217_0⟩ := Kd.FK_slice_open hMe217
                                  have hv217_0 := hcc217 0 _ rfl
                                  rw [Nat.add_zero, show ((Kd.slice 3 (Kd.int .i64))).sz = 1 from rfl, Nat.mul_one] at hv217_0
                                  replace hv217_0 := Option.some.inj (hv217_0.symm.trans hx217_0)
                                  injection hv217_0 with hva_ hvn_ hvc_
                                  rw [hva_] at ge217_0
                                  rw [hvc_] at ul217_0
                                  have HL217_0 := Aside0.mk (show Kd.V (Kd.int .i64) 3 _ w.heap.size _ _ (rd_L4 t206 x6_1) from Kd.V_mk ul217_0 ge217_0)
                                  clear hva_ hvn_ hvc_ ge217_0 ul217_0
                                  clear hcc217 hce217
                                  have HR217_0 := Aside0.mk hi217_0
                                  have HC217_0 := Aside0.mk hl217_0
                                  clear hi217_0 hl217_0
                                  replace p217 := eq_true p217
                                  replace q217 := eq_true q217
                                  obtain ⟨Ao35, co35, eo35⟩ := Kd.V_slice HO_4.out
                                  (first | subst eo35 | (injection eo35 with f1_ f2_ f3_; have f4_ := f1_.symm; have f5_ := f3_.symm; clear f1_ f2_ f3_; subst f4_; subst f5_))
                                  have p218 : 0 ≤ (x7_1 : Int) := of_decide_eq_true (by first | (with_reducible assumption) | assumption)
                                  have q218 : x7_1 < (t214.length : Int) := of_decide_eq_true (by first | (with_reducible assumption) | assumption)
                                  obtain ⟨ad218, A218_0, c218_0, e218, hx218_0, hl218_0, hi218_0⟩ := at_L4 (Kd.V_reads' HO_4.out).2.2 x7_1 p218 q218
                                  cases e218
                                  obtain ⟨ce218, hce218, hMe218, hcc218⟩ := Kd.V_get HO_4.out [] x7_1 p218 (by first | exact q218 | exact of_decide_eq_true (by first | (with_reducible assumption) | assumption) | (have e_ := (Kd.V_reads' HO_4.out).1; omega))
                                  obtain ⟨ua218_0, uc218_0, rfl, ul218_0, ge218_0⟩ := Kd.FK_slice_open hMe218
                                  have hv218_0 := hcc218 0 _ rfl
                                  rw [Nat.add_zero, show ((Kd.slice 3 (Kd.int .i64))).sz = 1 from rfl, Nat.mul_one] at hv218_0
                                  replace hv218_0 := Option.some.inj (hv218_0.symm.trans hx218_0)
                                  injection hv218_0 with hva_ hvn_ hvc_
                                  rw [hva_] at ge218_0
                                  rw [hvc_] at ul218_0
                                  have HL218_0 := Aside0.mk (show Kd.V (Kd.int .i64) 3 _ w.heap.size _ _ (rd_L4 t214 x7_1) from Kd.V_mk ul218_0 ge218_0)
                                  clear hva_ hvn_ hvc_ ge218_0 ul218_0
                                  clear hcc218 hce218
                                  have HR218_0 := Aside0.mk hi218_0
                                  have HC218_0 := Aside0.mk hl218_0
                                  clear hi218_0 hl218_0
                                  replace p218 := eq_true p218
                                  replace q218 := eq_true q218
                                  refine start_ (n := 10) (S := fun w' => w'.cell? (ad217.add (x6_1).toNat) = some (.slice A217_0 (rd_L4 t206 x6_1).length c217_0) ∧ w'.cell? (ad218.add (x7_1).toNat) = some (.slice A218_0 (rd_L4 t214 x7_1).length c218_0)) (ds := []) #[false, false, false, false, false, false, false, false, false, false] (by kernel_rfl) rfl rfl ⟨hx217_0, hx218_0⟩ (fun hHeld => ?_); refine with_tabW rhizomeref11_Sorted.tab9 rhizomeref11_Sorted.bits9 (fun HT_ HW_ => ?_)
                                  generalize wc.drew = w33 at HO_3 HO_4 HO_5 HB HL217_0 HL218_0 HR217_0 HR218_0 hx217_0 hx218_0 hHeld ⊢
                                  refine pure_ (i := 0) (N := some 45) (v := ?_) (a' := ?_) #[true, false, false, false, false, false, false, false, false, false] rfl rfl (any_of HT_.out (by kernel_rfl)) (fun _ _ _ h => h) (Or.inl ⟨by rfl, ?_⟩) ?_ ?_
                                  rotate_left
                                  · intro w'
                                    go_simp
                                    with_reducible rfl
                                  rotate_left
                                  · simp only [Act.put, List.setIfInBounds_toArray, List.set_cons_zero, List.set_cons_succ, i64_w, i32_w]
                                    rfl
                                  refine pure_ (i := 1) (N := some 46) (v := ?_) (a' := ?_) #[true, true, false, false, false, false, false, false, false, false] rfl rfl (any_of HT_.out (by kernel_rfl)) (fun _ _ _ h => h) (Or.inl ⟨by rfl, ?_⟩) ?_ ?_
                                  rotate_left
                                  · intro w'
                                    go_simp
                                    with_reducible rfl
                                  rotate_left
                                  · simp only [Act.put, List.setIfInBounds_toArray, List.set_cons_zero, List.set_cons_succ, i64_w, i32_w]
                                    rfl
                                  refine pure_ (i := 2) (N := some 47) (v := ?_) (a' := ?_) #[true, true, true, false, false, false, false, false, false, false] rfl rfl (any_of HT_.out (by kernel_rfl)) (fun _ _ _ h => h) (Or.inl ⟨by rfl, ?_⟩) ?_ ?_
                                  rotate_left
                                  · intro w'
                                    go_simp
                                    with_reducible rfl
                                  rotate_left
                                  · simp only [Act.put, List.setIfInBounds_toArray, List.set_cons_zero, List.set_cons_succ, i64_w, i32_w]
                                    rfl
                                  refine pure_ (i := 4) (N := some 49) (v := ?_) (a' := ?_) #[true, true, true, false, true, false, false, false, false, false] rfl rfl (any_of HT_.out (by kernel_rfl)) (fun _ _ _ h => h) (Or.inl ⟨by rfl, ?_⟩) ?_ ?_
                                  rotate_left
                                  · intro w'
                                    go_simp
                                    with_reducible rfl
                                  rotate_left
                                  · simp only [Act.put, List.setIfInBounds_toArray, List.set_cons_zero, List.set_cons_succ, i64_w, i32_w]
                                    rfl
                                  refine pure_ (i := 5) (N := some 50) (v := ?_) (a' := ?_) #[true, true, true, false, true, true, false, false, false, false] rfl rfl (any_of HT_.out (by kernel_rfl)) (fun _ _ _ h => h) (Or.inl ⟨by rfl, ?_⟩) ?_ ?_
                                  rotate_left
                                  · intro w'
                                    go_simp
                                    with_reducible rfl
                                  rotate_left
                                  · simp only [Act.put, List.setIfInBounds_toArray, List.set_cons_zero, List.set_cons_succ, i64_w, i32_w]
                                    rfl
                                  refine pure_ (i := 6) (N := some 51) (v := ?_) (a' := ?_) #[true, true, true, false, true, true, true, false, false, false] rfl rfl (any_of HT_.out (by kernel_rfl)) (fun _ _ _ h => h) (Or.inl ⟨by rfl, ?_⟩) ?_ ?_
                                  rotate_left
                                  · intro w'
                                    go_simp
                                    with_reducible rfl
                                  rotate_left
                                  · simp only [Act.put, List.setIfInBounds_toArray, List.set_cons_zero, List.set_cons_succ, i64_w, i32_w]
                                    rfl
                                  refine take_ (i := 3) (N := some 48) (v := ?_) (a' := ?_) #[true, true, true, true, true, true, true, false, false, false] rfl rfl (take_ofW HT_.out HW_.out (by kernel_rfl)) (fun _ _ _ h => h) (Or.inl ⟨by rfl, ?_⟩) hHeld ?_ ?_
                                  rotate_left
                                  · rintro w' ⟨s0, s1⟩
                                    go_simp
                                    with_reducible rfl
                                  rotate_left
                                  · simp only [Act.put, List.setIfInBounds_toArray, List.set_cons_zero, List.set_cons_succ, i64_w, i32_w]
                                    rfl
                                  refine take_ (i := 7) (N := some 52) (v := ?_) (a' := ?_) #[true, true, true, true, true, true, true, true, false, false] rfl rfl (take_ofW HT_.out HW_.out (by kernel_rfl)) (fun _ _ _ h => h) (Or.inl ⟨by rfl, ?_⟩) hHeld ?_ ?_
                                  rotate_left
                                  · rintro w' ⟨s0, s1⟩
                                    go_simp
                                    with_reducible rfl
                                  rotate_left
                                  · simp only [Act.put, List.setIfInBounds_toArray, List.set_cons_zero, List.set_cons_succ, i64_w, i32_w]
                                    rfl
                                  refine one_ (i := 8) (N := some 53) #[true, true, true, true, true, true, true, true, true, false] rfl rfl (one_of HT_.out (by kernel_rfl)) (by decide) (fun K hK => ?_)
                                  refine goes_ Try.func76 (by kernel_rfl) rfl #[.slice A217_0 (rd_L4 t206 x6_1).length c217_0, .slice A218_0 (rd_L4 t214 x7_1).length c218_0] (by rfl) rfl rfl (by (try simp only [List.map_toArray, List.map_cons, List.map_nil]); first | done | rfl | (simp only [List.length_drop, List.length_take]; rfl)) ?_
                                  with_reducible refine (rhizomeref10_Cmp.calls kj20 _ _ (rd_L4 t206 x6_1) _ _ (rd_L4 t214 x7_1) t219 _ ?side1 ?side2 ?side3 ?side4 A32.out).mono ?_
                                  (case side1 => repeat (first | exact (by repeat (first | (with_reducible exact HR217_0.out) | (with_reducible refine Kd.C_alloc ?_ _) | (with_reducible refine Kd.C_drewN ?_ _) | (with_reducible refine Kd.C_drew ?_) | exact HR217_0.out)) | (with_reducible refine Kd.C_alloc ?_ _) | (with_reducible refine Kd.C_drewN ?_ _) | (with_reducible refine Kd.C_drew ?_)))
                                  (case side2 => exact HC217_0.out)
                                  (case side3 => repeat (first | exact (by repeat (first | (with_reducible exact HR218_0.out) | (with_reducible refine Kd.C_alloc ?_ _) | (with_reducible refine Kd.C_drewN ?_ _) | (with_reducible refine Kd.C_drew ?_) | exact HR218_0.out)) | (with_reducible refine Kd.C_alloc ?_ _) | (with_reducible refine Kd.C_drewN ?_ _) | (with_reducible refine Kd.C_drew ?_)))
                                  (case side4 => exact HC218_0.out)
                                  rintro e w' ⟨rfl, ⟨nd, rfl⟩⟩
                                  refine ⟨_, rfl, ?_⟩
                                  refine hK.out _ _ ⟨hHeld.1, hHeld.2⟩ (fun hHeld => ?_)
                                  clear hK K
                                  refine norm_ (a' := ?_) ?_ ?_
                                  rotate_left
                                  · show Act.put _ (some 53) _ = _
                                    simp only [Act.put, List.setIfInBounds_toArray, List.set_cons_zero, List.set_cons_succ, i64_w, i32_w]
                                    rfl
                                  refine pure_ (i := 9) (N := some 8) (v := ?_) (a' := ?_) #[true, true, true, true, true, true, true, true, true, true] rfl rfl (any_of HT_.out (by kernel_rfl)) (fun _ _ _ h => h) (Or.inl ⟨by rfl, ?_⟩) ?_ ?_
                                  rotate_left
                                  · intro w'
                                    go_simp
                                    with_reducible rfl
                                  rotate_left
                                  · simp only [Act.put, List.setIfInBounds_toArray, List.set_cons_zero, List.set_cons_succ, i64_w, i32_w]
                                    rfl
                                  refine done_ (done_of HT_.out (by kernel_rfl)) ?_
                                  try go_wp2
                                  go_meet
                                  case rel => exact ⟨_, (t219), (by first | rfl | (simp; done) | (simp [*]; done)), H', ⟨by have := HK1.out; have := HJ14.out; have := HJ20.out; first | omega | exact Nat.le_refl _⟩, ⟨by (with_reducible repeat (first | apply Kd.V_alloc | apply Kd.V_drewN | apply Kd.V_drew)); exact HO_3.out⟩, ⟨by (with_reducible repeat (first | apply Kd.V_alloc | apply Kd.V_drewN | apply Kd.V_drew)); exact HO_4.out⟩, ⟨by (with_reducible repeat (first | apply Kd.N_alloc | apply Kd.N_drewN | apply Kd.N_drew)); exact HO_5.out⟩, ⟨by repeat (first | (with_reducible first | exact HB.out | apply below_alloc | apply pw_below_drewN | apply below_drew1) | exact HB.out)⟩⟩
                                · rw [if_neg c31] at H
                                  exact absurd H (by simp)
                              · rw [if_neg c30] at H
                                exact absurd H (by simp)
                            · rw [if_neg c29] at H
                              exact absurd H (by simp)
                          · rw [if_neg c28] at H
                            exact absurd H (by simp)
                        · replace c27 := Bool.eq_false_iff.mpr c27
                          subst c27
                          have H1 : (rhizomeref11_Sorted.j3 kj20 t206 t214 x5_1 x6_1 x7_1 0) = some r := by rw [if_neg (show ¬ (false = true) by decide)] at H; exact H
                          clear H
                          have H := H1
                          clear H1
                          have H' := Aside0.mk H
                          clear H
                          go_wp2
                          go_meet
                          case rel => exact ⟨_, (0), (by first | rfl | (simp; done) | (simp [*]; done)), H', ⟨by have := HK1.out; have := HJ14.out; have := HJ20.out; first | omega | exact Nat.le_refl _⟩, ⟨by (with_reducible repeat (first | apply Kd.V_alloc | apply Kd.V_drewN | apply Kd.V_drew)); exact HO_3.out⟩, ⟨by (with_reducible repeat (first | apply Kd.V_alloc | apply Kd.V_drewN | apply Kd.V_drew)); exact HO_4.out⟩, ⟨by (with_reducible repeat (first | apply Kd.N_alloc | apply Kd.N_drewN | apply Kd.N_drew)); exact HO_5.out⟩, ⟨by repeat (first | (with_reducible first | exact HB.out | apply below_alloc | apply pw_below_drewN | apply below_drew1) | exact HB.out)⟩⟩
                      case rest =>
                        clear HC26
                        try clear c1
                        try clear q1
                        try clear c2
                        try clear c2b0
                        try clear c2b1
                        try clear p2
                        try clear q2
                        try clear hx2
                        try clear c3
                        try clear c4
                        try clear c4b0
                        try clear c4b1
                        try clear c5
                        try clear c5b0
                        try clear c5b1
                        try clear p6
                        try clear c7
                        try clear c7b0
                        try clear c8
                        try clear c8b0
                        try clear q11
                        try clear c12
                        try clear q12
                        try clear c16
                        try clear c16b0
                        try clear c20
                        try clear c21
                        try clear p21
                        try clear q21
                        try clear hx21
                        try clear c22
                        try clear c22b0
                        try clear c27
                        try clear c28
                        try clear c28b0
                        try clear c29
                        try clear c29b0
                        try clear c30
                        try clear c30b0
                        try clear c31
                        try clear c31b0
                        try clear hx217_0
                        try clear hx218_0
                        try clear p2
                        try clear p217
                        try clear p218
                        try clear p6
                        try clear q012
                        try clear q1
                        try clear q11
                        try clear q12
                        try clear q217
                        try clear q218
                        obtain ⟨kq, x8_25, rfl, HA, HJ25, HO_3, HO_4, HO_5, HB⟩ := hcut
                        cases kq with
                        | zero => exact absurd HA.out (by simp [rhizomeref11_Sorted.j3])
                        | succ kj25 =>
                          have H := HA.out
                          clear HA
                          simp only [rhizomeref11_Sorted.j3] at H
                          have HC36 := Aside0.mk H
                          clear H
                          go_upto_region 11 with (fail)
                          go_cut [56] (fun v56 wc => ∃ (kq : Nat) (x56_35 : Bool), v56 = .bool x56_35 ∧ Aside0 (rhizomeref11_Sorted.j4 kq t206 t214 x5_1 x6_1 x7_1 x8_25 x56_35 = some r) ∧ Aside0 (kq ≤ kj25) ∧ Aside0 (Kd.V (Kd.slice 3 (Kd.int .i64)) 75 wc w.heap.size (fun k_ => (P0_ k_ ∨ w.heap.size ≤ k_) ∧ some k_ ≠ (u5 : Value).ownBlock) v207 t206) ∧ Aside0 (Kd.V (Kd.slice 3 (Kd.int .i64)) 75 wc w.heap.size (fun k_ => (P0_ k_ ∨ w.heap.size ≤ k_) ∧ some k_ ≠ (u5 : Value).ownBlock) v215 t214) ∧ Aside0 (Kd.N (Kd.slice 3 (Kd.int .i64)) 75 wc w.heap.size (fun k_ => (P0_ k_ ∨ w.heap.size ≤ k_)) u5 x5_1) ∧ Aside0 (Below w.heap.size w wc))
                          case first =>
                            have H := HC36.out
                            clear HC36
                            by_cases c37 : x7_1 ≥ (t214.length : Int)
                            · rw [if_pos c37] at H
                              have c37b0 : decide ((t214.length : Int) ≤ x7_1) = true := decide_eq_true c37
                              clear c37
                              (first | rw [c37b0] | (simp only [i64_w, i32_w]; rw [c37b0]) | skip)
                              have H' := Aside0.mk H
                              clear H
                              obtain ⟨Ao38, co38, eo38⟩ := Kd.V_slice HO_4.out
                              subst eo38
                              go_wp2
                              go_meet
                              case rel => exact ⟨_, (true), (by first | rfl | (simp; done) | (simp [*]; done)), H', ⟨by have := HK1.out; have := HJ14.out; have := HJ20.out; have := HJ25.out; first | omega | exact Nat.le_refl _⟩, ⟨by (with_reducible repeat (first | apply Kd.V_alloc | apply Kd.V_drewN | apply Kd.V_drew)); exact HO_3.out⟩, ⟨by (with_reducible repeat (first | apply Kd.V_alloc | apply Kd.V_drewN | apply Kd.V_drew)); exact HO_4.out⟩, ⟨by (with_reducible repeat (first | apply Kd.N_alloc | apply Kd.N_drewN | apply Kd.N_drew)); exact HO_5.out⟩, ⟨by repeat (first | (with_reducible first | exact HB.out | apply below_alloc | apply pw_below_drewN | apply below_drew1) | exact HB.out)⟩⟩
                            · rw [if_neg c37] at H
                              have c37b0 : decide ((t214.length : Int) ≤ x7_1) = false := decide_eq_false c37
                              clear c37
                              (first | rw [c37b0] | (simp only [i64_w, i32_w]; rw [c37b0]) | skip)
                              by_cases c39 : x6_1 < (t206.length : Int)
                              · rw [if_pos c39] at H
                                have c39b0 : decide (x6_1 < (t206.length : Int)) = true := decide_eq_true c39
                                clear c39
                                have H' := Aside0.mk H
                                clear H
                                obtain ⟨Ao40, co40, eo40⟩ := Kd.V_slice HO_4.out
                                subst eo40
                                obtain ⟨Ao41, co41, eo41⟩ := Kd.V_slice HO_3.out
                                subst eo41
                                go_wp2
                                go_meet
                                case rel => exact ⟨_, (decide (x8_25 < 0)), (by first | rfl | (simp; done) | (simp [*]; done)), H', ⟨by have := HK1.out; have := HJ14.out; have := HJ20.out; have := HJ25.out; first | omega | exact Nat.le_refl _⟩, ⟨by (with_reducible repeat (first | apply Kd.V_alloc | apply Kd.V_drewN | apply Kd.V_drew)); exact HO_3.out⟩, ⟨by (with_reducible repeat (first | apply Kd.V_alloc | apply Kd.V_drewN | apply Kd.V_drew)); exact HO_4.out⟩, ⟨by (with_reducible repeat (first | apply Kd.N_alloc | apply Kd.N_drewN | apply Kd.N_drew)); exact HO_5.out⟩, ⟨by repeat (first | (with_reducible first | exact HB.out | apply below_alloc | apply pw_below_drewN | apply below_drew1) | exact HB.out)⟩⟩
                              · rw [if_neg c39] at H
                                have c39b0 : decide (x6_1 < (t206.length : Int)) = false := decide_eq_false c39
                                clear c39
                                have H' := Aside0.mk H
                                clear H
                                obtain ⟨Ao42, co42, eo42⟩ := Kd.V_slice HO_4.out
                                subst eo42
                                obtain ⟨Ao43, co43, eo43⟩ := Kd.V_slice HO_3.out
                                subst eo43
                                go_wp2
                                go_meet
                                case rel => exact ⟨_, (false), (by first | rfl | (simp; done) | (simp [*]; done)), H', ⟨by have := HK1.out; have := HJ14.out; have := HJ20.out; have := HJ25.out; first | omega | exact Nat.le_refl _⟩, ⟨by (with_reducible repeat (first | apply Kd.V_alloc | apply Kd.V_drewN | apply Kd.V_drew)); exact HO_3.out⟩, ⟨by (with_reducible repeat (first | apply Kd.V_alloc | apply Kd.V_drewN | apply Kd.V_drew)); exact HO_4.out⟩, ⟨by (with_reducible repeat (first | apply Kd.N_alloc | apply Kd.N_drewN | apply Kd.N_drew)); exact HO_5.out⟩, ⟨by repeat (first | (with_reducible first | exact HB.out | apply below_alloc | apply pw_below_drewN | apply below_drew1) | exact HB.out)⟩⟩
                          case rest =>
                            clear HC36
                            try clear c1
                            try clear q1
                            try clear c2
                            try clear c2b0
                            try clear c2b1
                            try clear p2
                            try clear q2
                            try clear hx2
                            try clear c3
                            try clear c4
                            try clear c4b0
                            try clear c4b1
                            try clear c5
                            try clear c5b0
                            try clear c5b1
                            try clear p6
                            try clear c7
                            try clear c7b0
                            try clear c8
                            try clear c8b0
                            try clear q11
                            try clear c12
                            try clear q12
                            try clear c16
                            try clear c16b0
                            try clear c20
                            try clear c21
                            try clear p21
                            try clear q21
                            try clear hx21
                            try clear c22
                            try clear c22b0
                            try clear c27
                            try clear c28
                            try clear c28b0
                            try clear c29
                            try clear c29b0
                            try clear c30
                            try clear c30b0
                            try clear c31
                            try clear c31b0
                            try clear c37
                            try clear c37b0
                            try clear c39
                            try clear c39b0
                            try clear hx217_0
                            try clear hx218_0
                            try clear p2
                            try clear p21
                            try clear p217
                            try clear p218
                            try clear p6
                            try clear q012
                            try clear q1
                            try clear q11
                            try clear q12
                            try clear q2
                            try clear q21
                            try clear q217
                            try clear q218
                            obtain ⟨kq, x56_35, rfl, HA, HJ35, HO_3, HO_4, HO_5, HB⟩ := hcut
                            cases kq with
                            | zero => exact absurd HA.out (by simp [rhizomeref11_Sorted.j4])
                            | succ kj35 =>
                              have H := HA.out
                              clear HA
                              simp only [rhizomeref11_Sorted.j4] at H
                              by_cases c44 : x56_35 = true
                              · subst c44
                                have H1 : (if 0 ≤ x6_1 then (if x6_1 < (t206.length : Int) then (if x5_1.length < 5864062014805 then (rhizomeref11_Sorted.l0 kj35 t206 t214 (x5_1 ++ [rd_L4 t206 x6_1]) (wrap64 (x6_1 + 1)) x7_1) else (none)) else (none)) else (none)) = some r := by rw [if_pos rfl] at H; exact H
                                clear H
                                have H := H1
                                clear H1
                                by_cases c45 : 0 ≤ x6_1
                                · rw [if_pos c45] at H
                                  have c45b0 : decide (0 ≤ x6_1) = true := decide_eq_true c45
                                  clear c45
                                  by_cases c46 : x6_1 < (t206.length : Int)
                                  · rw [if_pos c46] at H
                                    have c46b0 : decide (x6_1 < (t206.length : Int)) = true := decide_eq_true c46
                                    clear c46
                                    by_cases c47 : x5_1.length < 5864062014805
                                    · rw [if_pos c47] at H
                                      have LMc47 := Aside0.mk c47
                                      clear c47
                                      obtain ⟨y221, hy221⟩ : ∃ y_ : List (List Int), y_ = (x5_1 ++ [rd_L4 t206 x6_1]) := ⟨_, rfl⟩
                                      replace H : (rhizomeref11_Sorted.l0 kj35 t206 t214 y221 (wrap64 (x6_1 + 1)) x7_1) = some r := by first | (rw [hy221]; with_reducible exact H) | (have H2_ := (Option.bind_some _ _).symm.trans H; rw [hy221]; with_reducible exact H2_) | (have H2_ := (Option.bind_some _ _).symm.trans H; with_reducible exact H2_) | with_reducible exact H | (rw [hy221]; exact H) | exact H
                                      have Ny221 := Aside0.mk hy221
                                      clear hy221
                                      have H' := Aside0.mk H
                                      clear H
                                      obtain ⟨Ao48, co48, eo48⟩ := Kd.V_slice HO_3.out
                                      subst eo48
                                      have p220 : 0 ≤ (x6_1 : Int) := of_decide_eq_true (by first | (with_reducible assumption) | assumption)
                                      have q220 : x6_1 < (t206.length : Int) := of_decide_eq_true (by first | (with_reducible assumption) | assumption)
                                      obtain ⟨ad220, A220_0, c220_0, e220, hx220_0, hl220_0, hi220_0⟩ := at_L4 (Kd.V_reads' HO_3.out).2.2 x6_1 p220 q220
                                      cases e220
                                      obtain ⟨ce220, hce220, hMe220, hcc220⟩ := Kd.V_get HO_3.out [] x6_1 p220 (by first | exact q220 | exact of_decide_eq_true (by first | (with_reducible assumption) | assumption) | (have e_ := (Kd.V_reads' HO_3.out).1; omega))
                                      obtain ⟨ua220_0, uc220_0, rfl, ul220_0, ge220_0⟩ := Kd.FK_slice_open hMe220
                                      have hv220_0 := hcc220 0 _ rfl
                                      rw [Nat.add_zero, show ((Kd.slice 3 (Kd.int .i64))).sz = 1 from rfl, Nat.mul_one] at hv220_0
                                      replace hv220_0 := Option.some.inj (hv220_0.symm.trans hx220_0)
                                      injection hv220_0 with hva_ hvn_ hvc_
                                      rw [hva_] at ge220_0
                                      rw [hvc_] at ul220_0
                                      have HL220_0 := Aside0.mk (show Kd.V (Kd.int .i64) 3 _ w.heap.size _ _ (rd_L4 t206 x6_1) from Kd.V_mk ul220_0 ge220_0)
                                      clear hva_ hvn_ hvc_ ge220_0 ul220_0
                                      clear hcc220 hce220
                                      have HR220_0 := Aside0.mk hi220_0
                                      have HC220_0 := Aside0.mk hl220_0
                                      clear hi220_0 hl220_0
                                      replace p220 := eq_true p220
                                      replace q220 := eq_true q220
                                      go_wp2_with (first | ((with_reducible refine gate_builtin (b := .append) (xs := #[.tmp 71, .tmp 76]) rfl ?_); (try (refine gate_guard (by rfl) ?_; dsimp only)); at_builtin; refine Kd.N_append (Kd.slice 3 (Kd.int .i64)) (w0 := w) w.heap.size rfl (.tmp 71) (.tmp 76) 63 75 (.slice none 0 0) 24 rfl Try.underlying63 info75 rfl (by decide) (by omega) u5 x5_1 (rd_L4 t206 x6_1) [.slice A220_0 (rd_L4 t206 x6_1).length c220_0] (fun k_ => (P0_ k_ ∨ w.heap.size ≤ k_)) (fun k_ => ((fun k_ => (P0_ k_ ∨ w.heap.size ≤ k_))) k_ ∧ some k_ ≠ (u5 : Value).ownBlock) rfl rfl ?aP (fun _ hk => hk) ?aF ?aO ?aB ?aS ?aL ?_; (case aP => exact (Kd.FK_slice_mk (Kd.V_reads' (Kd.V_mono (ok' := (fun k_ => ((fun k_ => (P0_ k_ ∨ w.heap.size ≤ k_))) k_ ∧ some k_ ≠ (u5 : Value).ownBlock)) (HL220_0.out) (fun k_ hk => ⟨hk.1, hk.2⟩))).2.1 (Kd.V_F (Kd.V_mono (ok' := (fun k_ => ((fun k_ => (P0_ k_ ∨ w.heap.size ≤ k_))) k_ ∧ some k_ ≠ (u5 : Value).ownBlock)) (HL220_0.out) (fun k_ hk => ⟨hk.1, hk.2⟩))))); (case aB => exact (by repeat (first | (with_reducible first | exact HB.out | apply below_alloc | apply pw_below_drewN | apply below_drew1) | exact HB.out))); (case aF => exact (fun k_ hk => (.inr (Nat.le_trans (below_size (by repeat (first | (with_reducible first | exact HB.out | apply below_alloc | apply pw_below_drewN | apply below_drew1) | exact HB.out))) hk)))); (case aO => exact (by (with_reducible repeat (first | apply Kd.N_alloc | apply Kd.N_drewN | apply Kd.N_drew)); exact HO_5.out)); (case aS => exact (below_size (by repeat (first | (with_reducible first | exact HB.out | apply below_alloc | apply pw_below_drewN | apply below_drew1) | exact HB.out)))); (case aL => have := LMc47.out; omega); intro v222 w49 ho hb hg hat; rw [← Ny221.out] at ho; have n0_ := Aside0.mk (Kd.V_afterv (ok := (fun k_ => (P0_ k_ ∨ w.heap.size ≤ k_))) (by (with_reducible repeat (first | apply Kd.V_alloc | apply Kd.V_drewN | apply Kd.V_drew)); exact HO_3.out) hg hat); have n1_ := Aside0.mk (Kd.V_afterv (ok := (fun k_ => (P0_ k_ ∨ w.heap.size ≤ k_))) (by (with_reducible repeat (first | apply Kd.V_alloc | apply Kd.V_drewN | apply Kd.V_drew)); exact HO_4.out) hg hat); have n2_ := Aside0.mk (Kd.V_afterv (ok := (fun k_ => (P0_ k_ ∨ w.heap.size ≤ k_))) (by (with_reducible repeat (first | apply Kd.V_alloc | apply Kd.V_drewN | apply Kd.V_drew)); exact HL220_0.out) hg hat); have n3_ := Aside0.mk (hb); have n4_ := Aside0.mk (ho); clear HO_3; clear HO_4; clear HL220_0; clear HB; clear HO_5; have HO_3 := n0_; have HO_4 := n1_; have HL220_0 := n2_; have HB := n3_; have HO223 := n4_; clear n0_ n1_ n2_ n3_ n4_; clear ho hb hg hat))
                                      go_roundg kj35
                                      case measure => have := HK1.out; have := HJ14.out; have := HJ20.out; have := HJ25.out; have := HJ35.out; omega
                                      case rel => exact ⟨(y221), (wrap64 (x6_1 + 1)), (x7_1), (by first | rfl | (simp; done) | (simp [*]; done)), (by first | rfl | (simp; done) | (simp [*]; done)), H', ⟨by have := HK1.out; have := HJ14.out; have := HJ20.out; have := HJ25.out; have := HJ35.out; omega⟩, ⟨by (with_reducible repeat (first | apply Kd.V_alloc | apply Kd.V_drewN | apply Kd.V_drew)); exact HO_3.out⟩, ⟨by (with_reducible repeat (first | apply Kd.V_alloc | apply Kd.V_drewN | apply Kd.V_drew)); exact HO_4.out⟩, ⟨by (with_reducible repeat (first | apply Kd.N_alloc | apply Kd.N_drewN | apply Kd.N_drew)); exact HO223.out⟩, ⟨by repeat (first | (with_reducible first | exact HB.out | apply below_alloc | apply pw_below_drewN | apply below_drew1) | exact HB.out)⟩⟩
                                    · rw [if_neg c47] at H
                                      exact absurd H (by simp)
                                  · rw [if_neg c46] at H
                                    exact absurd H (by simp)
                                · rw [if_neg c45] at H
                                  exact absurd H (by simp)
                              · replace c44 := Bool.eq_false_iff.mpr c44
                                subst c44
                                have H1 : (if x6_1 ≥ (t206.length : Int) then (if 0 ≤ x7_1 then (if x7_1 < (t214.length : Int) then (if x5_1.length < 5864062014805 then (rhizomeref11_Sorted.l0 kj35 t206 t214 (x5_1 ++ [rd_L4 t214 x7_1]) x6_1 (wrap64 (x7_1 + 1))) else (none)) else (none)) else (none)) else (if x8_25 > 0 then (if 0 ≤ x7_1 then (if x7_1 < (t214.length : Int) then (if x5_1.length < 5864062014805 then (rhizomeref11_Sorted.l0 kj35 t206 t214 (x5_1 ++ [rd_L4 t214 x7_1]) x6_1 (wrap64 (x7_1 + 1))) else (none)) else (none)) else (none)) else (rhizomeref11_Sorted.l0 kj35 t206 t214 x5_1 (wrap64 (x6_1 + 1)) x7_1))) = some r := by rw [if_neg (show ¬ (false = true) by decide)] at H; exact H
                                clear H
                                have H := H1
                                clear H1
                                by_cases c50 : x6_1 ≥ (t206.length : Int)
                                · rw [if_pos c50] at H
                                  have c50b0 : decide ((t206.length : Int) ≤ x6_1) = true := decide_eq_true c50
                                  clear c50
                                  by_cases c51 : 0 ≤ x7_1
                                  · rw [if_pos c51] at H
                                    have c51b0 : decide (0 ≤ x7_1) = true := decide_eq_true c51
                                    clear c51
                                    by_cases c52 : x7_1 < (t214.length : Int)
                                    · rw [if_pos c52] at H
                                      have c52b0 : decide (x7_1 < (t214.length : Int)) = true := decide_eq_true c52
                                      clear c52
                                      by_cases c53 : x5_1.length < 5864062014805
                                      · rw [if_pos c53] at H
                                        have LMc53 := Aside0.mk c53
                                        clear c53
                                        obtain ⟨y225, hy225⟩ : ∃ y_ : List (List Int), y_ = (x5_1 ++ [rd_L4 t214 x7_1]) := ⟨_, rfl⟩
                                        replace H : (rhizomeref11_Sorted.l0 kj35 t206 t214 y225 x6_1 (wrap64 (x7_1 + 1))) = some r := by first | (rw [hy225]; with_reducible exact H) | (have H2_ := (Option.bind_some _ _).symm.trans H; rw [hy225]; with_reducible exact H2_) | (have H2_ := (Option.bind_some _ _).symm.trans H; with_reducible exact H2_) | with_reducible exact H | (rw [hy225]; exact H) | exact H
                                        have Ny225 := Aside0.mk hy225
                                        clear hy225
                                        have H' := Aside0.mk H
                                        clear H
                                        obtain ⟨Ao54, co54, eo54⟩ := Kd.V_slice HO_3.out
                                        subst eo54
                                        obtain ⟨Ao55, co55, eo55⟩ := Kd.V_slice HO_4.out
                                        subst eo55
                                        have p224 : 0 ≤ (x7_1 : Int) := of_decide_eq_true (by first | (with_reducible assumption) | assumption)
                                        have q224 : x7_1 < (t214.length : Int) := of_decide_eq_true (by first | (with_reducible assumption) | assumption)
                                        obtain ⟨ad224, A224_0, c224_0, e224, hx224_0, hl224_0, hi224_0⟩ := at_L4 (Kd.V_reads' HO_4.out).2.2 x7_1 p224 q224
                                        cases e224
                                        obtain ⟨ce224, hce224, hMe224, hcc224⟩ := Kd.V_get HO_4.out [] x7_1 p224 (by first | exact q224 | exact of_decide_eq_true (by first | (with_reducible assumption) | assumption) | (have e_ := (Kd.V_reads' HO_4.out).1; omega))
                                        obtain ⟨ua224_0, uc224_0, rfl, ul224_0, ge224_0⟩ := Kd.FK_slice_open hMe224
                                        have hv224_0 := hcc224 0 _ rfl
                                        rw [Nat.add_zero, show ((Kd.slice 3 (Kd.int .i64))).sz = 1 from rfl, Nat.mul_one] at hv224_0
                                        replace hv224_0 := Option.some.inj (hv224_0.symm.trans hx224_0)
                                        injection hv224_0 with hva_ hvn_ hvc_
                                        rw [hva_] at ge224_0
                                        rw [hvc_] at ul224_0
                                        have HL224_0 := Aside0.mk (show Kd.V (Kd.int .i64) 3 _ w.heap.size _ _ (rd_L4 t214 x7_1) from Kd.V_mk ul224_0 ge224_0)
                                        clear hva_ hvn_ hvc_ ge224_0 ul224_0
                                        clear hcc224 hce224
                                        have HR224_0 := Aside0.mk hi224_0
                                        have HC224_0 := Aside0.mk hl224_0
                                        clear hi224_0 hl224_0
                                        replace p224 := eq_true p224
                                        replace q224 := eq_true q224
                                        go_wp2_with (first | ((with_reducible refine gate_builtin (b := .append) (xs := #[.tmp 89, .tmp 94]) rfl ?_); (try (refine gate_guard (by rfl) ?_; dsimp only)); at_builtin; refine Kd.N_append (Kd.slice 3 (Kd.int .i64)) (w0 := w) w.heap.size rfl (.tmp 89) (.tmp 94) 63 75 (.slice none 0 0) 24 rfl Try.underlying63 info75 rfl (by decide) (by omega) u5 x5_1 (rd_L4 t214 x7_1) [.slice A224_0 (rd_L4 t214 x7_1).length c224_0] (fun k_ => (P0_ k_ ∨ w.heap.size ≤ k_)) (fun k_ => ((fun k_ => (P0_ k_ ∨ w.heap.size ≤ k_))) k_ ∧ some k_ ≠ (u5 : Value).ownBlock) rfl rfl ?aP (fun _ hk => hk) ?aF ?aO ?aB ?aS ?aL ?_; (case aP => exact (Kd.FK_slice_mk (Kd.V_reads' (Kd.V_mono (ok' := (fun k_ => ((fun k_ => (P0_ k_ ∨ w.heap.size ≤ k_))) k_ ∧ some k_ ≠ (u5 : Value).ownBlock)) (HL224_0.out) (fun k_ hk => ⟨hk.1, hk.2⟩))).2.1 (Kd.V_F (Kd.V_mono (ok' := (fun k_ => ((fun k_ => (P0_ k_ ∨ w.heap.size ≤ k_))) k_ ∧ some k_ ≠ (u5 : Value).ownBlock)) (HL224_0.out) (fun k_ hk => ⟨hk.1, hk.2⟩))))); (case aB => exact (by repeat (first | (with_reducible first | exact HB.out | apply below_alloc | apply pw_below_drewN | apply below_drew1) | exact HB.out))); (case aF => exact (fun k_ hk => (.inr (Nat.le_trans (below_size (by repeat (first | (with_reducible first | exact HB.out | apply below_alloc | apply pw_below_drewN | apply below_drew1) | exact HB.out))) hk)))); (case aO => exact (by (with_reducible repeat (first | apply Kd.N_alloc | apply Kd.N_drewN | apply Kd.N_drew)); exact HO_5.out)); (case aS => exact (below_size (by repeat (first | (with_reducible first | exact HB.out | apply below_alloc | apply pw_below_drewN | apply below_drew1) | exact HB.out)))); (case aL => have := LMc53.out; omega); intro v226 w56 ho hb hg hat; rw [← Ny225.out] at ho; have n0_ := Aside0.mk (Kd.V_afterv (ok := (fun k_ => (P0_ k_ ∨ w.heap.size ≤ k_))) (by (with_reducible repeat (first | apply Kd.V_alloc | apply Kd.V_drewN | apply Kd.V_drew)); exact HO_3.out) hg hat); have n1_ := Aside0.mk (Kd.V_afterv (ok := (fun k_ => (P0_ k_ ∨ w.heap.size ≤ k_))) (by (with_reducible repeat (first | apply Kd.V_alloc | apply Kd.V_drewN | apply Kd.V_drew)); exact HO_4.out) hg hat); have n2_ := Aside0.mk (Kd.V_afterv (ok := (fun k_ => (P0_ k_ ∨ w.heap.size ≤ k_))) (by (with_reducible repeat (first | apply Kd.V_alloc | apply Kd.V_drewN | apply Kd.V_drew)); exact HL224_0.out) hg hat); have n3_ := Aside0.mk (hb); have n4_ := Aside0.mk (ho); clear HO_3; clear HO_4; clear HL224_0; clear HB; clear HO_5; have HO_3 := n0_; have HO_4 := n1_; have HL224_0 := n2_; have HB := n3_; have HO227 := n4_; clear n0_ n1_ n2_ n3_ n4_; clear ho hb hg hat))
                                        go_roundg kj35
                                        case measure => have := HK1.out; have := HJ14.out; have := HJ20.out; have := HJ25.out; have := HJ35.out; omega
                                        case rel => exact ⟨(y225), (x6_1), (wrap64 (x7_1 + 1)), (by first | rfl | (simp; done) | (simp [*]; done)), (by first | rfl | (simp; done) | (simp [*]; done)), H', ⟨by have := HK1.out; have := HJ14.out; have := HJ20.out; have := HJ25.out; have := HJ35.out; omega⟩, ⟨by (with_reducible repeat (first | apply Kd.V_alloc | apply Kd.V_drewN | apply Kd.V_drew)); exact HO_3.out⟩, ⟨by (with_reducible repeat (first | apply Kd.V_alloc | apply Kd.V_drewN | apply Kd.V_drew)); exact HO_4.out⟩, ⟨by (with_reducible repeat (first | apply Kd.N_alloc | apply Kd.N_drewN | apply Kd.N_drew)); exact HO227.out⟩, ⟨by repeat (first | (with_reducible first | exact HB.out | apply below_alloc | apply pw_below_drewN | apply below_drew1) | exact HB.out)⟩⟩
                                      · rw [if_neg c53] at H
                                        exact absurd H (by simp)
                                    · rw [if_neg c52] at H
                                      exact absurd H (by simp)
                                  · rw [if_neg c51] at H
                                    exact absurd H (by simp)
                                · rw [if_neg c50] at H
                                  have c50b0 : decide ((t206.length : Int) ≤ x6_1) = false := decide_eq_false c50
                                  clear c50
                                  by_cases c57 : x8_25 > 0
                                  · rw [if_pos c57] at H
                                    have c57b0 : decide (0 < x8_25) = true := decide_eq_true c57
                                    clear c57
                                    by_cases c58 : 0 ≤ x7_1
                                    · rw [if_pos c58] at H
                                      have c58b0 : decide (0 ≤ x7_1) = true := decide_eq_true c58
                                      clear c58
                                      by_cases c59 : x7_1 < (t214.length : Int)
                                      · rw [if_pos c59] at H
                                        have c59b0 : decide (x7_1 < (t214.length : Int)) = true := decide_eq_true c59
                                        clear c59
                                        by_cases c60 : x5_1.length < 5864062014805
                                        · rw [if_pos c60] at H
                                          have LMc60 := Aside0.mk c60
                                          clear c60
                                          obtain ⟨y229, hy229⟩ : ∃ y_ : List (List Int), y_ = (x5_1 ++ [rd_L4 t214 x7_1]) := ⟨_, rfl⟩
                                          replace H : (rhizomeref11_Sorted.l0 kj35 t206 t214 y229 x6_1 (wrap64 (x7_1 + 1))) = some r := by first | (rw [hy229]; with_reducible exact H) | (have H2_ := (Option.bind_some _ _).symm.trans H; rw [hy229]; with_reducible exact H2_) | (have H2_ := (Option.bind_some _ _).symm.trans H; with_reducible exact H2_) | with_reducible exact H | (rw [hy229]; exact H) | exact H
                                          have Ny229 := Aside0.mk hy229
                                          clear hy229
                                          have H' := Aside0.mk H
                                          clear H
                                          obtain ⟨Ao61, co61, eo61⟩ := Kd.V_slice HO_3.out
                                          subst eo61
                                          obtain ⟨Ao62, co62, eo62⟩ := Kd.V_slice HO_4.out
                                          subst eo62
                                          have p228 : 0 ≤ (x7_1 : Int) := of_decide_eq_true (by first | (with_reducible assumption) | assumption)
                                          have q228 : x7_1 < (t214.length : Int) := of_decide_eq_true (by first | (with_reducible assumption) | assumption)
                                          obtain ⟨ad228, A228_0, c228_0, e228, hx228_0, hl228_0, hi228_0⟩ := at_L4 (Kd.V_reads' HO_4.out).2.2 x7_1 p228 q228
                                          cases e228
                                          obtain ⟨ce228, hce228, hMe228, hcc228⟩ := Kd.V_get HO_4.out [] x7_1 p228 (by first | exact q228 | exact of_decide_eq_true (by first | (with_reducible assumption) | assumption) | (have e_ := (Kd.V_reads' HO_4.out).1; omega))
                                          obtain ⟨ua228_0, uc228_0, rfl, ul228_0, ge228_0⟩ := Kd.FK_slice_open hMe228
                                          have hv228_0 := hcc228 0 _ rfl
                                          rw [Nat.add_zero, show ((Kd.slice 3 (Kd.int .i64))).sz = 1 from rfl, Nat.mul_one] at hv228_0
                                          replace hv228_0 := Option.some.inj (hv228_0.symm.trans hx228_0)
                                          injection hv228_0 with hva_ hvn_ hvc_
                                          rw [hva_] at ge228_0
                                          rw [hvc_] at ul228_0
                                          have HL228_0 := Aside0.mk (show Kd.V (Kd.int .i64) 3 _ w.heap.size _ _ (rd_L4 t214 x7_1) from Kd.V_mk ul228_0 ge228_0)
                                          clear hva_ hvn_ hvc_ ge228_0 ul228_0
                                          clear hcc228 hce228
                                          have HR228_0 := Aside0.mk hi228_0
                                          have HC228_0 := Aside0.mk hl228_0
                                          clear hi228_0 hl228_0
                                          replace p228 := eq_true p228
                                          replace q228 := eq_true q228
                                          go_wp2_with (first | ((with_reducible refine gate_builtin (b := .append) (xs := #[.tmp 89, .tmp 94]) rfl ?_); (try (refine gate_guard (by rfl) ?_; dsimp only)); at_builtin; refine Kd.N_append (Kd.slice 3 (Kd.int .i64)) (w0 := w) w.heap.size rfl (.tmp 89) (.tmp 94) 63 75 (.slice none 0 0) 24 rfl Try.underlying63 info75 rfl (by decide) (by omega) u5 x5_1 (rd_L4 t214 x7_1) [.slice A228_0 (rd_L4 t214 x7_1).length c228_0] (fun k_ => (P0_ k_ ∨ w.heap.size ≤ k_)) (fun k_ => ((fun k_ => (P0_ k_ ∨ w.heap.size ≤ k_))) k_ ∧ some k_ ≠ (u5 : Value).ownBlock) rfl rfl ?aP (fun _ hk => hk) ?aF ?aO ?aB ?aS ?aL ?_; (case aP => exact (Kd.FK_slice_mk (Kd.V_reads' (Kd.V_mono (ok' := (fun k_ => ((fun k_ => (P0_ k_ ∨ w.heap.size ≤ k_))) k_ ∧ some k_ ≠ (u5 : Value).ownBlock)) (HL228_0.out) (fun k_ hk => ⟨hk.1, hk.2⟩))).2.1 (Kd.V_F (Kd.V_mono (ok' := (fun k_ => ((fun k_ => (P0_ k_ ∨ w.heap.size ≤ k_))) k_ ∧ some k_ ≠ (u5 : Value).ownBlock)) (HL228_0.out) (fun k_ hk => ⟨hk.1, hk.2⟩))))); (case aB => exact (by repeat (first | (with_reducible first | exact HB.out | apply below_alloc | apply pw_below_drewN | apply below_drew1) | exact HB.out))); (case aF => exact (fun k_ hk => (.inr (Nat.le_trans (below_size (by repeat (first | (with_reducible first | exact HB.out | apply below_alloc | apply pw_below_drewN | apply below_drew1) | exact HB.out))) hk)))); (case aO => exact (by (with_reducible repeat (first | apply Kd.N_alloc | apply Kd.N_drewN | apply Kd.N_drew)); exact HO_5.out)); (case aS => exact (below_size (by repeat (first | (with_reducible first | exact HB.out | apply below_alloc | apply pw_below_drewN | apply below_drew1) | exact HB.out)))); (case aL => have := LMc60.out; omega); intro v230 w63 ho hb hg hat; rw [← Ny229.out] at ho; have n0_ := Aside0.mk (Kd.V_afterv (ok := (fun k_ => (P0_ k_ ∨ w.heap.size ≤ k_))) (by (with_reducible repeat (first | apply Kd.V_alloc | apply Kd.V_drewN | apply Kd.V_drew)); exact HO_3.out) hg hat); have n1_ := Aside0.mk (Kd.V_afterv (ok := (fun k_ => (P0_ k_ ∨ w.heap.size ≤ k_))) (by (with_reducible repeat (first | apply Kd.V_alloc | apply Kd.V_drewN | apply Kd.V_drew)); exact HO_4.out) hg hat); have n2_ := Aside0.mk (Kd.V_afterv (ok := (fun k_ => (P0_ k_ ∨ w.heap.size ≤ k_))) (by (with_reducible repeat (first | apply Kd.V_alloc | apply Kd.V_drewN | apply Kd.V_drew)); exact HL228_0.out) hg hat); have n3_ := Aside0.mk (hb); have n4_ := Aside0.mk (ho); clear HO_3; clear HO_4; clear HL228_0; clear HB; clear HO_5; have HO_3 := n0_; have HO_4 := n1_; have HL228_0 := n2_; have HB := n3_; have HO231 := n4_; clear n0_ n1_ n2_ n3_ n4_; clear ho hb hg hat))
                                          go_roundg kj35
                                          case measure => have := HK1.out; have := HJ14.out; have := HJ20.out; have := HJ25.out; have := HJ35.out; omega
                                          case rel => exact ⟨(y229), (x6_1), (wrap64 (x7_1 + 1)), (by first | rfl | (simp; done) | (simp [*]; done)), (by first | rfl | (simp; done) | (simp [*]; done)), H', ⟨by have := HK1.out; have := HJ14.out; have := HJ20.out; have := HJ25.out; have := HJ35.out; omega⟩, ⟨by (with_reducible repeat (first | apply Kd.V_alloc | apply Kd.V_drewN | apply Kd.V_drew)); exact HO_3.out⟩, ⟨by (with_reducible repeat (first | apply Kd.V_alloc | apply Kd.V_drewN | apply Kd.V_drew)); exact HO_4.out⟩, ⟨by (with_reducible repeat (first | apply Kd.N_alloc | apply Kd.N_drewN | apply Kd.N_drew)); exact HO231.out⟩, ⟨by repeat (first | (with_reducible first | exact HB.out | apply below_alloc | apply pw_below_drewN | apply below_drew1) | exact HB.out)⟩⟩
                                        · rw [if_neg c60] at H
                                          exact absurd H (by simp)
                                      · rw [if_neg c59] at H
                                        exact absurd H (by simp)
                                    · rw [if_neg c58] at H
                                      exact absurd H (by simp)
                                  · rw [if_neg c57] at H
                                    have c57b0 : decide (0 < x8_25) = false := decide_eq_false c57
                                    clear c57
                                    have H' := Aside0.mk H
                                    clear H
                                    obtain ⟨Ao64, co64, eo64⟩ := Kd.V_slice HO_3.out
                                    subst eo64
                                    go_wp2
                                    go_roundg kj35
                                    case measure => have := HK1.out; have := HJ14.out; have := HJ20.out; have := HJ25.out; have := HJ35.out; omega
                                    case rel => exact ⟨(x5_1), (wrap64 (x6_1 + 1)), (x7_1), (by first | rfl | (simp; done) | (simp [*]; done)), (by first | rfl | (simp; done) | (simp [*]; done)), H', ⟨by have := HK1.out; have := HJ14.out; have := HJ20.out; have := HJ25.out; have := HJ35.out; omega⟩, ⟨by (with_reducible repeat (first | apply Kd.V_alloc | apply Kd.V_drewN | apply Kd.V_drew)); exact HO_3.out⟩, ⟨by (with_reducible repeat (first | apply Kd.V_alloc | apply Kd.V_drewN | apply Kd.V_drew)); exact HO_4.out⟩, ⟨by (with_reducible repeat (first | apply Kd.N_alloc | apply Kd.N_drewN | apply Kd.N_drew)); exact HO_5.out⟩, ⟨by repeat (first | (with_reducible first | exact HB.out | apply below_alloc | apply pw_below_drewN | apply below_drew1) | exact HB.out)⟩⟩
                · replace c20 := Bool.eq_false_iff.mpr c20
                  subst c20
                  have H1 : (some x5_1) = some r := by rw [if_neg (show ¬ (false = true) by decide)] at H; exact H
                  clear H
                  have H := H1
                  clear H1
                  obtain rfl := Option.some.inj H
                  go_wp2
                  go_ret
                  exact ⟨_, by first | rfl | (simp [errW_none, errW_some] <;> rfl) | (simp only [← hji3]; first | rfl | (simp [errW_none, errW_some] <;> rfl)) | (simp [*, errW_none, errW_some] <;> rfl), Kd.N_V (by (with_reducible repeat (first | apply Kd.N_alloc | apply Kd.N_drewN | apply Kd.N_drew)); exact HO_5.out), by repeat (first | (with_reducible first | exact HB.out | apply below_alloc | apply pw_below_drewN | apply below_drew1) | exact HB.out)⟩
      · rw [if_neg c5] at H
        exact absurd H (by simp)
    · rw [if_neg c4] at H
      exact absurd H (by simp)

end Go.Proofs.Ytcchcifcfcpjiaa.PJ
