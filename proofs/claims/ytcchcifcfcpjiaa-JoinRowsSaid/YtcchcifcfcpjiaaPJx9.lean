-- Printed by the kit's print for this seat; taken on by this session.
import Derived.Test.YtcchcifcfcpjiaaPJx0
import Derived.Test.YtcchcifcfcpjiaaPJx1
import Derived.Test.YtcchcifcfcpjiaaPJx2
import Derived.Test.YtcchcifcfcpjiaaPJx7
namespace Go.Proofs.Ytcchcifcfcpjiaa.PJ
open Go.RowKit Go.Proofs.YtcchcifcfcpjiaaW.PrintWords Go.Proofs.YtcchcifcfcpjiaaW.PrintLast Go.Proofs.YtcchcifcfcpjiaaW.PrintMore
attribute [local go_sem] max2_int min2_int max_two min_two max_three min_three max_four min_four   -- for this text's walks alone
set_option linter.unusedVariables false
set_option linter.unusedSimpArgs false

attribute [local go_sem high] eqA82 eqA118
-- NOT PRINTED: function 29 (rhizomeref11_Rows)

/-! ### rhizomeref10_Same: function 30 -/
def rhizomeref10_Same.l0 : Nat → List (List Int) → List (List Int) → Int → Int → Option (Bool)
  | 0, _, _, _, _ => none
  | k + 1, x0, x1, x12, x13 => if x13 < x12 then (if 0 ≤ x13 then (if x13 < (x0.length : Int) then (if x13 < (x1.length : Int) then ((rhizomeref10_Cmp.f k (rd_L4 x0 x13) (rd_L4 x1 x13)).bind fun t278 => (if t278 = 0 then (rhizomeref10_Same.l0 k x0 x1 x12 (wrap64 (x13 + 1))) else (some false))) else (none)) else (none)) else (none)) else (some true)
def rhizomeref10_Same.f (k : Nat) (l0 : List (List Int)) (l1 : List (List Int)) : Option (Bool) := if (l0.length : Int) = (l1.length : Int) then (rhizomeref10_Same.l0 k l0 l1 (l0.length : Int) 0) else (some false)
theorem rhizomeref10_Same.mono_l : ∀ k, (∀ y0 y1 y2 y3, LeO (rhizomeref10_Same.l0 k y0 y1 y2 y3) (rhizomeref10_Same.l0 (k + 1) y0 y1 y2 y3))
  | 0 => fun _ _ _ _ r h => by simp [rhizomeref10_Same.l0] at h
  | k + 1 => by
    have ih0 := rhizomeref10_Same.mono_l k
    · intro y0 y1 y2 y3
      unfold rhizomeref10_Same.l0
      repeat' first
      | (with_reducible exact ih0 _ _ _ _)
      | (with_reducible exact rhizomeref10_Cmp.mono _ _ _)
      | (with_reducible exact LeO.refl _)
      | (with_reducible exact LeO.none _)
      | (with_reducible refine LeO.ite ?_ ?_)
      | (with_reducible refine LeO.bind ?_ (fun _ => ?_))
      | exact ih0 _ _ _ _
      | exact rhizomeref10_Cmp.mono _ _ _
      | exact LeO.none _
      | refine LeO.ite ?_ ?_
      | refine LeO.bind ?_ (fun _ => ?_)
theorem rhizomeref10_Same.mono : ∀ a0 a1 k, LeO (rhizomeref10_Same.f k a0 a1) (rhizomeref10_Same.f (k + 1) a0 a1) := by
  intro a0 a1 k
  have ih0 := rhizomeref10_Same.mono_l k
  unfold rhizomeref10_Same.f
  repeat' first
      | (with_reducible exact ih0 _ _ _ _)
      | (with_reducible exact rhizomeref10_Cmp.mono _ _ _)
      | (with_reducible exact LeO.refl _)
      | (with_reducible exact LeO.none _)
      | (with_reducible refine LeO.ite ?_ ?_)
      | (with_reducible refine LeO.bind ?_ (fun _ => ?_))
      | exact ih0 _ _ _ _
      | exact rhizomeref10_Cmp.mono _ _ _
      | exact LeO.none _
      | refine LeO.ite ?_ ?_
      | refine LeO.bind ?_ (fun _ => ?_)
set_option maxHeartbeats 8000000 in
set_option maxRecDepth 100000 in
theorem rhizomeref10_Same.calls (k : Nat) (A0 : Option Addr) (c0 : Nat) (l0 : List (List Int)) (A1 : Option Addr) (c1 : Nat) (l1 : List (List Int)) (r : Bool) (w : World) (hr0 : Kd.C (Kd.slice 3 (Kd.int .i64)) w A0 l0.length l0) (hc0 : l0.length ≤ c0) (hr1 : Kd.C (Kd.slice 3 (Kd.int .i64)) w A1 l1.length l1) (hc1 : l1.length ≤ c1) (h : rhizomeref10_Same.f k l0 l1 = some r) :
    Calls Try.prog 30 #[.slice A0 l0.length c0, .slice A1 l1.length c1] w fun e w' => e = .returned (.bool r) ∧ Drawn0 w w' := by
  have HR0 := Aside0.mk hr0
  have HC0 := Aside0.mk hc0
  clear hr0 hc0
  have HR1 := Aside0.mk hr1
  have HC1 := Aside0.mk hc1
  clear hr1 hc1
  have H : (if (l0.length : Int) = (l1.length : Int) then (rhizomeref10_Same.l0 k l0 l1 (l0.length : Int) 0) else (some false)) = some r := h
  clear h
  by_cases c3 : (l0.length : Int) = (l1.length : Int)
  · rw [if_pos c3] at H
    have c3b0 : ((l0.length : Int) == (l1.length : Int)) = true := beq_iff_eq.mpr c3
    have c3b1 : ((l0.length : Int) != (l1.length : Int)) = false := bne_eq_false_iff_eq.mpr c3
    have c3b2 : (l0.length == l1.length) = true := by first | simpa using c3 | (simp at c3 ⊢; omega)
    clear c3
    have H' := Aside0.mk H
    clear H
    go_enter Try.func30, Try.ntmps30
    go_wp2
    repeat (go_quiet (fail); try go_wp2)
    go_loopg [13] k (fun kq v13 w' => ∃ (x13_1 : Int), v13 = .int .i64 x13_1 ∧ Aside0 (rhizomeref10_Same.l0 kq l0 l1 (l0.length : Int) x13_1 = some r) ∧ Aside0 (kq ≤ k) ∧ Drawn0 w w')
    case atStart => exact ⟨(0), (by first | rfl | (simp; done) | (simp [*]; done)), H', ⟨Nat.le_refl _⟩, by repeat (first | exact Drawn0.refl _ | apply Drawn0.step)⟩
    case round =>
      clear H'
      try clear c1
      try clear p2
      try clear c3
      try clear c3b0
      try clear c3b1
      try clear c3b2
      obtain ⟨x13_1, rfl, HA, HK1, ⟨m1, rfl⟩⟩ := hrel
      cases gk with
      | zero => exact absurd HA.out (by simp [rhizomeref10_Same.l0])
      | succ k1 =>
        have H := HA.out
        clear HA
        simp only [rhizomeref10_Same.l0] at H
        by_cases c4 : x13_1 < (l0.length : Int)
        · rw [if_pos c4] at H
          have c4b0 : decide (x13_1 < (l0.length : Int)) = true := decide_eq_true c4
          clear c4
          by_cases c5 : 0 ≤ x13_1
          · rw [if_pos c5] at H
            have c5b0 : decide (0 ≤ x13_1) = true := decide_eq_true c5
            clear c5
            by_cases c6 : x13_1 < (l0.length : Int)
            · rw [if_pos c6] at H
              have c6b0 : decide (x13_1 < (l0.length : Int)) = true := decide_eq_true c6
              clear c6
              by_cases c7 : x13_1 < (l1.length : Int)
              · rw [if_pos c7] at H
                have c7b0 : decide (x13_1 < (l1.length : Int)) = true := decide_eq_true c7
                clear c7
                replace H := Option.bind_eq_some_iff.mp H
                obtain ⟨t278, A80, H⟩ := H
                replace H : (if t278 = 0 then (rhizomeref10_Same.l0 k1 l0 l1 (l0.length : Int) (wrap64 (x13_1 + 1))) else (some false)) = some r := H
                have A8 := Aside0.mk A80
                clear A80
                by_cases c9 : t278 = 0
                · rw [if_pos c9] at H
                  have c9b0 : (t278 == 0) = true := beq_iff_eq.mpr c9
                  have c9b1 : (t278 != 0) = false := bne_eq_false_iff_eq.mpr c9
                  clear c9
                  have H' := Aside0.mk H
                  clear H
                  have p276 : 0 ≤ (x13_1 : Int) := of_decide_eq_true (by first | (with_reducible assumption) | assumption)
                  have q276 : x13_1 < (l0.length : Int) := of_decide_eq_true (by first | (with_reducible assumption) | assumption)
                  obtain ⟨ad276, A276_0, c276_0, e276, hx276_0, hl276_0, hi276_0⟩ := at_L4 HR0.out x13_1 p276 q276
                  cases e276
                  have HR276_0 := Aside0.mk hi276_0
                  have HC276_0 := Aside0.mk hl276_0
                  clear hi276_0 hl276_0
                  replace p276 := eq_true p276
                  replace q276 := eq_true q276
                  have p277 : 0 ≤ (x13_1 : Int) := of_decide_eq_true (by first | (with_reducible assumption) | assumption)
                  have q277 : x13_1 < (l1.length : Int) := of_decide_eq_true (by first | (with_reducible assumption) | assumption)
                  obtain ⟨ad277, A277_0, c277_0, e277, hx277_0, hl277_0, hi277_0⟩ := at_L4 HR1.out x13_1 p277 q277
                  cases e277
                  have HR277_0 := Aside0.mk hi277_0
                  have HC277_0 := Aside0.mk hl277_0
                  clear hi277_0 hl277_0
                  replace p277 := eq_true p277
                  replace q277 := eq_true q277
                  go_wp2_with (first | (go_at_call 76; (with_reducible refine (rhizomeref10_Cmp.calls k1 _ _ (rd_L4 l0 x13_1) _ _ (rd_L4 l1 x13_1) t278 _ ?side1 ?side2 ?side3 ?side4 A8.out).mono ?_); (case side1 => repeat (first | exact HR276_0.out | (with_reducible refine Kd.C_alloc ?_ _) | (with_reducible refine Kd.C_drewN ?_ _) | (with_reducible refine Kd.C_drew ?_))); (case side2 => exact HC276_0.out); (case side3 => repeat (first | exact HR277_0.out | (with_reducible refine Kd.C_alloc ?_ _) | (with_reducible refine Kd.C_drewN ?_ _) | (with_reducible refine Kd.C_drew ?_))); (case side4 => exact HC277_0.out); rintro e w' ⟨rfl, ⟨nd, rfl⟩⟩; (try first | exact ⟨rfl, _, World.drewN_drewN _ _ _⟩ | exact ⟨rfl, _, Eq.trans (World.drewN_drewN _ _ _) (congrArg (World.drewN _) (Nat.add_assoc _ _ _))⟩)))
                  repeat (go_quiet (first | (go_at_call 76; (with_reducible refine (rhizomeref10_Cmp.calls k1 _ _ (rd_L4 l0 x13_1) _ _ (rd_L4 l1 x13_1) t278 _ ?side1 ?side2 ?side3 ?side4 A8.out).mono ?_); (case side1 => repeat (first | exact HR276_0.out | (with_reducible refine Kd.C_alloc ?_ _) | (with_reducible refine Kd.C_drewN ?_ _) | (with_reducible refine Kd.C_drew ?_))); (case side2 => exact HC276_0.out); (case side3 => repeat (first | exact HR277_0.out | (with_reducible refine Kd.C_alloc ?_ _) | (with_reducible refine Kd.C_drewN ?_ _) | (with_reducible refine Kd.C_drew ?_))); (case side4 => exact HC277_0.out); rintro e w' ⟨rfl, ⟨nd, rfl⟩⟩; (try first | exact ⟨rfl, _, World.drewN_drewN _ _ _⟩ | exact ⟨rfl, _, Eq.trans (World.drewN_drewN _ _ _) (congrArg (World.drewN _) (Nat.add_assoc _ _ _))⟩))); try go_wp2_with (first | (go_at_call 76; (with_reducible refine (rhizomeref10_Cmp.calls k1 _ _ (rd_L4 l0 x13_1) _ _ (rd_L4 l1 x13_1) t278 _ ?side1 ?side2 ?side3 ?side4 A8.out).mono ?_); (case side1 => repeat (first | exact HR276_0.out | (with_reducible refine Kd.C_alloc ?_ _) | (with_reducible refine Kd.C_drewN ?_ _) | (with_reducible refine Kd.C_drew ?_))); (case side2 => exact HC276_0.out); (case side3 => repeat (first | exact HR277_0.out | (with_reducible refine Kd.C_alloc ?_ _) | (with_reducible refine Kd.C_drewN ?_ _) | (with_reducible refine Kd.C_drew ?_))); (case side4 => exact HC277_0.out); rintro e w' ⟨rfl, ⟨nd, rfl⟩⟩; (try first | exact ⟨rfl, _, World.drewN_drewN _ _ _⟩ | exact ⟨rfl, _, Eq.trans (World.drewN_drewN _ _ _) (congrArg (World.drewN _) (Nat.add_assoc _ _ _))⟩))))
                  go_roundg k1
                  case measure => have := HK1.out; omega
                  case rel => exact ⟨(wrap64 (x13_1 + 1)), (by first | rfl | (simp; done) | (simp [*]; done)), H', ⟨by have := HK1.out; omega⟩, by repeat (first | exact Drawn0.refl _ | apply Drawn0.step)⟩
                · rw [if_neg c9] at H
                  have c9b0 : (t278 == 0) = false := beq_eq_false_iff_ne.mpr c9
                  have c9b1 : (t278 != 0) = true := bne_iff_ne.mpr c9
                  obtain rfl := Option.some.inj H
                  have p276 : 0 ≤ (x13_1 : Int) := of_decide_eq_true (by first | (with_reducible assumption) | assumption)
                  have q276 : x13_1 < (l0.length : Int) := of_decide_eq_true (by first | (with_reducible assumption) | assumption)
                  obtain ⟨ad276, A276_0, c276_0, e276, hx276_0, hl276_0, hi276_0⟩ := at_L4 HR0.out x13_1 p276 q276
                  cases e276
                  have HR276_0 := Aside0.mk hi276_0
                  have HC276_0 := Aside0.mk hl276_0
                  clear hi276_0 hl276_0
                  replace p276 := eq_true p276
                  replace q276 := eq_true q276
                  have p277 : 0 ≤ (x13_1 : Int) := of_decide_eq_true (by first | (with_reducible assumption) | assumption)
                  have q277 : x13_1 < (l1.length : Int) := of_decide_eq_true (by first | (with_reducible assumption) | assumption)
                  obtain ⟨ad277, A277_0, c277_0, e277, hx277_0, hl277_0, hi277_0⟩ := at_L4 HR1.out x13_1 p277 q277
                  cases e277
                  have HR277_0 := Aside0.mk hi277_0
                  have HC277_0 := Aside0.mk hl277_0
                  clear hi277_0 hl277_0
                  replace p277 := eq_true p277
                  replace q277 := eq_true q277
                  go_wp2_with (first | (go_at_call 76; (with_reducible refine (rhizomeref10_Cmp.calls k1 _ _ (rd_L4 l0 x13_1) _ _ (rd_L4 l1 x13_1) t278 _ ?side1 ?side2 ?side3 ?side4 A8.out).mono ?_); (case side1 => repeat (first | exact HR276_0.out | (with_reducible refine Kd.C_alloc ?_ _) | (with_reducible refine Kd.C_drewN ?_ _) | (with_reducible refine Kd.C_drew ?_))); (case side2 => exact HC276_0.out); (case side3 => repeat (first | exact HR277_0.out | (with_reducible refine Kd.C_alloc ?_ _) | (with_reducible refine Kd.C_drewN ?_ _) | (with_reducible refine Kd.C_drew ?_))); (case side4 => exact HC277_0.out); rintro e w' ⟨rfl, ⟨nd, rfl⟩⟩; (try first | exact ⟨rfl, _, World.drewN_drewN _ _ _⟩ | exact ⟨rfl, _, Eq.trans (World.drewN_drewN _ _ _) (congrArg (World.drewN _) (Nat.add_assoc _ _ _))⟩)))
                  repeat (go_quiet (first | (go_at_call 76; (with_reducible refine (rhizomeref10_Cmp.calls k1 _ _ (rd_L4 l0 x13_1) _ _ (rd_L4 l1 x13_1) t278 _ ?side1 ?side2 ?side3 ?side4 A8.out).mono ?_); (case side1 => repeat (first | exact HR276_0.out | (with_reducible refine Kd.C_alloc ?_ _) | (with_reducible refine Kd.C_drewN ?_ _) | (with_reducible refine Kd.C_drew ?_))); (case side2 => exact HC276_0.out); (case side3 => repeat (first | exact HR277_0.out | (with_reducible refine Kd.C_alloc ?_ _) | (with_reducible refine Kd.C_drewN ?_ _) | (with_reducible refine Kd.C_drew ?_))); (case side4 => exact HC277_0.out); rintro e w' ⟨rfl, ⟨nd, rfl⟩⟩; (try first | exact ⟨rfl, _, World.drewN_drewN _ _ _⟩ | exact ⟨rfl, _, Eq.trans (World.drewN_drewN _ _ _) (congrArg (World.drewN _) (Nat.add_assoc _ _ _))⟩))); try go_wp2_with (first | (go_at_call 76; (with_reducible refine (rhizomeref10_Cmp.calls k1 _ _ (rd_L4 l0 x13_1) _ _ (rd_L4 l1 x13_1) t278 _ ?side1 ?side2 ?side3 ?side4 A8.out).mono ?_); (case side1 => repeat (first | exact HR276_0.out | (with_reducible refine Kd.C_alloc ?_ _) | (with_reducible refine Kd.C_drewN ?_ _) | (with_reducible refine Kd.C_drew ?_))); (case side2 => exact HC276_0.out); (case side3 => repeat (first | exact HR277_0.out | (with_reducible refine Kd.C_alloc ?_ _) | (with_reducible refine Kd.C_drewN ?_ _) | (with_reducible refine Kd.C_drew ?_))); (case side4 => exact HC277_0.out); rintro e w' ⟨rfl, ⟨nd, rfl⟩⟩; (try first | exact ⟨rfl, _, World.drewN_drewN _ _ _⟩ | exact ⟨rfl, _, Eq.trans (World.drewN_drewN _ _ _) (congrArg (World.drewN _) (Nat.add_assoc _ _ _))⟩))))
                  go_ret
                  exact ⟨by first | rfl | (simp; done) | (simp [*]; done), by repeat (first | exact Drawn0.refl _ | apply Drawn0.step)⟩
              · rw [if_neg c7] at H
                exact absurd H (by simp)
            · rw [if_neg c6] at H
              exact absurd H (by simp)
          · rw [if_neg c5] at H
            exact absurd H (by simp)
        · rw [if_neg c4] at H
          have c4b0 : decide (x13_1 < (l0.length : Int)) = false := decide_eq_false c4
          clear c4
          obtain rfl := Option.some.inj H
          go_wp2
          repeat (go_quiet (fail); try go_wp2)
          go_ret
          exact ⟨by first | rfl | (simp; done) | (simp [*]; done), by repeat (first | exact Drawn0.refl _ | apply Drawn0.step)⟩
  · rw [if_neg c3] at H
    have c3b0 : ((l0.length : Int) == (l1.length : Int)) = false := beq_eq_false_iff_ne.mpr c3
    have c3b1 : ((l0.length : Int) != (l1.length : Int)) = true := bne_iff_ne.mpr c3
    have c3b2 : (l0.length == l1.length) = false := by first | simpa using c3 | (simp at c3 ⊢; omega)
    obtain rfl := Option.some.inj H
    go_enter Try.func30, Try.ntmps30
    go_wp2
    repeat (go_quiet (fail); try go_wp2)
    go_ret
    exact ⟨by first | rfl | (simp; done) | (simp [*]; done), by repeat (first | exact Drawn0.refl _ | apply Drawn0.step)⟩

-- NOT PRINTED: function 31 (rhizomeref11_Result)

/-! ### rhizomeref01_Texts: function 77 -/
def rhizomeref01_Texts.l0 : Nat → List ByteArray → List ByteArray → Int → Int → Option (Bool)
  | 0, _, _, _, _ => none
  | k + 1, x0, x1, x12, x13 => if x13 < x12 then (if 0 ≤ x13 then (if x13 < (x0.length : Int) then (if x13 < (x1.length : Int) then (if (rdOf ByteArray.empty x0 x13).toList = (rdOf ByteArray.empty x1 x13).toList then (rhizomeref01_Texts.l0 k x0 x1 x12 (wrap64 (x13 + 1))) else (some false)) else (none)) else (none)) else (none)) else (some true)
def rhizomeref01_Texts.f (k : Nat) (l0 : List ByteArray) (l1 : List ByteArray) : Option (Bool) := if (l0.length : Int) = (l1.length : Int) then (rhizomeref01_Texts.l0 k l0 l1 (l0.length : Int) 0) else (some false)
theorem rhizomeref01_Texts.mono_l : ∀ k, (∀ y0 y1 y2 y3, LeO (rhizomeref01_Texts.l0 k y0 y1 y2 y3) (rhizomeref01_Texts.l0 (k + 1) y0 y1 y2 y3))
  | 0 => fun _ _ _ _ r h => by simp [rhizomeref01_Texts.l0] at h
  | k + 1 => by
    have ih0 := rhizomeref01_Texts.mono_l k
    · intro y0 y1 y2 y3
      unfold rhizomeref01_Texts.l0
      repeat' first
      | (with_reducible exact ih0 _ _ _ _)
      | (with_reducible exact LeO.refl _)
      | (with_reducible exact LeO.none _)
      | (with_reducible refine LeO.ite ?_ ?_)
      | (with_reducible refine LeO.bind ?_ (fun _ => ?_))
      | exact ih0 _ _ _ _
      | exact LeO.none _
      | refine LeO.ite ?_ ?_
      | refine LeO.bind ?_ (fun _ => ?_)
theorem rhizomeref01_Texts.mono : ∀ a0 a1 k, LeO (rhizomeref01_Texts.f k a0 a1) (rhizomeref01_Texts.f (k + 1) a0 a1) := by
  intro a0 a1 k
  have ih0 := rhizomeref01_Texts.mono_l k
  unfold rhizomeref01_Texts.f
  repeat' first
      | (with_reducible exact ih0 _ _ _ _)
      | (with_reducible exact LeO.refl _)
      | (with_reducible exact LeO.none _)
      | (with_reducible refine LeO.ite ?_ ?_)
      | (with_reducible refine LeO.bind ?_ (fun _ => ?_))
      | exact ih0 _ _ _ _
      | exact LeO.none _
      | refine LeO.ite ?_ ?_
      | refine LeO.bind ?_ (fun _ => ?_)
set_option maxHeartbeats 8000000 in
set_option maxRecDepth 100000 in
theorem rhizomeref01_Texts.calls (k : Nat) (A0 : Option Addr) (c0 : Nat) (l0 : List ByteArray) (A1 : Option Addr) (c1 : Nat) (l1 : List ByteArray) (r : Bool) (w : World) (hr0 : Kd.C Kd.string w A0 l0.length l0) (hc0 : l0.length ≤ c0) (hr1 : Kd.C Kd.string w A1 l1.length l1) (hc1 : l1.length ≤ c1) (h : rhizomeref01_Texts.f k l0 l1 = some r) :
    Calls Try.prog 77 #[.slice A0 l0.length c0, .slice A1 l1.length c1] w fun e w' => e = .returned (.bool r) ∧ Drawn0 w w' := by
  have HR0 := Aside0.mk hr0
  have HC0 := Aside0.mk hc0
  clear hr0 hc0
  have HR1 := Aside0.mk hr1
  have HC1 := Aside0.mk hc1
  clear hr1 hc1
  have H : (if (l0.length : Int) = (l1.length : Int) then (rhizomeref01_Texts.l0 k l0 l1 (l0.length : Int) 0) else (some false)) = some r := h
  clear h
  by_cases c3 : (l0.length : Int) = (l1.length : Int)
  · rw [if_pos c3] at H
    have c3b0 : ((l0.length : Int) == (l1.length : Int)) = true := beq_iff_eq.mpr c3
    have c3b1 : ((l0.length : Int) != (l1.length : Int)) = false := bne_eq_false_iff_eq.mpr c3
    have c3b2 : (l0.length == l1.length) = true := by first | simpa using c3 | (simp at c3 ⊢; omega)
    clear c3
    have H' := Aside0.mk H
    clear H
    go_enter Try.func77, Try.ntmps77
    go_wp2
    repeat (go_quiet (fail); try go_wp2)
    go_loopg [13] k (fun kq v13 w' => ∃ (x13_1 : Int), v13 = .int .i64 x13_1 ∧ Aside0 (rhizomeref01_Texts.l0 kq l0 l1 (l0.length : Int) x13_1 = some r) ∧ Aside0 (kq ≤ k) ∧ Drawn0 w w')
    case atStart => exact ⟨(0), (by first | rfl | (simp; done) | (simp [*]; done)), H', ⟨Nat.le_refl _⟩, by repeat (first | exact Drawn0.refl _ | apply Drawn0.step)⟩
    case round =>
      clear H'
      try clear c1
      try clear p2
      try clear c3
      try clear c3b0
      try clear c3b1
      try clear c3b2
      obtain ⟨x13_1, rfl, HA, HK1, ⟨m1, rfl⟩⟩ := hrel
      cases gk with
      | zero => exact absurd HA.out (by simp [rhizomeref01_Texts.l0])
      | succ k1 =>
        have H := HA.out
        clear HA
        simp only [rhizomeref01_Texts.l0] at H
        by_cases c4 : x13_1 < (l0.length : Int)
        · rw [if_pos c4] at H
          have c4b0 : decide (x13_1 < (l0.length : Int)) = true := decide_eq_true c4
          clear c4
          by_cases c5 : 0 ≤ x13_1
          · rw [if_pos c5] at H
            have c5b0 : decide (0 ≤ x13_1) = true := decide_eq_true c5
            clear c5
            by_cases c6 : x13_1 < (l0.length : Int)
            · rw [if_pos c6] at H
              have c6b0 : decide (x13_1 < (l0.length : Int)) = true := decide_eq_true c6
              clear c6
              by_cases c7 : x13_1 < (l1.length : Int)
              · rw [if_pos c7] at H
                have c7b0 : decide (x13_1 < (l1.length : Int)) = true := decide_eq_true c7
                clear c7
                by_cases c8 : (rdOf ByteArray.empty l0 x13_1).toList = (rdOf ByteArray.empty l1 x13_1).toList
                · rw [if_pos c8] at H
                  have c8b0 : ((rdOf ByteArray.empty l0 x13_1).toList == (rdOf ByteArray.empty l1 x13_1).toList) = true := beq_iff_eq.mpr c8
                  have c8b1 : ((rdOf ByteArray.empty l0 x13_1).toList != (rdOf ByteArray.empty l1 x13_1).toList) = false := bne_eq_false_iff_eq.mpr c8
                  clear c8
                  have H' := Aside0.mk H
                  clear H
                  have p280 : 0 ≤ (x13_1 : Int) := of_decide_eq_true (by first | (with_reducible assumption) | assumption)
                  have q280 : x13_1 < (l0.length : Int) := of_decide_eq_true (by first | (with_reducible assumption) | assumption)
                  obtain ⟨ad280, e280, hx280_0⟩ := Kd.at_string HR0.out x13_1 p280 q280
                  cases e280
                  replace p280 := eq_true p280
                  replace q280 := eq_true q280
                  have p281 : 0 ≤ (x13_1 : Int) := of_decide_eq_true (by first | (with_reducible assumption) | assumption)
                  have q281 : x13_1 < (l1.length : Int) := of_decide_eq_true (by first | (with_reducible assumption) | assumption)
                  obtain ⟨ad281, e281, hx281_0⟩ := Kd.at_string HR1.out x13_1 p281 q281
                  cases e281
                  replace p281 := eq_true p281
                  replace q281 := eq_true q281
                  go_wp2
                  repeat (go_quiet (fail); try go_wp2)
                  go_roundg k1
                  case measure => have := HK1.out; omega
                  case rel => exact ⟨(wrap64 (x13_1 + 1)), (by first | rfl | (simp; done) | (simp [*]; done)), H', ⟨by have := HK1.out; omega⟩, by repeat (first | exact Drawn0.refl _ | apply Drawn0.step)⟩
                · rw [if_neg c8] at H
                  have c8b0 : ((rdOf ByteArray.empty l0 x13_1).toList == (rdOf ByteArray.empty l1 x13_1).toList) = false := beq_eq_false_iff_ne.mpr c8
                  have c8b1 : ((rdOf ByteArray.empty l0 x13_1).toList != (rdOf ByteArray.empty l1 x13_1).toList) = true := bne_iff_ne.mpr c8
                  obtain rfl := Option.some.inj H
                  have p280 : 0 ≤ (x13_1 : Int) := of_decide_eq_true (by first | (with_reducible assumption) | assumption)
                  have q280 : x13_1 < (l0.length : Int) := of_decide_eq_true (by first | (with_reducible assumption) | assumption)
                  obtain ⟨ad280, e280, hx280_0⟩ := Kd.at_string HR0.out x13_1 p280 q280
                  cases e280
                  replace p280 := eq_true p280
                  replace q280 := eq_true q280
                  have p281 : 0 ≤ (x13_1 : Int) := of_decide_eq_true (by first | (with_reducible assumption) | assumption)
                  have q281 : x13_1 < (l1.length : Int) := of_decide_eq_true (by first | (with_reducible assumption) | assumption)
                  obtain ⟨ad281, e281, hx281_0⟩ := Kd.at_string HR1.out x13_1 p281 q281
                  cases e281
                  replace p281 := eq_true p281
                  replace q281 := eq_true q281
                  go_wp2
                  repeat (go_quiet (fail); try go_wp2)
                  go_ret
                  exact ⟨by first | rfl | (simp; done) | (simp [*]; done), by repeat (first | exact Drawn0.refl _ | apply Drawn0.step)⟩
              · rw [if_neg c7] at H
                exact absurd H (by simp)
            · rw [if_neg c6] at H
              exact absurd H (by simp)
          · rw [if_neg c5] at H
            exact absurd H (by simp)
        · rw [if_neg c4] at H
          have c4b0 : decide (x13_1 < (l0.length : Int)) = false := decide_eq_false c4
          clear c4
          obtain rfl := Option.some.inj H
          go_wp2
          repeat (go_quiet (fail); try go_wp2)
          go_ret
          exact ⟨by first | rfl | (simp; done) | (simp [*]; done), by repeat (first | exact Drawn0.refl _ | apply Drawn0.step)⟩
  · rw [if_neg c3] at H
    have c3b0 : ((l0.length : Int) == (l1.length : Int)) = false := beq_eq_false_iff_ne.mpr c3
    have c3b1 : ((l0.length : Int) != (l1.length : Int)) = true := bne_iff_ne.mpr c3
    have c3b2 : (l0.length == l1.length) = false := by first | simpa using c3 | (simp at c3 ⊢; omega)
    obtain rfl := Option.some.inj H
    go_enter Try.func77, Try.ntmps77
    go_wp2
    repeat (go_quiet (fail); try go_wp2)
    go_ret
    exact ⟨by first | rfl | (simp; done) | (simp [*]; done), by repeat (first | exact Drawn0.refl _ | apply Drawn0.step)⟩

/-! ### rhizomeref09_Same: function 33 -/
def rhizomeref09_Same.l0 : Nat → Int → Int → ByteArray → Int → List ByteArray → List (S118) → ByteArray → ByteArray → Int → List ByteArray → List (S118) → ByteArray → Option (Bool)
  | 0, _, _, _, _, _, _, _, _, _, _, _, _ => none
  | k + 1, x15, x16, x283000, x283001, x283002, x283003, x283004, x284000, x284001, x284002, x284003, x284004 => if x16 < x15 then (if 0 ≤ x16 then (if x16 < (x283003.length : Int) then (if x16 < (x284003.length : Int) then (if (!((((rd_T118 x283003 x16).f0).toList) == (((rd_T118 x284003 x16).f0).toList)) || (!((((rd_T118 x283003 x16).f1).toList) == (((rd_T118 x284003 x16).f1).toList)) || (!((((rd_T118 x283003 x16).f2).toList) == (((rd_T118 x284003 x16).f2).toList))))) = true then (some false) else (rhizomeref09_Same.l0 k x15 (wrap64 (x16 + 1)) x283000 x283001 x283002 x283003 x283004 x284000 x284001 x284002 x284003 x284004)) else (none)) else (none)) else (none)) else (if x283000.toList = x284000.toList then (if x283001 = x284001 then (if x283004.toList = x284004.toList then ((rhizomeref01_Texts.f k x283002 x284002).bind fun t286 => (some t286)) else (some false)) else (some false)) else (some false))
def rhizomeref09_Same.f (k : Nat) (a0_0 : ByteArray) (a0_1 : Int) (l0_2 : List ByteArray) (l0_3 : List (S118)) (a0_4 : ByteArray) (a1_0 : ByteArray) (a1_1 : Int) (l1_2 : List ByteArray) (l1_3 : List (S118)) (a1_4 : ByteArray) : Option (Bool) := if (l0_3.length : Int) = (l1_3.length : Int) then (rhizomeref09_Same.l0 k (l0_3.length : Int) 0 a0_0 a0_1 l0_2 l0_3 a0_4 a1_0 a1_1 l1_2 l1_3 a1_4) else (some false)
theorem rhizomeref09_Same.mono_l : ∀ k, (∀ y0 y1 y2 y3 y4 y5 y6 y7 y8 y9 y10 y11, LeO (rhizomeref09_Same.l0 k y0 y1 y2 y3 y4 y5 y6 y7 y8 y9 y10 y11) (rhizomeref09_Same.l0 (k + 1) y0 y1 y2 y3 y4 y5 y6 y7 y8 y9 y10 y11))
  | 0 => fun _ _ _ _ _ _ _ _ _ _ _ _ r h => by simp [rhizomeref09_Same.l0] at h
  | k + 1 => by
    have ih0 := rhizomeref09_Same.mono_l k
    · intro y0 y1 y2 y3 y4 y5 y6 y7 y8 y9 y10 y11
      unfold rhizomeref09_Same.l0
      repeat' first
      | (with_reducible exact ih0 _ _ _ _ _ _ _ _ _ _ _ _)
      | (with_reducible exact rhizomeref01_Texts.mono _ _ _)
      | (with_reducible exact LeO.refl _)
      | (with_reducible exact LeO.none _)
      | (with_reducible refine LeO.ite ?_ ?_)
      | (with_reducible refine LeO.bind ?_ (fun _ => ?_))
      | exact ih0 _ _ _ _ _ _ _ _ _ _ _ _
      | exact rhizomeref01_Texts.mono _ _ _
      | exact LeO.none _
      | refine LeO.ite ?_ ?_
      | refine LeO.bind ?_ (fun _ => ?_)
theorem rhizomeref09_Same.mono : ∀ a0 a1 a2 a3 a4 a5 a6 a7 a8 a9 k, LeO (rhizomeref09_Same.f k a0 a1 a2 a3 a4 a5 a6 a7 a8 a9) (rhizomeref09_Same.f (k + 1) a0 a1 a2 a3 a4 a5 a6 a7 a8 a9) := by
  intro a0 a1 a2 a3 a4 a5 a6 a7 a8 a9 k
  have ih0 := rhizomeref09_Same.mono_l k
  unfold rhizomeref09_Same.f
  repeat' first
      | (with_reducible exact ih0 _ _ _ _ _ _ _ _ _ _ _ _)
      | (with_reducible exact rhizomeref01_Texts.mono _ _ _)
      | (with_reducible exact LeO.refl _)
      | (with_reducible exact LeO.none _)
      | (with_reducible refine LeO.ite ?_ ?_)
      | (with_reducible refine LeO.bind ?_ (fun _ => ?_))
      | exact ih0 _ _ _ _ _ _ _ _ _ _ _ _
      | exact rhizomeref01_Texts.mono _ _ _
      | exact LeO.none _
      | refine LeO.ite ?_ ?_
      | refine LeO.bind ?_ (fun _ => ?_)
set_option maxHeartbeats 8000000 in
set_option maxRecDepth 100000 in
theorem rhizomeref09_Same.calls (k : Nat) (a0_0 : ByteArray) (a0_1 : Int) (A0_2 : Option Addr) (c0_2 : Nat) (l0_2 : List ByteArray) (A0_3 : Option Addr) (c0_3 : Nat) (l0_3 : List (S118)) (a0_4 : ByteArray) (a1_0 : ByteArray) (a1_1 : Int) (A1_2 : Option Addr) (c1_2 : Nat) (l1_2 : List ByteArray) (A1_3 : Option Addr) (c1_3 : Nat) (l1_3 : List (S118)) (a1_4 : ByteArray) (r : Bool) (w : World) (hr0_2 : Kd.C Kd.string w A0_2 l0_2.length l0_2) (hc0_2 : l0_2.length ≤ c0_2) (hr0_3 : Kd.C k118 w A0_3 l0_3.length l0_3) (hc0_3 : l0_3.length ≤ c0_3) (hr1_2 : Kd.C Kd.string w A1_2 l1_2.length l1_2) (hc1_2 : l1_2.length ≤ c1_2) (hr1_3 : Kd.C k118 w A1_3 l1_3.length l1_3) (hc1_3 : l1_3.length ≤ c1_3) (h : rhizomeref09_Same.f k a0_0 a0_1 l0_2 l0_3 a0_4 a1_0 a1_1 l1_2 l1_3 a1_4 = some r) :
    Calls Try.prog 33 #[.agg #[.string a0_0, .int .i64 a0_1, .slice A0_2 l0_2.length c0_2, .slice A0_3 l0_3.length c0_3, .string a0_4], .agg #[.string a1_0, .int .i64 a1_1, .slice A1_2 l1_2.length c1_2, .slice A1_3 l1_3.length c1_3, .string a1_4]] w fun e w' => e = .returned (.bool r) ∧ Below w.heap.size w w' := by
  have hu59 := Try.underlying59
  have hu118 := Try.underlying118
  have HR0_2 := Aside0.mk hr0_2
  have HC0_2 := Aside0.mk hc0_2
  clear hr0_2 hc0_2
  have HR0_3 := Aside0.mk hr0_3
  have HC0_3 := Aside0.mk hc0_3
  clear hr0_3 hc0_3
  have HR1_2 := Aside0.mk hr1_2
  have HC1_2 := Aside0.mk hc1_2
  clear hr1_2 hc1_2
  have HR1_3 := Aside0.mk hr1_3
  have HC1_3 := Aside0.mk hc1_3
  clear hr1_3 hc1_3
  have HB := Aside0.mk (Below.refl w.heap.size w)
  have H : (if (l0_3.length : Int) = (l1_3.length : Int) then (rhizomeref09_Same.l0 k (l0_3.length : Int) 0 a0_0 a0_1 l0_2 l0_3 a0_4 a1_0 a1_1 l1_2 l1_3 a1_4) else (some false)) = some r := h
  clear h
  by_cases c3 : (l0_3.length : Int) = (l1_3.length : Int)
  · rw [if_pos c3] at H
    have c3b0 : ((l0_3.length : Int) == (l1_3.length : Int)) = true := beq_iff_eq.mpr c3
    have c3b1 : ((l0_3.length : Int) != (l1_3.length : Int)) = false := bne_eq_false_iff_eq.mpr c3
    have c3b2 : (l0_3.length == l1_3.length) = true := by first | simpa using c3 | (simp at c3 ⊢; omega)
    clear c3
    have H' := Aside0.mk H
    clear H
    go_enter Try.func33, Try.ntmps33
    go_wp2_with (first | ((with_reducible refine gate_dst (N := 2) rfl ?_); refine box_event ?hg (N := 2) ?hd (cs := #[.string a0_0, .int .i64 a0_1, .slice A0_2 l0_2.length c0_2, .slice A0_3 l0_3.length c0_3, .string a0_4]) (t := 59) ?hr ?_; (case hd => rfl); (case hg => rfl); (case hr => first | (go_simp; done) | (go_simp; rfl)); intro gb282 hg w4 hbox hb; have n0_ := Aside0.mk (below_step (by repeat (first | (with_reducible first | exact HB.out | apply below_alloc | apply pw_below_drewN | apply below_drew1) | exact HB.out)) hb); have n1_ := Aside0.mk (hbox); have n2_ := Aside0.mk ((by rw [hg]; exact (below_size (by repeat (first | (with_reducible first | exact HB.out | apply below_alloc | apply pw_below_drewN | apply below_drew1) | exact HB.out))) : w.heap.size ≤ gb282)); have n3_ := Aside0.mk ((by rw [hg]; exact (below_size (by repeat (first | (with_reducible first | exact HB.out | apply below_alloc | apply pw_below_drewN | apply below_drew1) | exact HB.out))) : w.heap.size ≤ gb282)); clear HB; have HB := n0_; have BK282 := n1_; have GW282 := n2_; have GE282 := n3_; clear n0_ n1_ n2_ n3_; clear hb hbox hg) | ((with_reducible refine gate_dst (N := 3) rfl ?_); refine box_event ?hg (N := 3) ?hd (cs := #[.string a1_0, .int .i64 a1_1, .slice A1_2 l1_2.length c1_2, .slice A1_3 l1_3.length c1_3, .string a1_4]) (t := 59) ?hr ?_; (case hd => rfl); (case hg => rfl); (case hr => first | (go_simp; done) | (go_simp; rfl)); intro gb283 hg w5 hbox hb; have n0_ := Aside0.mk (blk_below (g := gb282) (o := .cells #[.string a0_0, .int .i64 a0_1, .slice A0_2 l0_2.length c0_2, .slice A0_3 l0_3.length c0_3, .string a0_4] 59 (0, 0)) (by (with_reducible repeat (first | refine blk_drewN ?_ _ | refine blk_drew ?_ | refine blk_alloc ?_ _)); exact BK282.out) hb); have n1_ := Aside0.mk (below_step (by repeat (first | (with_reducible first | exact HB.out | apply below_alloc | apply pw_below_drewN | apply below_drew1 | refine below_set ?_ GE282.out) | exact HB.out)) hb); have n2_ := Aside0.mk (hbox); have n3_ := Aside0.mk ((by rw [hg]; exact (below_size (by repeat (first | (with_reducible first | exact HB.out | apply below_alloc | apply pw_below_drewN | apply below_drew1 | refine below_set ?_ GE282.out) | exact HB.out))) : w.heap.size ≤ gb283)); have n4_ := Aside0.mk ((by rw [hg]; exact (below_size (by repeat (first | (with_reducible first | exact HB.out | apply below_alloc | apply pw_below_drewN | apply below_drew1 | refine below_set ?_ GE282.out) | exact HB.out))) : w.heap.size ≤ gb283)); have n5_ := Aside0.mk ((by rw [hg]; exact Nat.ne_of_lt (blk_lt (g := gb282) (o := .cells #[.string a0_0, .int .i64 a0_1, .slice A0_2 l0_2.length c0_2, .slice A0_3 l0_3.length c0_3, .string a0_4] 59 (0, 0)) (by (with_reducible repeat (first | refine blk_drewN ?_ _ | refine blk_drew ?_ | refine blk_alloc ?_ _)); exact BK282.out)) : gb282 ≠ gb283)); have n6_ := Aside0.mk ((by rw [hg]; exact Nat.ne_of_gt (blk_lt (g := gb282) (o := .cells #[.string a0_0, .int .i64 a0_1, .slice A0_2 l0_2.length c0_2, .slice A0_3 l0_3.length c0_3, .string a0_4] 59 (0, 0)) (by (with_reducible repeat (first | refine blk_drewN ?_ _ | refine blk_drew ?_ | refine blk_alloc ?_ _)); exact BK282.out)) : gb283 ≠ gb282)); clear BK282; clear HB; have BK282 := n0_; have HB := n1_; have BK283 := n2_; have GW283 := n3_; have GE283 := n4_; have NB282_283 := n5_; have NB283_282 := n6_; clear n0_ n1_ n2_ n3_ n4_ n5_ n6_; clear hb hbox hg; have hnb6 := NB282_283.out; have hnc6 := NB283_282.out; have hcz7_0 : w5.cell? ⟨gb282, 0, none⟩ = some (.string a0_0) := (blk_cell BK282.out 0).trans rfl; have hcz7_1 : w5.cell? ⟨gb282, 1, none⟩ = some (.int .i64 a0_1) := (blk_cell BK282.out 1).trans rfl; have hcz7_2 : w5.cell? ⟨gb282, 2, none⟩ = some (.slice A0_2 l0_2.length c0_2) := (blk_cell BK282.out 2).trans rfl; have hcz7_3 : w5.cell? ⟨gb282, 3, none⟩ = some (.slice A0_3 l0_3.length c0_3) := (blk_cell BK282.out 3).trans rfl; have hcz7_4 : w5.cell? ⟨gb282, 4, none⟩ = some (.string a0_4) := (blk_cell BK282.out 4).trans rfl; have hfz7_0 := blk_frozen BK282.out 0; have hfz7_1 := blk_frozen BK282.out 1; have hfz7_2 := blk_frozen BK282.out 2; have hfz7_3 := blk_frozen BK282.out 3; have hfz7_4 := blk_frozen BK282.out 4; have hcz8_0 : w5.cell? ⟨gb283, 0, none⟩ = some (.string a1_0) := (blk_cell BK283.out 0).trans rfl; have hcz8_1 : w5.cell? ⟨gb283, 1, none⟩ = some (.int .i64 a1_1) := (blk_cell BK283.out 1).trans rfl; have hcz8_2 : w5.cell? ⟨gb283, 2, none⟩ = some (.slice A1_2 l1_2.length c1_2) := (blk_cell BK283.out 2).trans rfl; have hcz8_3 : w5.cell? ⟨gb283, 3, none⟩ = some (.slice A1_3 l1_3.length c1_3) := (blk_cell BK283.out 3).trans rfl; have hcz8_4 : w5.cell? ⟨gb283, 4, none⟩ = some (.string a1_4) := (blk_cell BK283.out 4).trans rfl; have hfz8_0 := blk_frozen BK283.out 0; have hfz8_1 := blk_frozen BK283.out 1; have hfz8_2 := blk_frozen BK283.out 2; have hfz8_3 := blk_frozen BK283.out 3; have hfz8_4 := blk_frozen BK283.out 4))
    repeat (go_quiet (first | ((with_reducible refine gate_dst (N := 2) rfl ?_); refine box_event ?hg (N := 2) ?hd (cs := #[.string a0_0, .int .i64 a0_1, .slice A0_2 l0_2.length c0_2, .slice A0_3 l0_3.length c0_3, .string a0_4]) (t := 59) ?hr ?_; (case hd => rfl); (case hg => rfl); (case hr => first | (go_simp; done) | (go_simp; rfl)); intro gb282 hg w4 hbox hb; have n0_ := Aside0.mk (below_step (by repeat (first | (with_reducible first | exact HB.out | apply below_alloc | apply pw_below_drewN | apply below_drew1) | exact HB.out)) hb); have n1_ := Aside0.mk (hbox); have n2_ := Aside0.mk ((by rw [hg]; exact (below_size (by repeat (first | (with_reducible first | exact HB.out | apply below_alloc | apply pw_below_drewN | apply below_drew1) | exact HB.out))) : w.heap.size ≤ gb282)); have n3_ := Aside0.mk ((by rw [hg]; exact (below_size (by repeat (first | (with_reducible first | exact HB.out | apply below_alloc | apply pw_below_drewN | apply below_drew1) | exact HB.out))) : w.heap.size ≤ gb282)); clear HB; have HB := n0_; have BK282 := n1_; have GW282 := n2_; have GE282 := n3_; clear n0_ n1_ n2_ n3_; clear hb hbox hg) | ((with_reducible refine gate_dst (N := 3) rfl ?_); refine box_event ?hg (N := 3) ?hd (cs := #[.string a1_0, .int .i64 a1_1, .slice A1_2 l1_2.length c1_2, .slice A1_3 l1_3.length c1_3, .string a1_4]) (t := 59) ?hr ?_; (case hd => rfl); (case hg => rfl); (case hr => first | (go_simp; done) | (go_simp; rfl)); intro gb283 hg w5 hbox hb; have n0_ := Aside0.mk (blk_below (g := gb282) (o := .cells #[.string a0_0, .int .i64 a0_1, .slice A0_2 l0_2.length c0_2, .slice A0_3 l0_3.length c0_3, .string a0_4] 59 (0, 0)) (by (with_reducible repeat (first | refine blk_drewN ?_ _ | refine blk_drew ?_ | refine blk_alloc ?_ _)); exact BK282.out) hb); have n1_ := Aside0.mk (below_step (by repeat (first | (with_reducible first | exact HB.out | apply below_alloc | apply pw_below_drewN | apply below_drew1 | refine below_set ?_ GE282.out) | exact HB.out)) hb); have n2_ := Aside0.mk (hbox); have n3_ := Aside0.mk ((by rw [hg]; exact (below_size (by repeat (first | (with_reducible first | exact HB.out | apply below_alloc | apply pw_below_drewN | apply below_drew1 | refine below_set ?_ GE282.out) | exact HB.out))) : w.heap.size ≤ gb283)); have n4_ := Aside0.mk ((by rw [hg]; exact (below_size (by repeat (first | (with_reducible first | exact HB.out | apply below_alloc | apply pw_below_drewN | apply below_drew1 | refine below_set ?_ GE282.out) | exact HB.out))) : w.heap.size ≤ gb283)); have n5_ := Aside0.mk ((by rw [hg]; exact Nat.ne_of_lt (blk_lt (g := gb282) (o := .cells #[.string a0_0, .int .i64 a0_1, .slice A0_2 l0_2.length c0_2, .slice A0_3 l0_3.length c0_3, .string a0_4] 59 (0, 0)) (by (with_reducible repeat (first | refine blk_drewN ?_ _ | refine blk_drew ?_ | refine blk_alloc ?_ _)); exact BK282.out)) : gb282 ≠ gb283)); have n6_ := Aside0.mk ((by rw [hg]; exact Nat.ne_of_gt (blk_lt (g := gb282) (o := .cells #[.string a0_0, .int .i64 a0_1, .slice A0_2 l0_2.length c0_2, .slice A0_3 l0_3.length c0_3, .string a0_4] 59 (0, 0)) (by (with_reducible repeat (first | refine blk_drewN ?_ _ | refine blk_drew ?_ | refine blk_alloc ?_ _)); exact BK282.out)) : gb283 ≠ gb282)); clear BK282; clear HB; have BK282 := n0_; have HB := n1_; have BK283 := n2_; have GW283 := n3_; have GE283 := n4_; have NB282_283 := n5_; have NB283_282 := n6_; clear n0_ n1_ n2_ n3_ n4_ n5_ n6_; clear hb hbox hg; have hnb6 := NB282_283.out; have hnc6 := NB283_282.out; have hcz7_0 : w5.cell? ⟨gb282, 0, none⟩ = some (.string a0_0) := (blk_cell BK282.out 0).trans rfl; have hcz7_1 : w5.cell? ⟨gb282, 1, none⟩ = some (.int .i64 a0_1) := (blk_cell BK282.out 1).trans rfl; have hcz7_2 : w5.cell? ⟨gb282, 2, none⟩ = some (.slice A0_2 l0_2.length c0_2) := (blk_cell BK282.out 2).trans rfl; have hcz7_3 : w5.cell? ⟨gb282, 3, none⟩ = some (.slice A0_3 l0_3.length c0_3) := (blk_cell BK282.out 3).trans rfl; have hcz7_4 : w5.cell? ⟨gb282, 4, none⟩ = some (.string a0_4) := (blk_cell BK282.out 4).trans rfl; have hfz7_0 := blk_frozen BK282.out 0; have hfz7_1 := blk_frozen BK282.out 1; have hfz7_2 := blk_frozen BK282.out 2; have hfz7_3 := blk_frozen BK282.out 3; have hfz7_4 := blk_frozen BK282.out 4; have hcz8_0 : w5.cell? ⟨gb283, 0, none⟩ = some (.string a1_0) := (blk_cell BK283.out 0).trans rfl; have hcz8_1 : w5.cell? ⟨gb283, 1, none⟩ = some (.int .i64 a1_1) := (blk_cell BK283.out 1).trans rfl; have hcz8_2 : w5.cell? ⟨gb283, 2, none⟩ = some (.slice A1_2 l1_2.length c1_2) := (blk_cell BK283.out 2).trans rfl; have hcz8_3 : w5.cell? ⟨gb283, 3, none⟩ = some (.slice A1_3 l1_3.length c1_3) := (blk_cell BK283.out 3).trans rfl; have hcz8_4 : w5.cell? ⟨gb283, 4, none⟩ = some (.string a1_4) := (blk_cell BK283.out 4).trans rfl; have hfz8_0 := blk_frozen BK283.out 0; have hfz8_1 := blk_frozen BK283.out 1; have hfz8_2 := blk_frozen BK283.out 2; have hfz8_3 := blk_frozen BK283.out 3; have hfz8_4 := blk_frozen BK283.out 4)); try go_wp2_with (first | ((with_reducible refine gate_dst (N := 2) rfl ?_); refine box_event ?hg (N := 2) ?hd (cs := #[.string a0_0, .int .i64 a0_1, .slice A0_2 l0_2.length c0_2, .slice A0_3 l0_3.length c0_3, .string a0_4]) (t := 59) ?hr ?_; (case hd => rfl); (case hg => rfl); (case hr => first | (go_simp; done) | (go_simp; rfl)); intro gb282 hg w4 hbox hb; have n0_ := Aside0.mk (below_step (by repeat (first | (with_reducible first | exact HB.out | apply below_alloc | apply pw_below_drewN | apply below_drew1) | exact HB.out)) hb); have n1_ := Aside0.mk (hbox); have n2_ := Aside0.mk ((by rw [hg]; exact (below_size (by repeat (first | (with_reducible first | exact HB.out | apply below_alloc | apply pw_below_drewN | apply below_drew1) | exact HB.out))) : w.heap.size ≤ gb282)); have n3_ := Aside0.mk ((by rw [hg]; exact (below_size (by repeat (first | (with_reducible first | exact HB.out | apply below_alloc | apply pw_below_drewN | apply below_drew1) | exact HB.out))) : w.heap.size ≤ gb282)); clear HB; have HB := n0_; have BK282 := n1_; have GW282 := n2_; have GE282 := n3_; clear n0_ n1_ n2_ n3_; clear hb hbox hg) | ((with_reducible refine gate_dst (N := 3) rfl ?_); refine box_event ?hg (N := 3) ?hd (cs := #[.string a1_0, .int .i64 a1_1, .slice A1_2 l1_2.length c1_2, .slice A1_3 l1_3.length c1_3, .string a1_4]) (t := 59) ?hr ?_; (case hd => rfl); (case hg => rfl); (case hr => first | (go_simp; done) | (go_simp; rfl)); intro gb283 hg w5 hbox hb; have n0_ := Aside0.mk (blk_below (g := gb282) (o := .cells #[.string a0_0, .int .i64 a0_1, .slice A0_2 l0_2.length c0_2, .slice A0_3 l0_3.length c0_3, .string a0_4] 59 (0, 0)) (by (with_reducible repeat (first | refine blk_drewN ?_ _ | refine blk_drew ?_ | refine blk_alloc ?_ _)); exact BK282.out) hb); have n1_ := Aside0.mk (below_step (by repeat (first | (with_reducible first | exact HB.out | apply below_alloc | apply pw_below_drewN | apply below_drew1 | refine below_set ?_ GE282.out) | exact HB.out)) hb); have n2_ := Aside0.mk (hbox); have n3_ := Aside0.mk ((by rw [hg]; exact (below_size (by repeat (first | (with_reducible first | exact HB.out | apply below_alloc | apply pw_below_drewN | apply below_drew1 | refine below_set ?_ GE282.out) | exact HB.out))) : w.heap.size ≤ gb283)); have n4_ := Aside0.mk ((by rw [hg]; exact (below_size (by repeat (first | (with_reducible first | exact HB.out | apply below_alloc | apply pw_below_drewN | apply below_drew1 | refine below_set ?_ GE282.out) | exact HB.out))) : w.heap.size ≤ gb283)); have n5_ := Aside0.mk ((by rw [hg]; exact Nat.ne_of_lt (blk_lt (g := gb282) (o := .cells #[.string a0_0, .int .i64 a0_1, .slice A0_2 l0_2.length c0_2, .slice A0_3 l0_3.length c0_3, .string a0_4] 59 (0, 0)) (by (with_reducible repeat (first | refine blk_drewN ?_ _ | refine blk_drew ?_ | refine blk_alloc ?_ _)); exact BK282.out)) : gb282 ≠ gb283)); have n6_ := Aside0.mk ((by rw [hg]; exact Nat.ne_of_gt (blk_lt (g := gb282) (o := .cells #[.string a0_0, .int .i64 a0_1, .slice A0_2 l0_2.length c0_2, .slice A0_3 l0_3.length c0_3, .string a0_4] 59 (0, 0)) (by (with_reducible repeat (first | refine blk_drewN ?_ _ | refine blk_drew ?_ | refine blk_alloc ?_ _)); exact BK282.out)) : gb283 ≠ gb282)); clear BK282; clear HB; have BK282 := n0_; have HB := n1_; have BK283 := n2_; have GW283 := n3_; have GE283 := n4_; have NB282_283 := n5_; have NB283_282 := n6_; clear n0_ n1_ n2_ n3_ n4_ n5_ n6_; clear hb hbox hg; have hnb6 := NB282_283.out; have hnc6 := NB283_282.out; have hcz7_0 : w5.cell? ⟨gb282, 0, none⟩ = some (.string a0_0) := (blk_cell BK282.out 0).trans rfl; have hcz7_1 : w5.cell? ⟨gb282, 1, none⟩ = some (.int .i64 a0_1) := (blk_cell BK282.out 1).trans rfl; have hcz7_2 : w5.cell? ⟨gb282, 2, none⟩ = some (.slice A0_2 l0_2.length c0_2) := (blk_cell BK282.out 2).trans rfl; have hcz7_3 : w5.cell? ⟨gb282, 3, none⟩ = some (.slice A0_3 l0_3.length c0_3) := (blk_cell BK282.out 3).trans rfl; have hcz7_4 : w5.cell? ⟨gb282, 4, none⟩ = some (.string a0_4) := (blk_cell BK282.out 4).trans rfl; have hfz7_0 := blk_frozen BK282.out 0; have hfz7_1 := blk_frozen BK282.out 1; have hfz7_2 := blk_frozen BK282.out 2; have hfz7_3 := blk_frozen BK282.out 3; have hfz7_4 := blk_frozen BK282.out 4; have hcz8_0 : w5.cell? ⟨gb283, 0, none⟩ = some (.string a1_0) := (blk_cell BK283.out 0).trans rfl; have hcz8_1 : w5.cell? ⟨gb283, 1, none⟩ = some (.int .i64 a1_1) := (blk_cell BK283.out 1).trans rfl; have hcz8_2 : w5.cell? ⟨gb283, 2, none⟩ = some (.slice A1_2 l1_2.length c1_2) := (blk_cell BK283.out 2).trans rfl; have hcz8_3 : w5.cell? ⟨gb283, 3, none⟩ = some (.slice A1_3 l1_3.length c1_3) := (blk_cell BK283.out 3).trans rfl; have hcz8_4 : w5.cell? ⟨gb283, 4, none⟩ = some (.string a1_4) := (blk_cell BK283.out 4).trans rfl; have hfz8_0 := blk_frozen BK283.out 0; have hfz8_1 := blk_frozen BK283.out 1; have hfz8_2 := blk_frozen BK283.out 2; have hfz8_3 := blk_frozen BK283.out 3; have hfz8_4 := blk_frozen BK283.out 4)))
    go_loopg [16] k (fun kq v16 w' => ∃ (x16_1 : Int), v16 = .int .i64 x16_1 ∧ Aside0 (rhizomeref09_Same.l0 kq (l0_3.length : Int) x16_1 a0_0 a0_1 l0_2 l0_3 a0_4 a1_0 a1_1 l1_2 l1_3 a1_4 = some r) ∧ Aside0 (kq ≤ k) ∧ Aside0 (w'.heap[gb282]? = some (.cells #[.string a0_0, .int .i64 a0_1, (.slice A0_2 l0_2.length c0_2), (.slice A0_3 l0_3.length c0_3), .string a0_4] 59 (0, 0))) ∧ Aside0 (w'.heap[gb283]? = some (.cells #[.string a1_0, .int .i64 a1_1, (.slice A1_2 l1_2.length c1_2), (.slice A1_3 l1_3.length c1_3), .string a1_4] 59 (0, 0))) ∧ Aside0 (Below w.heap.size w w'))
    case atStart => exact ⟨(0), (by first | rfl | (simp; done) | (simp [*]; done)), H', ⟨Nat.le_refl _⟩, ⟨by (with_reducible repeat (first | refine blk_drewN ?_ _ | refine blk_drew ?_ | refine blk_alloc ?_ _)); exact BK282.out⟩, ⟨by (with_reducible repeat (first | refine blk_drewN ?_ _ | refine blk_drew ?_ | refine blk_alloc ?_ _)); exact BK283.out⟩, ⟨by repeat (first | (with_reducible first | exact HB.out | apply below_alloc | apply pw_below_drewN | apply below_drew1 | refine below_set ?_ GE282.out | refine below_set ?_ GE283.out) | exact HB.out)⟩⟩
    case round =>
      clear H'
      try clear c1
      try clear p2
      try clear c3
      try clear c3b0
      try clear c3b1
      try clear c3b2
      try clear c6
      try clear hcz7_0
      try clear hcz7_1
      try clear hcz7_2
      try clear hcz7_3
      try clear hcz7_4
      try clear hcz8_0
      try clear hcz8_1
      try clear hcz8_2
      try clear hcz8_3
      try clear hcz8_4
      try clear hfz7_0
      try clear hfz7_1
      try clear hfz7_2
      try clear hfz7_3
      try clear hfz7_4
      try clear hfz8_0
      try clear hfz8_1
      try clear hfz8_2
      try clear hfz8_3
      try clear hfz8_4
      obtain ⟨x16_1, rfl, HA, HK1, BK282, BK283, HB⟩ := hrel
      cases gk with
      | zero => exact absurd HA.out (by simp [rhizomeref09_Same.l0])
      | succ k1 =>
        have H := HA.out
        clear HA
        simp only [rhizomeref09_Same.l0] at H
        by_cases c9 : x16_1 < (l0_3.length : Int)
        · rw [if_pos c9] at H
          have c9b0 : decide (x16_1 < (l0_3.length : Int)) = true := decide_eq_true c9
          clear c9
          by_cases c10 : 0 ≤ x16_1
          · rw [if_pos c10] at H
            have c10b0 : decide (0 ≤ x16_1) = true := decide_eq_true c10
            clear c10
            by_cases c11 : x16_1 < (l0_3.length : Int)
            · rw [if_pos c11] at H
              have c11b0 : decide (x16_1 < (l0_3.length : Int)) = true := decide_eq_true c11
              clear c11
              by_cases c12 : x16_1 < (l1_3.length : Int)
              · rw [if_pos c12] at H
                have c12b0 : decide (x16_1 < (l1_3.length : Int)) = true := decide_eq_true c12
                clear c12
                by_cases c13 : (!((((rd_T118 l0_3 x16_1).f0).toList) == (((rd_T118 l1_3 x16_1).f0).toList)) || (!((((rd_T118 l0_3 x16_1).f1).toList) == (((rd_T118 l1_3 x16_1).f1).toList)) || (!((((rd_T118 l0_3 x16_1).f2).toList) == (((rd_T118 l1_3 x16_1).f2).toList))))) = true
                · rw [if_pos c13] at H
                  have c13b0 : (!((((rd_T118 l0_3 x16_1).f0).toList) == (((rd_T118 l1_3 x16_1).f0).toList)) || (!((((rd_T118 l0_3 x16_1).f1).toList) == (((rd_T118 l1_3 x16_1).f1).toList)) || (!((((rd_T118 l0_3 x16_1).f2).toList) == (((rd_T118 l1_3 x16_1).f2).toList))))) = true := c13
                  clear c13
                  obtain rfl := Option.some.inj H
                  have hnb14 := NB282_283.out
                  have hnc14 := NB283_282.out
                  have hcz15_0 : wr.cell? ⟨gb282, 0, none⟩ = some (.string a0_0) := (blk_cell BK282.out 0).trans rfl
                  have hcz15_1 : wr.cell? ⟨gb282, 1, none⟩ = some (.int .i64 a0_1) := (blk_cell BK282.out 1).trans rfl
                  have hcz15_2 : wr.cell? ⟨gb282, 2, none⟩ = some (.slice A0_2 l0_2.length c0_2) := (blk_cell BK282.out 2).trans rfl
                  have hcz15_3 : wr.cell? ⟨gb282, 3, none⟩ = some (.slice A0_3 l0_3.length c0_3) := (blk_cell BK282.out 3).trans rfl
                  have hcz15_4 : wr.cell? ⟨gb282, 4, none⟩ = some (.string a0_4) := (blk_cell BK282.out 4).trans rfl
                  have hfz15_0 := blk_frozen BK282.out 0
                  have hfz15_1 := blk_frozen BK282.out 1
                  have hfz15_2 := blk_frozen BK282.out 2
                  have hfz15_3 := blk_frozen BK282.out 3
                  have hfz15_4 := blk_frozen BK282.out 4
                  have p284 : 0 ≤ (x16_1 : Int) := of_decide_eq_true (by first | (with_reducible assumption) | assumption)
                  have q284 : x16_1 < (l0_3.length : Int) := of_decide_eq_true (by first | (with_reducible assumption) | assumption)
                  obtain ⟨ad284, e284, hx284_0, hx284_1, hx284_2⟩ := at_T118 HR0_3.out x16_1 p284 q284
                  cases e284
                  replace hx284_0 := (HB.out.cell (World.block_lt_of_cell? w _ hx284_0)).trans hx284_0
                  replace hx284_1 := (HB.out.cell (World.block_lt_of_cell? w _ hx284_1)).trans hx284_1
                  replace hx284_2 := (HB.out.cell (World.block_lt_of_cell? w _ hx284_2)).trans hx284_2
                  replace p284 := eq_true p284
                  replace q284 := eq_true q284
                  have hcz16_0 : wr.cell? ⟨gb283, 0, none⟩ = some (.string a1_0) := (blk_cell BK283.out 0).trans rfl
                  have hcz16_1 : wr.cell? ⟨gb283, 1, none⟩ = some (.int .i64 a1_1) := (blk_cell BK283.out 1).trans rfl
                  have hcz16_2 : wr.cell? ⟨gb283, 2, none⟩ = some (.slice A1_2 l1_2.length c1_2) := (blk_cell BK283.out 2).trans rfl
                  have hcz16_3 : wr.cell? ⟨gb283, 3, none⟩ = some (.slice A1_3 l1_3.length c1_3) := (blk_cell BK283.out 3).trans rfl
                  have hcz16_4 : wr.cell? ⟨gb283, 4, none⟩ = some (.string a1_4) := (blk_cell BK283.out 4).trans rfl
                  have hfz16_0 := blk_frozen BK283.out 0
                  have hfz16_1 := blk_frozen BK283.out 1
                  have hfz16_2 := blk_frozen BK283.out 2
                  have hfz16_3 := blk_frozen BK283.out 3
                  have hfz16_4 := blk_frozen BK283.out 4
                  have p285 : 0 ≤ (x16_1 : Int) := of_decide_eq_true (by first | (with_reducible assumption) | assumption)
                  have q285 : x16_1 < (l1_3.length : Int) := of_decide_eq_true (by first | (with_reducible assumption) | assumption)
                  obtain ⟨ad285, e285, hx285_0, hx285_1, hx285_2⟩ := at_T118 HR1_3.out x16_1 p285 q285
                  cases e285
                  replace hx285_0 := (HB.out.cell (World.block_lt_of_cell? w _ hx285_0)).trans hx285_0
                  replace hx285_1 := (HB.out.cell (World.block_lt_of_cell? w _ hx285_1)).trans hx285_1
                  replace hx285_2 := (HB.out.cell (World.block_lt_of_cell? w _ hx285_2)).trans hx285_2
                  replace p285 := eq_true p285
                  replace q285 := eq_true q285
                  go_wp2
                  repeat (go_quiet (fail); try go_wp2)
                  go_ret
                  exact ⟨by first | rfl | (simp [errW_none, errW_some] <;> rfl) | (simp [*, errW_none, errW_some] <;> rfl), by repeat (first | (with_reducible first | exact HB.out | apply below_alloc | apply pw_below_drewN | apply below_drew1 | refine below_set ?_ GE282.out | refine below_set ?_ GE283.out) | exact HB.out)⟩
                · rw [if_neg c13] at H
                  have c13b0 : (!((((rd_T118 l0_3 x16_1).f0).toList) == (((rd_T118 l1_3 x16_1).f0).toList)) || (!((((rd_T118 l0_3 x16_1).f1).toList) == (((rd_T118 l1_3 x16_1).f1).toList)) || (!((((rd_T118 l0_3 x16_1).f2).toList) == (((rd_T118 l1_3 x16_1).f2).toList))))) = false := by simpa using c13
                  clear c13
                  have H' := Aside0.mk H
                  clear H
                  have hnb17 := NB282_283.out
                  have hnc17 := NB283_282.out
                  have hcz18_0 : wr.cell? ⟨gb282, 0, none⟩ = some (.string a0_0) := (blk_cell BK282.out 0).trans rfl
                  have hcz18_1 : wr.cell? ⟨gb282, 1, none⟩ = some (.int .i64 a0_1) := (blk_cell BK282.out 1).trans rfl
                  have hcz18_2 : wr.cell? ⟨gb282, 2, none⟩ = some (.slice A0_2 l0_2.length c0_2) := (blk_cell BK282.out 2).trans rfl
                  have hcz18_3 : wr.cell? ⟨gb282, 3, none⟩ = some (.slice A0_3 l0_3.length c0_3) := (blk_cell BK282.out 3).trans rfl
                  have hcz18_4 : wr.cell? ⟨gb282, 4, none⟩ = some (.string a0_4) := (blk_cell BK282.out 4).trans rfl
                  have hfz18_0 := blk_frozen BK282.out 0
                  have hfz18_1 := blk_frozen BK282.out 1
                  have hfz18_2 := blk_frozen BK282.out 2
                  have hfz18_3 := blk_frozen BK282.out 3
                  have hfz18_4 := blk_frozen BK282.out 4
                  have p284 : 0 ≤ (x16_1 : Int) := of_decide_eq_true (by first | (with_reducible assumption) | assumption)
                  have q284 : x16_1 < (l0_3.length : Int) := of_decide_eq_true (by first | (with_reducible assumption) | assumption)
                  obtain ⟨ad284, e284, hx284_0, hx284_1, hx284_2⟩ := at_T118 HR0_3.out x16_1 p284 q284
                  cases e284
                  replace hx284_0 := (HB.out.cell (World.block_lt_of_cell? w _ hx284_0)).trans hx284_0
                  replace hx284_1 := (HB.out.cell (World.block_lt_of_cell? w _ hx284_1)).trans hx284_1
                  replace hx284_2 := (HB.out.cell (World.block_lt_of_cell? w _ hx284_2)).trans hx284_2
                  replace p284 := eq_true p284
                  replace q284 := eq_true q284
                  have hcz19_0 : wr.cell? ⟨gb283, 0, none⟩ = some (.string a1_0) := (blk_cell BK283.out 0).trans rfl
                  have hcz19_1 : wr.cell? ⟨gb283, 1, none⟩ = some (.int .i64 a1_1) := (blk_cell BK283.out 1).trans rfl
                  have hcz19_2 : wr.cell? ⟨gb283, 2, none⟩ = some (.slice A1_2 l1_2.length c1_2) := (blk_cell BK283.out 2).trans rfl
                  have hcz19_3 : wr.cell? ⟨gb283, 3, none⟩ = some (.slice A1_3 l1_3.length c1_3) := (blk_cell BK283.out 3).trans rfl
                  have hcz19_4 : wr.cell? ⟨gb283, 4, none⟩ = some (.string a1_4) := (blk_cell BK283.out 4).trans rfl
                  have hfz19_0 := blk_frozen BK283.out 0
                  have hfz19_1 := blk_frozen BK283.out 1
                  have hfz19_2 := blk_frozen BK283.out 2
                  have hfz19_3 := blk_frozen BK283.out 3
                  have hfz19_4 := blk_frozen BK283.out 4
                  have p285 : 0 ≤ (x16_1 : Int) := of_decide_eq_true (by first | (with_reducible assumption) | assumption)
                  have q285 : x16_1 < (l1_3.length : Int) := of_decide_eq_true (by first | (with_reducible assumption) | assumption)
                  obtain ⟨ad285, e285, hx285_0, hx285_1, hx285_2⟩ := at_T118 HR1_3.out x16_1 p285 q285
                  cases e285
                  replace hx285_0 := (HB.out.cell (World.block_lt_of_cell? w _ hx285_0)).trans hx285_0
                  replace hx285_1 := (HB.out.cell (World.block_lt_of_cell? w _ hx285_1)).trans hx285_1
                  replace hx285_2 := (HB.out.cell (World.block_lt_of_cell? w _ hx285_2)).trans hx285_2
                  replace p285 := eq_true p285
                  replace q285 := eq_true q285
                  go_wp2
                  repeat (go_quiet (fail); try go_wp2)
                  go_roundg k1
                  case measure => have := HK1.out; omega
                  case rel => exact ⟨(wrap64 (x16_1 + 1)), (by first | rfl | (simp; done) | (simp [*]; done)), H', ⟨by have := HK1.out; omega⟩, ⟨by (with_reducible repeat (first | refine blk_drewN ?_ _ | refine blk_drew ?_ | refine blk_alloc ?_ _)); exact BK282.out⟩, ⟨by (with_reducible repeat (first | refine blk_drewN ?_ _ | refine blk_drew ?_ | refine blk_alloc ?_ _)); exact BK283.out⟩, ⟨by repeat (first | (with_reducible first | exact HB.out | apply below_alloc | apply pw_below_drewN | apply below_drew1 | refine below_set ?_ GE282.out | refine below_set ?_ GE283.out) | exact HB.out)⟩⟩
              · rw [if_neg c12] at H
                exact absurd H (by simp)
            · rw [if_neg c11] at H
              exact absurd H (by simp)
          · rw [if_neg c10] at H
            exact absurd H (by simp)
        · rw [if_neg c9] at H
          have c9b0 : decide (x16_1 < (l0_3.length : Int)) = false := decide_eq_false c9
          clear c9
          by_cases c20 : a0_0.toList = a1_0.toList
          · rw [if_pos c20] at H
            have c20b0 : (a0_0.toList == a1_0.toList) = true := beq_iff_eq.mpr c20
            have c20b1 : (a0_0.toList != a1_0.toList) = false := bne_eq_false_iff_eq.mpr c20
            clear c20
            by_cases c21 : a0_1 = a1_1
            · rw [if_pos c21] at H
              have c21b0 : (a0_1 == a1_1) = true := beq_iff_eq.mpr c21
              have c21b1 : (a0_1 != a1_1) = false := bne_eq_false_iff_eq.mpr c21
              clear c21
              by_cases c22 : a0_4.toList = a1_4.toList
              · rw [if_pos c22] at H
                have c22b0 : (a0_4.toList == a1_4.toList) = true := beq_iff_eq.mpr c22
                have c22b1 : (a0_4.toList != a1_4.toList) = false := bne_eq_false_iff_eq.mpr c22
                clear c22
                replace H := Option.bind_eq_some_iff.mp H
                obtain ⟨t286, A230, H⟩ := H
                replace H : (some t286) = some r := H
                have A23 := Aside0.mk A230
                clear A230
                obtain rfl := Option.some.inj H
                have hnb24 := NB282_283.out
                have hnc24 := NB283_282.out
                have hcz25_0 : wr.cell? ⟨gb282, 0, none⟩ = some (.string a0_0) := (blk_cell BK282.out 0).trans rfl
                have hcz25_1 : wr.cell? ⟨gb282, 1, none⟩ = some (.int .i64 a0_1) := (blk_cell BK282.out 1).trans rfl
                have hcz25_2 : wr.cell? ⟨gb282, 2, none⟩ = some (.slice A0_2 l0_2.length c0_2) := (blk_cell BK282.out 2).trans rfl
                have hcz25_3 : wr.cell? ⟨gb282, 3, none⟩ = some (.slice A0_3 l0_3.length c0_3) := (blk_cell BK282.out 3).trans rfl
                have hcz25_4 : wr.cell? ⟨gb282, 4, none⟩ = some (.string a0_4) := (blk_cell BK282.out 4).trans rfl
                have hfz25_0 := blk_frozen BK282.out 0
                have hfz25_1 := blk_frozen BK282.out 1
                have hfz25_2 := blk_frozen BK282.out 2
                have hfz25_3 := blk_frozen BK282.out 3
                have hfz25_4 := blk_frozen BK282.out 4
                have hcz26_0 : wr.cell? ⟨gb283, 0, none⟩ = some (.string a1_0) := (blk_cell BK283.out 0).trans rfl
                have hcz26_1 : wr.cell? ⟨gb283, 1, none⟩ = some (.int .i64 a1_1) := (blk_cell BK283.out 1).trans rfl
                have hcz26_2 : wr.cell? ⟨gb283, 2, none⟩ = some (.slice A1_2 l1_2.length c1_2) := (blk_cell BK283.out 2).trans rfl
                have hcz26_3 : wr.cell? ⟨gb283, 3, none⟩ = some (.slice A1_3 l1_3.length c1_3) := (blk_cell BK283.out 3).trans rfl
                have hcz26_4 : wr.cell? ⟨gb283, 4, none⟩ = some (.string a1_4) := (blk_cell BK283.out 4).trans rfl
                have hfz26_0 := blk_frozen BK283.out 0
                have hfz26_1 := blk_frozen BK283.out 1
                have hfz26_2 := blk_frozen BK283.out 2
                have hfz26_3 := blk_frozen BK283.out 3
                have hfz26_4 := blk_frozen BK283.out 4
                go_wp2_with (first | (go_at_call 77; (with_reducible refine (rhizomeref01_Texts.calls k1 _ _ l0_2 _ _ l1_2 t286 _ ?side1 ?side2 ?side3 ?side4 A23.out).mono ?_); (case side1 => repeat (first | exact (Kd.C_below HR0_2.out HB.out) | (with_reducible refine Kd.C_alloc ?_ _) | (with_reducible refine Kd.C_drewN ?_ _) | (with_reducible refine Kd.C_drew ?_))); (case side2 => exact HC0_2.out); (case side3 => repeat (first | exact (Kd.C_below HR1_2.out HB.out) | (with_reducible refine Kd.C_alloc ?_ _) | (with_reducible refine Kd.C_drewN ?_ _) | (with_reducible refine Kd.C_drew ?_))); (case side4 => exact HC1_2.out); rintro e w' ⟨rfl, ⟨nd, rfl⟩⟩; (try first | exact ⟨rfl, _, World.drewN_drewN _ _ _⟩ | exact ⟨rfl, _, Eq.trans (World.drewN_drewN _ _ _) (congrArg (World.drewN _) (Nat.add_assoc _ _ _))⟩)))
                repeat (go_quiet (first | (go_at_call 77; (with_reducible refine (rhizomeref01_Texts.calls k1 _ _ l0_2 _ _ l1_2 t286 _ ?side1 ?side2 ?side3 ?side4 A23.out).mono ?_); (case side1 => repeat (first | exact (Kd.C_below HR0_2.out HB.out) | (with_reducible refine Kd.C_alloc ?_ _) | (with_reducible refine Kd.C_drewN ?_ _) | (with_reducible refine Kd.C_drew ?_))); (case side2 => exact HC0_2.out); (case side3 => repeat (first | exact (Kd.C_below HR1_2.out HB.out) | (with_reducible refine Kd.C_alloc ?_ _) | (with_reducible refine Kd.C_drewN ?_ _) | (with_reducible refine Kd.C_drew ?_))); (case side4 => exact HC1_2.out); rintro e w' ⟨rfl, ⟨nd, rfl⟩⟩; (try first | exact ⟨rfl, _, World.drewN_drewN _ _ _⟩ | exact ⟨rfl, _, Eq.trans (World.drewN_drewN _ _ _) (congrArg (World.drewN _) (Nat.add_assoc _ _ _))⟩))); try go_wp2_with (first | (go_at_call 77; (with_reducible refine (rhizomeref01_Texts.calls k1 _ _ l0_2 _ _ l1_2 t286 _ ?side1 ?side2 ?side3 ?side4 A23.out).mono ?_); (case side1 => repeat (first | exact (Kd.C_below HR0_2.out HB.out) | (with_reducible refine Kd.C_alloc ?_ _) | (with_reducible refine Kd.C_drewN ?_ _) | (with_reducible refine Kd.C_drew ?_))); (case side2 => exact HC0_2.out); (case side3 => repeat (first | exact (Kd.C_below HR1_2.out HB.out) | (with_reducible refine Kd.C_alloc ?_ _) | (with_reducible refine Kd.C_drewN ?_ _) | (with_reducible refine Kd.C_drew ?_))); (case side4 => exact HC1_2.out); rintro e w' ⟨rfl, ⟨nd, rfl⟩⟩; (try first | exact ⟨rfl, _, World.drewN_drewN _ _ _⟩ | exact ⟨rfl, _, Eq.trans (World.drewN_drewN _ _ _) (congrArg (World.drewN _) (Nat.add_assoc _ _ _))⟩))))
                go_ret
                exact ⟨by first | rfl | (simp [errW_none, errW_some] <;> rfl) | (simp [*, errW_none, errW_some] <;> rfl), by repeat (first | (with_reducible first | exact HB.out | apply below_alloc | apply pw_below_drewN | apply below_drew1 | refine below_set ?_ GE282.out | refine below_set ?_ GE283.out) | exact HB.out)⟩
              · rw [if_neg c22] at H
                have c22b0 : (a0_4.toList == a1_4.toList) = false := beq_eq_false_iff_ne.mpr c22
                have c22b1 : (a0_4.toList != a1_4.toList) = true := bne_iff_ne.mpr c22
                obtain rfl := Option.some.inj H
                have hnb27 := NB282_283.out
                have hnc27 := NB283_282.out
                have hcz28_0 : wr.cell? ⟨gb282, 0, none⟩ = some (.string a0_0) := (blk_cell BK282.out 0).trans rfl
                have hcz28_1 : wr.cell? ⟨gb282, 1, none⟩ = some (.int .i64 a0_1) := (blk_cell BK282.out 1).trans rfl
                have hcz28_2 : wr.cell? ⟨gb282, 2, none⟩ = some (.slice A0_2 l0_2.length c0_2) := (blk_cell BK282.out 2).trans rfl
                have hcz28_3 : wr.cell? ⟨gb282, 3, none⟩ = some (.slice A0_3 l0_3.length c0_3) := (blk_cell BK282.out 3).trans rfl
                have hcz28_4 : wr.cell? ⟨gb282, 4, none⟩ = some (.string a0_4) := (blk_cell BK282.out 4).trans rfl
                have hfz28_0 := blk_frozen BK282.out 0
                have hfz28_1 := blk_frozen BK282.out 1
                have hfz28_2 := blk_frozen BK282.out 2
                have hfz28_3 := blk_frozen BK282.out 3
                have hfz28_4 := blk_frozen BK282.out 4
                have hcz29_0 : wr.cell? ⟨gb283, 0, none⟩ = some (.string a1_0) := (blk_cell BK283.out 0).trans rfl
                have hcz29_1 : wr.cell? ⟨gb283, 1, none⟩ = some (.int .i64 a1_1) := (blk_cell BK283.out 1).trans rfl
                have hcz29_2 : wr.cell? ⟨gb283, 2, none⟩ = some (.slice A1_2 l1_2.length c1_2) := (blk_cell BK283.out 2).trans rfl
                have hcz29_3 : wr.cell? ⟨gb283, 3, none⟩ = some (.slice A1_3 l1_3.length c1_3) := (blk_cell BK283.out 3).trans rfl
                have hcz29_4 : wr.cell? ⟨gb283, 4, none⟩ = some (.string a1_4) := (blk_cell BK283.out 4).trans rfl
                have hfz29_0 := blk_frozen BK283.out 0
                have hfz29_1 := blk_frozen BK283.out 1
                have hfz29_2 := blk_frozen BK283.out 2
                have hfz29_3 := blk_frozen BK283.out 3
                have hfz29_4 := blk_frozen BK283.out 4
                go_wp2
                repeat (go_quiet (fail); try go_wp2)
                go_ret
                exact ⟨by first | rfl | (simp [errW_none, errW_some] <;> rfl) | (simp [*, errW_none, errW_some] <;> rfl), by repeat (first | (with_reducible first | exact HB.out | apply below_alloc | apply pw_below_drewN | apply below_drew1 | refine below_set ?_ GE282.out | refine below_set ?_ GE283.out) | exact HB.out)⟩
            · rw [if_neg c21] at H
              have c21b0 : (a0_1 == a1_1) = false := beq_eq_false_iff_ne.mpr c21
              have c21b1 : (a0_1 != a1_1) = true := bne_iff_ne.mpr c21
              obtain rfl := Option.some.inj H
              have hnb30 := NB282_283.out
              have hnc30 := NB283_282.out
              have hcz31_0 : wr.cell? ⟨gb282, 0, none⟩ = some (.string a0_0) := (blk_cell BK282.out 0).trans rfl
              have hcz31_1 : wr.cell? ⟨gb282, 1, none⟩ = some (.int .i64 a0_1) := (blk_cell BK282.out 1).trans rfl
              have hcz31_2 : wr.cell? ⟨gb282, 2, none⟩ = some (.slice A0_2 l0_2.length c0_2) := (blk_cell BK282.out 2).trans rfl
              have hcz31_3 : wr.cell? ⟨gb282, 3, none⟩ = some (.slice A0_3 l0_3.length c0_3) := (blk_cell BK282.out 3).trans rfl
              have hcz31_4 : wr.cell? ⟨gb282, 4, none⟩ = some (.string a0_4) := (blk_cell BK282.out 4).trans rfl
              have hfz31_0 := blk_frozen BK282.out 0
              have hfz31_1 := blk_frozen BK282.out 1
              have hfz31_2 := blk_frozen BK282.out 2
              have hfz31_3 := blk_frozen BK282.out 3
              have hfz31_4 := blk_frozen BK282.out 4
              have hcz32_0 : wr.cell? ⟨gb283, 0, none⟩ = some (.string a1_0) := (blk_cell BK283.out 0).trans rfl
              have hcz32_1 : wr.cell? ⟨gb283, 1, none⟩ = some (.int .i64 a1_1) := (blk_cell BK283.out 1).trans rfl
              have hcz32_2 : wr.cell? ⟨gb283, 2, none⟩ = some (.slice A1_2 l1_2.length c1_2) := (blk_cell BK283.out 2).trans rfl
              have hcz32_3 : wr.cell? ⟨gb283, 3, none⟩ = some (.slice A1_3 l1_3.length c1_3) := (blk_cell BK283.out 3).trans rfl
              have hcz32_4 : wr.cell? ⟨gb283, 4, none⟩ = some (.string a1_4) := (blk_cell BK283.out 4).trans rfl
              have hfz32_0 := blk_frozen BK283.out 0
              have hfz32_1 := blk_frozen BK283.out 1
              have hfz32_2 := blk_frozen BK283.out 2
              have hfz32_3 := blk_frozen BK283.out 3
              have hfz32_4 := blk_frozen BK283.out 4
              go_wp2
              repeat (go_quiet (fail); try go_wp2)
              go_ret
              exact ⟨by first | rfl | (simp [errW_none, errW_some] <;> rfl) | (simp [*, errW_none, errW_some] <;> rfl), by repeat (first | (with_reducible first | exact HB.out | apply below_alloc | apply pw_below_drewN | apply below_drew1 | refine below_set ?_ GE282.out | refine below_set ?_ GE283.out) | exact HB.out)⟩
          · rw [if_neg c20] at H
            have c20b0 : (a0_0.toList == a1_0.toList) = false := beq_eq_false_iff_ne.mpr c20
            have c20b1 : (a0_0.toList != a1_0.toList) = true := bne_iff_ne.mpr c20
            obtain rfl := Option.some.inj H
            have hnb33 := NB282_283.out
            have hnc33 := NB283_282.out
            have hcz34_0 : wr.cell? ⟨gb282, 0, none⟩ = some (.string a0_0) := (blk_cell BK282.out 0).trans rfl
            have hcz34_1 : wr.cell? ⟨gb282, 1, none⟩ = some (.int .i64 a0_1) := (blk_cell BK282.out 1).trans rfl
            have hcz34_2 : wr.cell? ⟨gb282, 2, none⟩ = some (.slice A0_2 l0_2.length c0_2) := (blk_cell BK282.out 2).trans rfl
            have hcz34_3 : wr.cell? ⟨gb282, 3, none⟩ = some (.slice A0_3 l0_3.length c0_3) := (blk_cell BK282.out 3).trans rfl
            have hcz34_4 : wr.cell? ⟨gb282, 4, none⟩ = some (.string a0_4) := (blk_cell BK282.out 4).trans rfl
            have hfz34_0 := blk_frozen BK282.out 0
            have hfz34_1 := blk_frozen BK282.out 1
            have hfz34_2 := blk_frozen BK282.out 2
            have hfz34_3 := blk_frozen BK282.out 3
            have hfz34_4 := blk_frozen BK282.out 4
            have hcz35_0 : wr.cell? ⟨gb283, 0, none⟩ = some (.string a1_0) := (blk_cell BK283.out 0).trans rfl
            have hcz35_1 : wr.cell? ⟨gb283, 1, none⟩ = some (.int .i64 a1_1) := (blk_cell BK283.out 1).trans rfl
            have hcz35_2 : wr.cell? ⟨gb283, 2, none⟩ = some (.slice A1_2 l1_2.length c1_2) := (blk_cell BK283.out 2).trans rfl
            have hcz35_3 : wr.cell? ⟨gb283, 3, none⟩ = some (.slice A1_3 l1_3.length c1_3) := (blk_cell BK283.out 3).trans rfl
            have hcz35_4 : wr.cell? ⟨gb283, 4, none⟩ = some (.string a1_4) := (blk_cell BK283.out 4).trans rfl
            have hfz35_0 := blk_frozen BK283.out 0
            have hfz35_1 := blk_frozen BK283.out 1
            have hfz35_2 := blk_frozen BK283.out 2
            have hfz35_3 := blk_frozen BK283.out 3
            have hfz35_4 := blk_frozen BK283.out 4
            go_wp2
            repeat (go_quiet (fail); try go_wp2)
            go_ret
            exact ⟨by first | rfl | (simp [errW_none, errW_some] <;> rfl) | (simp [*, errW_none, errW_some] <;> rfl), by repeat (first | (with_reducible first | exact HB.out | apply below_alloc | apply pw_below_drewN | apply below_drew1 | refine below_set ?_ GE282.out | refine below_set ?_ GE283.out) | exact HB.out)⟩
  · rw [if_neg c3] at H
    have c3b0 : ((l0_3.length : Int) == (l1_3.length : Int)) = false := beq_eq_false_iff_ne.mpr c3
    have c3b1 : ((l0_3.length : Int) != (l1_3.length : Int)) = true := bne_iff_ne.mpr c3
    have c3b2 : (l0_3.length == l1_3.length) = false := by first | simpa using c3 | (simp at c3 ⊢; omega)
    obtain rfl := Option.some.inj H
    go_enter Try.func33, Try.ntmps33
    go_wp2_with (first | ((with_reducible refine gate_dst (N := 2) rfl ?_); refine box_event ?hg (N := 2) ?hd (cs := #[.string a0_0, .int .i64 a0_1, .slice A0_2 l0_2.length c0_2, .slice A0_3 l0_3.length c0_3, .string a0_4]) (t := 59) ?hr ?_; (case hd => rfl); (case hg => rfl); (case hr => first | (go_simp; done) | (go_simp; rfl)); intro gb282 hg w36 hbox hb; have n0_ := Aside0.mk (below_step (by repeat (first | (with_reducible first | exact HB.out | apply below_alloc | apply pw_below_drewN | apply below_drew1) | exact HB.out)) hb); have n1_ := Aside0.mk (hbox); have n2_ := Aside0.mk ((by rw [hg]; exact (below_size (by repeat (first | (with_reducible first | exact HB.out | apply below_alloc | apply pw_below_drewN | apply below_drew1) | exact HB.out))) : w.heap.size ≤ gb282)); have n3_ := Aside0.mk ((by rw [hg]; exact (below_size (by repeat (first | (with_reducible first | exact HB.out | apply below_alloc | apply pw_below_drewN | apply below_drew1) | exact HB.out))) : w.heap.size ≤ gb282)); clear HB; have HB := n0_; have BK282 := n1_; have GW282 := n2_; have GE282 := n3_; clear n0_ n1_ n2_ n3_; clear hb hbox hg) | ((with_reducible refine gate_dst (N := 3) rfl ?_); refine box_event ?hg (N := 3) ?hd (cs := #[.string a1_0, .int .i64 a1_1, .slice A1_2 l1_2.length c1_2, .slice A1_3 l1_3.length c1_3, .string a1_4]) (t := 59) ?hr ?_; (case hd => rfl); (case hg => rfl); (case hr => first | (go_simp; done) | (go_simp; rfl)); intro gb283 hg w37 hbox hb; have n0_ := Aside0.mk (blk_below (g := gb282) (o := .cells #[.string a0_0, .int .i64 a0_1, .slice A0_2 l0_2.length c0_2, .slice A0_3 l0_3.length c0_3, .string a0_4] 59 (0, 0)) (by (with_reducible repeat (first | refine blk_drewN ?_ _ | refine blk_drew ?_ | refine blk_alloc ?_ _)); exact BK282.out) hb); have n1_ := Aside0.mk (below_step (by repeat (first | (with_reducible first | exact HB.out | apply below_alloc | apply pw_below_drewN | apply below_drew1 | refine below_set ?_ GE282.out) | exact HB.out)) hb); have n2_ := Aside0.mk (hbox); have n3_ := Aside0.mk ((by rw [hg]; exact (below_size (by repeat (first | (with_reducible first | exact HB.out | apply below_alloc | apply pw_below_drewN | apply below_drew1 | refine below_set ?_ GE282.out) | exact HB.out))) : w.heap.size ≤ gb283)); have n4_ := Aside0.mk ((by rw [hg]; exact (below_size (by repeat (first | (with_reducible first | exact HB.out | apply below_alloc | apply pw_below_drewN | apply below_drew1 | refine below_set ?_ GE282.out) | exact HB.out))) : w.heap.size ≤ gb283)); have n5_ := Aside0.mk ((by rw [hg]; exact Nat.ne_of_lt (blk_lt (g := gb282) (o := .cells #[.string a0_0, .int .i64 a0_1, .slice A0_2 l0_2.length c0_2, .slice A0_3 l0_3.length c0_3, .string a0_4] 59 (0, 0)) (by (with_reducible repeat (first | refine blk_drewN ?_ _ | refine blk_drew ?_ | refine blk_alloc ?_ _)); exact BK282.out)) : gb282 ≠ gb283)); have n6_ := Aside0.mk ((by rw [hg]; exact Nat.ne_of_gt (blk_lt (g := gb282) (o := .cells #[.string a0_0, .int .i64 a0_1, .slice A0_2 l0_2.length c0_2, .slice A0_3 l0_3.length c0_3, .string a0_4] 59 (0, 0)) (by (with_reducible repeat (first | refine blk_drewN ?_ _ | refine blk_drew ?_ | refine blk_alloc ?_ _)); exact BK282.out)) : gb283 ≠ gb282)); clear BK282; clear HB; have BK282 := n0_; have HB := n1_; have BK283 := n2_; have GW283 := n3_; have GE283 := n4_; have NB282_283 := n5_; have NB283_282 := n6_; clear n0_ n1_ n2_ n3_ n4_ n5_ n6_; clear hb hbox hg; have hnb38 := NB282_283.out; have hnc38 := NB283_282.out; have hcz39_0 : w37.cell? ⟨gb282, 0, none⟩ = some (.string a0_0) := (blk_cell BK282.out 0).trans rfl; have hcz39_1 : w37.cell? ⟨gb282, 1, none⟩ = some (.int .i64 a0_1) := (blk_cell BK282.out 1).trans rfl; have hcz39_2 : w37.cell? ⟨gb282, 2, none⟩ = some (.slice A0_2 l0_2.length c0_2) := (blk_cell BK282.out 2).trans rfl; have hcz39_3 : w37.cell? ⟨gb282, 3, none⟩ = some (.slice A0_3 l0_3.length c0_3) := (blk_cell BK282.out 3).trans rfl; have hcz39_4 : w37.cell? ⟨gb282, 4, none⟩ = some (.string a0_4) := (blk_cell BK282.out 4).trans rfl; have hfz39_0 := blk_frozen BK282.out 0; have hfz39_1 := blk_frozen BK282.out 1; have hfz39_2 := blk_frozen BK282.out 2; have hfz39_3 := blk_frozen BK282.out 3; have hfz39_4 := blk_frozen BK282.out 4; have hcz40_0 : w37.cell? ⟨gb283, 0, none⟩ = some (.string a1_0) := (blk_cell BK283.out 0).trans rfl; have hcz40_1 : w37.cell? ⟨gb283, 1, none⟩ = some (.int .i64 a1_1) := (blk_cell BK283.out 1).trans rfl; have hcz40_2 : w37.cell? ⟨gb283, 2, none⟩ = some (.slice A1_2 l1_2.length c1_2) := (blk_cell BK283.out 2).trans rfl; have hcz40_3 : w37.cell? ⟨gb283, 3, none⟩ = some (.slice A1_3 l1_3.length c1_3) := (blk_cell BK283.out 3).trans rfl; have hcz40_4 : w37.cell? ⟨gb283, 4, none⟩ = some (.string a1_4) := (blk_cell BK283.out 4).trans rfl; have hfz40_0 := blk_frozen BK283.out 0; have hfz40_1 := blk_frozen BK283.out 1; have hfz40_2 := blk_frozen BK283.out 2; have hfz40_3 := blk_frozen BK283.out 3; have hfz40_4 := blk_frozen BK283.out 4))
    repeat (go_quiet (first | ((with_reducible refine gate_dst (N := 2) rfl ?_); refine box_event ?hg (N := 2) ?hd (cs := #[.string a0_0, .int .i64 a0_1, .slice A0_2 l0_2.length c0_2, .slice A0_3 l0_3.length c0_3, .string a0_4]) (t := 59) ?hr ?_; (case hd => rfl); (case hg => rfl); (case hr => first | (go_simp; done) | (go_simp; rfl)); intro gb282 hg w36 hbox hb; have n0_ := Aside0.mk (below_step (by repeat (first | (with_reducible first | exact HB.out | apply below_alloc | apply pw_below_drewN | apply below_drew1) | exact HB.out)) hb); have n1_ := Aside0.mk (hbox); have n2_ := Aside0.mk ((by rw [hg]; exact (below_size (by repeat (first | (with_reducible first | exact HB.out | apply below_alloc | apply pw_below_drewN | apply below_drew1) | exact HB.out))) : w.heap.size ≤ gb282)); have n3_ := Aside0.mk ((by rw [hg]; exact (below_size (by repeat (first | (with_reducible first | exact HB.out | apply below_alloc | apply pw_below_drewN | apply below_drew1) | exact HB.out))) : w.heap.size ≤ gb282)); clear HB; have HB := n0_; have BK282 := n1_; have GW282 := n2_; have GE282 := n3_; clear n0_ n1_ n2_ n3_; clear hb hbox hg) | ((with_reducible refine gate_dst (N := 3) rfl ?_); refine box_event ?hg (N := 3) ?hd (cs := #[.string a1_0, .int .i64 a1_1, .slice A1_2 l1_2.length c1_2, .slice A1_3 l1_3.length c1_3, .string a1_4]) (t := 59) ?hr ?_; (case hd => rfl); (case hg => rfl); (case hr => first | (go_simp; done) | (go_simp; rfl)); intro gb283 hg w37 hbox hb; have n0_ := Aside0.mk (blk_below (g := gb282) (o := .cells #[.string a0_0, .int .i64 a0_1, .slice A0_2 l0_2.length c0_2, .slice A0_3 l0_3.length c0_3, .string a0_4] 59 (0, 0)) (by (with_reducible repeat (first | refine blk_drewN ?_ _ | refine blk_drew ?_ | refine blk_alloc ?_ _)); exact BK282.out) hb); have n1_ := Aside0.mk (below_step (by repeat (first | (with_reducible first | exact HB.out | apply below_alloc | apply pw_below_drewN | apply below_drew1 | refine below_set ?_ GE282.out) | exact HB.out)) hb); have n2_ := Aside0.mk (hbox); have n3_ := Aside0.mk ((by rw [hg]; exact (below_size (by repeat (first | (with_reducible first | exact HB.out | apply below_alloc | apply pw_below_drewN | apply below_drew1 | refine below_set ?_ GE282.out) | exact HB.out))) : w.heap.size ≤ gb283)); have n4_ := Aside0.mk ((by rw [hg]; exact (below_size (by repeat (first | (with_reducible first | exact HB.out | apply below_alloc | apply pw_below_drewN | apply below_drew1 | refine below_set ?_ GE282.out) | exact HB.out))) : w.heap.size ≤ gb283)); have n5_ := Aside0.mk ((by rw [hg]; exact Nat.ne_of_lt (blk_lt (g := gb282) (o := .cells #[.string a0_0, .int .i64 a0_1, .slice A0_2 l0_2.length c0_2, .slice A0_3 l0_3.length c0_3, .string a0_4] 59 (0, 0)) (by (with_reducible repeat (first | refine blk_drewN ?_ _ | refine blk_drew ?_ | refine blk_alloc ?_ _)); exact BK282.out)) : gb282 ≠ gb283)); have n6_ := Aside0.mk ((by rw [hg]; exact Nat.ne_of_gt (blk_lt (g := gb282) (o := .cells #[.string a0_0, .int .i64 a0_1, .slice A0_2 l0_2.length c0_2, .slice A0_3 l0_3.length c0_3, .string a0_4] 59 (0, 0)) (by (with_reducible repeat (first | refine blk_drewN ?_ _ | refine blk_drew ?_ | refine blk_alloc ?_ _)); exact BK282.out)) : gb283 ≠ gb282)); clear BK282; clear HB; have BK282 := n0_; have HB := n1_; have BK283 := n2_; have GW283 := n3_; have GE283 := n4_; have NB282_283 := n5_; have NB283_282 := n6_; clear n0_ n1_ n2_ n3_ n4_ n5_ n6_; clear hb hbox hg; have hnb38 := NB282_283.out; have hnc38 := NB283_282.out; have hcz39_0 : w37.cell? ⟨gb282, 0, none⟩ = some (.string a0_0) := (blk_cell BK282.out 0).trans rfl; have hcz39_1 : w37.cell? ⟨gb282, 1, none⟩ = some (.int .i64 a0_1) := (blk_cell BK282.out 1).trans rfl; have hcz39_2 : w37.cell? ⟨gb282, 2, none⟩ = some (.slice A0_2 l0_2.length c0_2) := (blk_cell BK282.out 2).trans rfl; have hcz39_3 : w37.cell? ⟨gb282, 3, none⟩ = some (.slice A0_3 l0_3.length c0_3) := (blk_cell BK282.out 3).trans rfl; have hcz39_4 : w37.cell? ⟨gb282, 4, none⟩ = some (.string a0_4) := (blk_cell BK282.out 4).trans rfl; have hfz39_0 := blk_frozen BK282.out 0; have hfz39_1 := blk_frozen BK282.out 1; have hfz39_2 := blk_frozen BK282.out 2; have hfz39_3 := blk_frozen BK282.out 3; have hfz39_4 := blk_frozen BK282.out 4; have hcz40_0 : w37.cell? ⟨gb283, 0, none⟩ = some (.string a1_0) := (blk_cell BK283.out 0).trans rfl; have hcz40_1 : w37.cell? ⟨gb283, 1, none⟩ = some (.int .i64 a1_1) := (blk_cell BK283.out 1).trans rfl; have hcz40_2 : w37.cell? ⟨gb283, 2, none⟩ = some (.slice A1_2 l1_2.length c1_2) := (blk_cell BK283.out 2).trans rfl; have hcz40_3 : w37.cell? ⟨gb283, 3, none⟩ = some (.slice A1_3 l1_3.length c1_3) := (blk_cell BK283.out 3).trans rfl; have hcz40_4 : w37.cell? ⟨gb283, 4, none⟩ = some (.string a1_4) := (blk_cell BK283.out 4).trans rfl; have hfz40_0 := blk_frozen BK283.out 0; have hfz40_1 := blk_frozen BK283.out 1; have hfz40_2 := blk_frozen BK283.out 2; have hfz40_3 := blk_frozen BK283.out 3; have hfz40_4 := blk_frozen BK283.out 4)); try go_wp2_with (first | ((with_reducible refine gate_dst (N := 2) rfl ?_); refine box_event ?hg (N := 2) ?hd (cs := #[.string a0_0, .int .i64 a0_1, .slice A0_2 l0_2.length c0_2, .slice A0_3 l0_3.length c0_3, .string a0_4]) (t := 59) ?hr ?_; (case hd => rfl); (case hg => rfl); (case hr => first | (go_simp; done) | (go_simp; rfl)); intro gb282 hg w36 hbox hb; have n0_ := Aside0.mk (below_step (by repeat (first | (with_reducible first | exact HB.out | apply below_alloc | apply pw_below_drewN | apply below_drew1) | exact HB.out)) hb); have n1_ := Aside0.mk (hbox); have n2_ := Aside0.mk ((by rw [hg]; exact (below_size (by repeat (first | (with_reducible first | exact HB.out | apply below_alloc | apply pw_below_drewN | apply below_drew1) | exact HB.out))) : w.heap.size ≤ gb282)); have n3_ := Aside0.mk ((by rw [hg]; exact (below_size (by repeat (first | (with_reducible first | exact HB.out | apply below_alloc | apply pw_below_drewN | apply below_drew1) | exact HB.out))) : w.heap.size ≤ gb282)); clear HB; have HB := n0_; have BK282 := n1_; have GW282 := n2_; have GE282 := n3_; clear n0_ n1_ n2_ n3_; clear hb hbox hg) | ((with_reducible refine gate_dst (N := 3) rfl ?_); refine box_event ?hg (N := 3) ?hd (cs := #[.string a1_0, .int .i64 a1_1, .slice A1_2 l1_2.length c1_2, .slice A1_3 l1_3.length c1_3, .string a1_4]) (t := 59) ?hr ?_; (case hd => rfl); (case hg => rfl); (case hr => first | (go_simp; done) | (go_simp; rfl)); intro gb283 hg w37 hbox hb; have n0_ := Aside0.mk (blk_below (g := gb282) (o := .cells #[.string a0_0, .int .i64 a0_1, .slice A0_2 l0_2.length c0_2, .slice A0_3 l0_3.length c0_3, .string a0_4] 59 (0, 0)) (by (with_reducible repeat (first | refine blk_drewN ?_ _ | refine blk_drew ?_ | refine blk_alloc ?_ _)); exact BK282.out) hb); have n1_ := Aside0.mk (below_step (by repeat (first | (with_reducible first | exact HB.out | apply below_alloc | apply pw_below_drewN | apply below_drew1 | refine below_set ?_ GE282.out) | exact HB.out)) hb); have n2_ := Aside0.mk (hbox); have n3_ := Aside0.mk ((by rw [hg]; exact (below_size (by repeat (first | (with_reducible first | exact HB.out | apply below_alloc | apply pw_below_drewN | apply below_drew1 | refine below_set ?_ GE282.out) | exact HB.out))) : w.heap.size ≤ gb283)); have n4_ := Aside0.mk ((by rw [hg]; exact (below_size (by repeat (first | (with_reducible first | exact HB.out | apply below_alloc | apply pw_below_drewN | apply below_drew1 | refine below_set ?_ GE282.out) | exact HB.out))) : w.heap.size ≤ gb283)); have n5_ := Aside0.mk ((by rw [hg]; exact Nat.ne_of_lt (blk_lt (g := gb282) (o := .cells #[.string a0_0, .int .i64 a0_1, .slice A0_2 l0_2.length c0_2, .slice A0_3 l0_3.length c0_3, .string a0_4] 59 (0, 0)) (by (with_reducible repeat (first | refine blk_drewN ?_ _ | refine blk_drew ?_ | refine blk_alloc ?_ _)); exact BK282.out)) : gb282 ≠ gb283)); have n6_ := Aside0.mk ((by rw [hg]; exact Nat.ne_of_gt (blk_lt (g := gb282) (o := .cells #[.string a0_0, .int .i64 a0_1, .slice A0_2 l0_2.length c0_2, .slice A0_3 l0_3.length c0_3, .string a0_4] 59 (0, 0)) (by (with_reducible repeat (first | refine blk_drewN ?_ _ | refine blk_drew ?_ | refine blk_alloc ?_ _)); exact BK282.out)) : gb283 ≠ gb282)); clear BK282; clear HB; have BK282 := n0_; have HB := n1_; have BK283 := n2_; have GW283 := n3_; have GE283 := n4_; have NB282_283 := n5_; have NB283_282 := n6_; clear n0_ n1_ n2_ n3_ n4_ n5_ n6_; clear hb hbox hg; have hnb38 := NB282_283.out; have hnc38 := NB283_282.out; have hcz39_0 : w37.cell? ⟨gb282, 0, none⟩ = some (.string a0_0) := (blk_cell BK282.out 0).trans rfl; have hcz39_1 : w37.cell? ⟨gb282, 1, none⟩ = some (.int .i64 a0_1) := (blk_cell BK282.out 1).trans rfl; have hcz39_2 : w37.cell? ⟨gb282, 2, none⟩ = some (.slice A0_2 l0_2.length c0_2) := (blk_cell BK282.out 2).trans rfl; have hcz39_3 : w37.cell? ⟨gb282, 3, none⟩ = some (.slice A0_3 l0_3.length c0_3) := (blk_cell BK282.out 3).trans rfl; have hcz39_4 : w37.cell? ⟨gb282, 4, none⟩ = some (.string a0_4) := (blk_cell BK282.out 4).trans rfl; have hfz39_0 := blk_frozen BK282.out 0; have hfz39_1 := blk_frozen BK282.out 1; have hfz39_2 := blk_frozen BK282.out 2; have hfz39_3 := blk_frozen BK282.out 3; have hfz39_4 := blk_frozen BK282.out 4; have hcz40_0 : w37.cell? ⟨gb283, 0, none⟩ = some (.string a1_0) := (blk_cell BK283.out 0).trans rfl; have hcz40_1 : w37.cell? ⟨gb283, 1, none⟩ = some (.int .i64 a1_1) := (blk_cell BK283.out 1).trans rfl; have hcz40_2 : w37.cell? ⟨gb283, 2, none⟩ = some (.slice A1_2 l1_2.length c1_2) := (blk_cell BK283.out 2).trans rfl; have hcz40_3 : w37.cell? ⟨gb283, 3, none⟩ = some (.slice A1_3 l1_3.length c1_3) := (blk_cell BK283.out 3).trans rfl; have hcz40_4 : w37.cell? ⟨gb283, 4, none⟩ = some (.string a1_4) := (blk_cell BK283.out 4).trans rfl; have hfz40_0 := blk_frozen BK283.out 0; have hfz40_1 := blk_frozen BK283.out 1; have hfz40_2 := blk_frozen BK283.out 2; have hfz40_3 := blk_frozen BK283.out 3; have hfz40_4 := blk_frozen BK283.out 4)))
    go_ret
    exact ⟨by first | rfl | (simp [errW_none, errW_some] <;> rfl) | (simp [*, errW_none, errW_some] <;> rfl), by repeat (first | (with_reducible first | exact HB.out | apply below_alloc | apply pw_below_drewN | apply below_drew1 | refine below_set ?_ GE282.out | refine below_set ?_ GE283.out) | exact HB.out)⟩

/-! ### rhizomeref07_SameEdges: function 34 -/
def rhizomeref07_SameEdges.l0 : Nat → List (S82) → List (S82) → Int → Int → Option (Bool)
  | 0, _, _, _, _ => none
  | k + 1, x0, x1, x12, x13 => if x13 < x12 then (if 0 ≤ x13 then (if x13 < (x0.length : Int) then (if x13 < (x1.length : Int) then (if (!(((rd_T82 x0 x13).f0) == ((rd_T82 x1 x13).f0)) || (!((((rd_T82 x0 x13).f1).toList) == (((rd_T82 x1 x13).f1).toList)) || (!(((rd_T82 x0 x13).f2) == ((rd_T82 x1 x13).f2))))) = true then (some false) else (rhizomeref07_SameEdges.l0 k x0 x1 x12 (wrap64 (x13 + 1)))) else (none)) else (none)) else (none)) else (some true)
def rhizomeref07_SameEdges.f (k : Nat) (l0 : List (S82)) (l1 : List (S82)) : Option (Bool) := if (l0.length : Int) = (l1.length : Int) then (rhizomeref07_SameEdges.l0 k l0 l1 (l0.length : Int) 0) else (some false)
theorem rhizomeref07_SameEdges.mono_l : ∀ k, (∀ y0 y1 y2 y3, LeO (rhizomeref07_SameEdges.l0 k y0 y1 y2 y3) (rhizomeref07_SameEdges.l0 (k + 1) y0 y1 y2 y3))
  | 0 => fun _ _ _ _ r h => by simp [rhizomeref07_SameEdges.l0] at h
  | k + 1 => by
    have ih0 := rhizomeref07_SameEdges.mono_l k
    · intro y0 y1 y2 y3
      unfold rhizomeref07_SameEdges.l0
      repeat' first
      | (with_reducible exact ih0 _ _ _ _)
      | (with_reducible exact LeO.refl _)
      | (with_reducible exact LeO.none _)
      | (with_reducible refine LeO.ite ?_ ?_)
      | (with_reducible refine LeO.bind ?_ (fun _ => ?_))
      | exact ih0 _ _ _ _
      | exact LeO.none _
      | refine LeO.ite ?_ ?_
      | refine LeO.bind ?_ (fun _ => ?_)
theorem rhizomeref07_SameEdges.mono : ∀ a0 a1 k, LeO (rhizomeref07_SameEdges.f k a0 a1) (rhizomeref07_SameEdges.f (k + 1) a0 a1) := by
  intro a0 a1 k
  have ih0 := rhizomeref07_SameEdges.mono_l k
  unfold rhizomeref07_SameEdges.f
  repeat' first
      | (with_reducible exact ih0 _ _ _ _)
      | (with_reducible exact LeO.refl _)
      | (with_reducible exact LeO.none _)
      | (with_reducible refine LeO.ite ?_ ?_)
      | (with_reducible refine LeO.bind ?_ (fun _ => ?_))
      | exact ih0 _ _ _ _
      | exact LeO.none _
      | refine LeO.ite ?_ ?_
      | refine LeO.bind ?_ (fun _ => ?_)
set_option maxHeartbeats 8000000 in
set_option maxRecDepth 100000 in
theorem rhizomeref07_SameEdges.calls (k : Nat) (A0 : Option Addr) (c0 : Nat) (l0 : List (S82)) (A1 : Option Addr) (c1 : Nat) (l1 : List (S82)) (r : Bool) (w : World) (hr0 : Kd.C k82 w A0 l0.length l0) (hc0 : l0.length ≤ c0) (hr1 : Kd.C k82 w A1 l1.length l1) (hc1 : l1.length ≤ c1) (h : rhizomeref07_SameEdges.f k l0 l1 = some r) :
    Calls Try.prog 34 #[.slice A0 l0.length c0, .slice A1 l1.length c1] w fun e w' => e = .returned (.bool r) ∧ Drawn0 w w' := by
  have hu82 := Try.underlying82
  have HR0 := Aside0.mk hr0
  have HC0 := Aside0.mk hc0
  clear hr0 hc0
  have HR1 := Aside0.mk hr1
  have HC1 := Aside0.mk hc1
  clear hr1 hc1
  have H : (if (l0.length : Int) = (l1.length : Int) then (rhizomeref07_SameEdges.l0 k l0 l1 (l0.length : Int) 0) else (some false)) = some r := h
  clear h
  by_cases c3 : (l0.length : Int) = (l1.length : Int)
  · rw [if_pos c3] at H
    have c3b0 : ((l0.length : Int) == (l1.length : Int)) = true := beq_iff_eq.mpr c3
    have c3b1 : ((l0.length : Int) != (l1.length : Int)) = false := bne_eq_false_iff_eq.mpr c3
    have c3b2 : (l0.length == l1.length) = true := by first | simpa using c3 | (simp at c3 ⊢; omega)
    clear c3
    have H' := Aside0.mk H
    clear H
    go_enter Try.func34, Try.ntmps34
    go_wp2
    repeat (go_quiet (fail); try go_wp2)
    go_loopg [13] k (fun kq v13 w' => ∃ (x13_1 : Int), v13 = .int .i64 x13_1 ∧ Aside0 (rhizomeref07_SameEdges.l0 kq l0 l1 (l0.length : Int) x13_1 = some r) ∧ Aside0 (kq ≤ k) ∧ Drawn0 w w')
    case atStart => exact ⟨(0), (by first | rfl | (simp; done) | (simp [*]; done)), H', ⟨Nat.le_refl _⟩, by repeat (first | exact Drawn0.refl _ | apply Drawn0.step)⟩
    case round =>
      clear H'
      try clear c1
      try clear p2
      try clear c3
      try clear c3b0
      try clear c3b1
      try clear c3b2
      obtain ⟨x13_1, rfl, HA, HK1, ⟨m1, rfl⟩⟩ := hrel
      cases gk with
      | zero => exact absurd HA.out (by simp [rhizomeref07_SameEdges.l0])
      | succ k1 =>
        have H := HA.out
        clear HA
        simp only [rhizomeref07_SameEdges.l0] at H
        by_cases c4 : x13_1 < (l0.length : Int)
        · rw [if_pos c4] at H
          have c4b0 : decide (x13_1 < (l0.length : Int)) = true := decide_eq_true c4
          clear c4
          by_cases c5 : 0 ≤ x13_1
          · rw [if_pos c5] at H
            have c5b0 : decide (0 ≤ x13_1) = true := decide_eq_true c5
            clear c5
            by_cases c6 : x13_1 < (l0.length : Int)
            · rw [if_pos c6] at H
              have c6b0 : decide (x13_1 < (l0.length : Int)) = true := decide_eq_true c6
              clear c6
              by_cases c7 : x13_1 < (l1.length : Int)
              · rw [if_pos c7] at H
                have c7b0 : decide (x13_1 < (l1.length : Int)) = true := decide_eq_true c7
                clear c7
                by_cases c8 : (!(((rd_T82 l0 x13_1).f0) == ((rd_T82 l1 x13_1).f0)) || (!((((rd_T82 l0 x13_1).f1).toList) == (((rd_T82 l1 x13_1).f1).toList)) || (!(((rd_T82 l0 x13_1).f2) == ((rd_T82 l1 x13_1).f2))))) = true
                · rw [if_pos c8] at H
                  have c8b0 : (!(((rd_T82 l0 x13_1).f0) == ((rd_T82 l1 x13_1).f0)) || (!((((rd_T82 l0 x13_1).f1).toList) == (((rd_T82 l1 x13_1).f1).toList)) || (!(((rd_T82 l0 x13_1).f2) == ((rd_T82 l1 x13_1).f2))))) = true := c8
                  clear c8
                  obtain rfl := Option.some.inj H
                  have p287 : 0 ≤ (x13_1 : Int) := of_decide_eq_true (by first | (with_reducible assumption) | assumption)
                  have q287 : x13_1 < (l0.length : Int) := of_decide_eq_true (by first | (with_reducible assumption) | assumption)
                  obtain ⟨ad287, e287, hx287_0, hx287_1, hx287_2⟩ := at_T82 HR0.out x13_1 p287 q287
                  cases e287
                  replace p287 := eq_true p287
                  replace q287 := eq_true q287
                  have p288 : 0 ≤ (x13_1 : Int) := of_decide_eq_true (by first | (with_reducible assumption) | assumption)
                  have q288 : x13_1 < (l1.length : Int) := of_decide_eq_true (by first | (with_reducible assumption) | assumption)
                  obtain ⟨ad288, e288, hx288_0, hx288_1, hx288_2⟩ := at_T82 HR1.out x13_1 p288 q288
                  cases e288
                  replace p288 := eq_true p288
                  replace q288 := eq_true q288
                  go_wp2
                  repeat (go_quiet (fail); try go_wp2)
                  go_ret
                  exact ⟨by first | rfl | (simp; done) | (simp [*]; done), by repeat (first | exact Drawn0.refl _ | apply Drawn0.step)⟩
                · rw [if_neg c8] at H
                  have c8b0 : (!(((rd_T82 l0 x13_1).f0) == ((rd_T82 l1 x13_1).f0)) || (!((((rd_T82 l0 x13_1).f1).toList) == (((rd_T82 l1 x13_1).f1).toList)) || (!(((rd_T82 l0 x13_1).f2) == ((rd_T82 l1 x13_1).f2))))) = false := by simpa using c8
                  clear c8
                  have H' := Aside0.mk H
                  clear H
                  have p287 : 0 ≤ (x13_1 : Int) := of_decide_eq_true (by first | (with_reducible assumption) | assumption)
                  have q287 : x13_1 < (l0.length : Int) := of_decide_eq_true (by first | (with_reducible assumption) | assumption)
                  obtain ⟨ad287, e287, hx287_0, hx287_1, hx287_2⟩ := at_T82 HR0.out x13_1 p287 q287
                  cases e287
                  replace p287 := eq_true p287
                  replace q287 := eq_true q287
                  have p288 : 0 ≤ (x13_1 : Int) := of_decide_eq_true (by first | (with_reducible assumption) | assumption)
                  have q288 : x13_1 < (l1.length : Int) := of_decide_eq_true (by first | (with_reducible assumption) | assumption)
                  obtain ⟨ad288, e288, hx288_0, hx288_1, hx288_2⟩ := at_T82 HR1.out x13_1 p288 q288
                  cases e288
                  replace p288 := eq_true p288
                  replace q288 := eq_true q288
                  go_wp2
                  repeat (go_quiet (fail); try go_wp2)
                  go_roundg k1
                  case measure => have := HK1.out; omega
                  case rel => exact ⟨(wrap64 (x13_1 + 1)), (by first | rfl | (simp; done) | (simp [*]; done)), H', ⟨by have := HK1.out; omega⟩, by repeat (first | exact Drawn0.refl _ | apply Drawn0.step)⟩
              · rw [if_neg c7] at H
                exact absurd H (by simp)
            · rw [if_neg c6] at H
              exact absurd H (by simp)
          · rw [if_neg c5] at H
            exact absurd H (by simp)
        · rw [if_neg c4] at H
          have c4b0 : decide (x13_1 < (l0.length : Int)) = false := decide_eq_false c4
          clear c4
          obtain rfl := Option.some.inj H
          go_wp2
          repeat (go_quiet (fail); try go_wp2)
          go_ret
          exact ⟨by first | rfl | (simp; done) | (simp [*]; done), by repeat (first | exact Drawn0.refl _ | apply Drawn0.step)⟩
  · rw [if_neg c3] at H
    have c3b0 : ((l0.length : Int) == (l1.length : Int)) = false := beq_eq_false_iff_ne.mpr c3
    have c3b1 : ((l0.length : Int) != (l1.length : Int)) = true := bne_iff_ne.mpr c3
    have c3b2 : (l0.length == l1.length) = false := by first | simpa using c3 | (simp at c3 ⊢; omega)
    obtain rfl := Option.some.inj H
    go_enter Try.func34, Try.ntmps34
    go_wp2
    repeat (go_quiet (fail); try go_wp2)
    go_ret
    exact ⟨by first | rfl | (simp; done) | (simp [*]; done), by repeat (first | exact Drawn0.refl _ | apply Drawn0.step)⟩

-- NOT PRINTED: function 4 (rhizomelaw11_JoinRows)

end Go.Proofs.Ytcchcifcfcpjiaa.PJ
