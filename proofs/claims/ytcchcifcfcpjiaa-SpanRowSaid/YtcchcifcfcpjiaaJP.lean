/- The plain side of tuples: the order of two lists of numbers, as the program and as the reference reckon it. -/
import Derived.Test.YtcchcifcfcpjiaaPJx4
import Derived.Test.YtcchcifcfcpjiaaPJx7
set_option linter.unusedVariables false
set_option linter.unusedSimpArgs false
namespace Go.Proofs.Ytcchcifcfcpjiaa.J
open Go.RowKit Go.Proofs.YtcchcifcfcpjiaaW.PrintWords Go.Proofs.YtcchcifcfcpjiaaW.PrintLast Go.Proofs.YtcchcifcfcpjiaaW.PrintMore Go.Proofs.Ytcchcifcfcpjiaa.PJ

/-- Two lists of numbers by the order. -/
def cmpL : List Int → List Int → Int
  | [], [] => 0
  | [], _ :: _ => -1
  | _ :: _, [] => 1
  | x :: xs, y :: ys => if x < y then -1 else if y < x then 1 else cmpL xs ys

theorem cmpL_refl (a : List Int) : cmpL a a = 0 := by
  induction a with
  | nil => rfl
  | cons x xs ih => simp [cmpL, ih]
theorem cmpL_eq {a b : List Int} (h : cmpL a b = 0) : a = b := by
  induction a generalizing b with
  | nil => cases b with
    | nil => rfl
    | cons y ys => simp [cmpL] at h
  | cons x xs ih => cases b with
    | nil => simp [cmpL] at h
    | cons y ys =>
      unfold cmpL at h
      by_cases h1 : x < y
      · rw [if_pos h1] at h; omega
      · rw [if_neg h1] at h
        by_cases h2 : y < x
        · rw [if_pos h2] at h; omega
        · rw [if_neg h2] at h
          rw [ih h, show x = y by omega]
theorem cmpL_anti (a b : List Int) : cmpL b a = - cmpL a b := by
  induction a generalizing b with
  | nil => cases b <;> simp [cmpL]
  | cons x xs ih => cases b with
    | nil => simp [cmpL]
    | cons y ys =>
      unfold cmpL
      by_cases h1 : x < y
      · rw [if_neg (by omega), if_pos h1, if_pos h1]; simp
      · by_cases h2 : y < x
        · rw [if_pos h2, if_neg h1, if_pos h2]
        · rw [if_neg h2, if_neg h1, if_neg h1, if_neg h2, ih]
theorem cmpL_range (a b : List Int) : cmpL a b = -1 ∨ cmpL a b = 0 ∨ cmpL a b = 1 := by
  induction a generalizing b with
  | nil => cases b <;> simp [cmpL]
  | cons x xs ih => cases b with
    | nil => simp [cmpL]
    | cons y ys =>
      unfold cmpL
      by_cases h1 : x < y
      · simp [h1]
      · by_cases h2 : y < x
        · simp [h1, h2]
        · simp only [h1, h2, if_false]; exact ih ys
theorem cmpL_trans {a b c : List Int} (h : cmpL a b < 0) (k : cmpL b c < 0) : cmpL a c < 0 := by
  induction a generalizing b c with
  | nil => cases c with
    | nil => cases b <;> simp [cmpL] at h k
    | cons z zs => simp [cmpL]
  | cons x xs ih => cases b with
    | nil => simp [cmpL] at h
    | cons y ys => cases c with
      | nil => simp [cmpL] at k
      | cons z zs =>
        unfold cmpL at h k ⊢
        by_cases h1 : x < y
        · by_cases h2 : y < z
          · rw [if_pos (by omega)]; omega
          · rw [if_neg h2] at k
            by_cases h3 : z < y
            · rw [if_pos h3] at k; omega
            · rw [if_pos (by omega)]; omega
        · rw [if_neg h1] at h
          by_cases h2 : y < x
          · rw [if_pos h2] at h; omega
          · rw [if_neg h2] at h
            have hxy : x = y := by omega
            subst hxy
            by_cases h3 : x < z
            · rw [if_pos h3]; omega
            · rw [if_neg h3] at k ⊢
              by_cases h4 : z < x
              · rw [if_pos h4] at k; omega
              · rw [if_neg h4] at k ⊢
                exact ih h k

theorem rd_at (xs : List Int) (i : Nat) (h : i < xs.length) : rd xs (i : Int) = xs[i] := by
  simp [rd, List.getD_eq_getElem?_getD, List.getElem?_eq_getElem h]
theorem wrap_succ (i n : Nat) (h : i < n) (hn : n ≤ 4611686018427387904) : wrap64 ((i : Int) + 1) = ((i + 1 : Nat) : Int) := by
  unfold wrap64; rw [Int.natCast_add]; show _ = (i : Int) + 1; omega

theorem cmpI_val (x y : Int) : cmp_Compare_int.f x y = some (if x < y then -1 else if y < x then 1 else 0) := by
  simp only [cmp_Compare_int.f, cmp_isNaN_int.f, bne_self_eq_false, Option.bind_some]
  simp only [Bool.false_eq_true, if_false, gt_iff_lt]
  split
  · rfl
  · split <;> rfl

theorem cmp104_ev (a b : List Int) (ha : a.length ≤ 4611686018427387904) : ∀ (m i : Nat), a.length - i = m → i ≤ a.length → i ≤ b.length → Ev (fun k => api_Tuple_int_104.l0 k a b a (a.length : Int) (i : Int)) (cmpL (a.drop i) (b.drop i)) := by
  intro m
  induction m with
  | zero =>
    intro i hm hi hb
    have hia : i = a.length := by omega
    subst hia
    refine ⟨1, fun k hk => ?_⟩
    obtain ⟨k, rfl⟩ : ∃ j, k = j + 1 := ⟨k - 1, by omega⟩
    simp only [api_Tuple_int_104.l0]
    rw [if_neg (by omega), List.drop_length]
    by_cases h : a.length < b.length
    · rw [if_pos (by omega)]
      cases hd : b.drop a.length with
      | nil => have := congrArg List.length hd; simp at this; omega
      | cons y ys => rfl
    · rw [if_neg (by omega), List.drop_of_length_le (by omega)]
      rfl
  | succ m ih =>
    intro i hm hi hb
    have hia : i < a.length := by omega
    have hda : a.drop i = a[i] :: a.drop (i + 1) := List.drop_eq_getElem_cons hia
    refine Ev.step (f := fun k => if (i : Int) ≥ (b.length : Int) then some 1 else if (i : Int) < (b.length : Int) then ((cmp_Compare_int.f (rd a i) (rd b i)).bind fun t122 => if t122 = 0 then api_Tuple_int_104.l0 k a b a a.length (wrap64 ((i : Int) + 1)) else some t122) else none) (fun k => ?_) ?_
    · simp only [api_Tuple_int_104.l0]
      rw [if_pos (by omega), if_pos (by omega), if_pos (by omega)]
    · by_cases hib : i < b.length
      · have hdb : b.drop i = b[i] :: b.drop (i + 1) := List.drop_eq_getElem_cons hib
        refine Ev.congr (f := fun k => if a[i] < b[i] then some (-1) else if b[i] < a[i] then some 1 else api_Tuple_int_104.l0 k a b a a.length ((i + 1 : Nat) : Int)) (fun k => ?_) ?_
        · rw [if_neg (by omega), if_pos (by omega), cmpI_val, rd_at a i hia, rd_at b i hib, wrap_succ i a.length hia ha]
          split
          · simp
          · split
            · simp
            · simp
        · rw [hda, hdb]
          unfold cmpL
          split
          · exact Ev.now _
          · split
            · exact Ev.now _
            · exact ih (i + 1) (by omega) (by omega) (by omega)
      · refine Ev.congr (f := fun k => some 1) (fun k => ?_) ?_
        · rw [if_pos (by omega)]
        · rw [hda, List.drop_of_length_le (l := b) (by omega)]
          exact Ev.now _
theorem cmp104_val (a b : List Int) (ha : a.length ≤ 4611686018427387904) : Ev (fun k => api_Tuple_int_104.f k a b) (cmpL a b) := by
  have := cmp104_ev a b ha a.length 0 (by omega) (by omega) (by omega)
  simpa [api_Tuple_int_104.f] using this
theorem tupleCmp_val (a b : List Int) (ha : a.length ≤ 4611686018427387904) : ∃ k, tuple_Cmp.f k a b = some (cmpL a b) := by
  obtain ⟨K, h⟩ := cmp104_val a b ha
  exact ⟨K, by simp [tuple_Cmp.f, h K (Nat.le_refl _)]⟩
theorem tupleSame_val (a b : List Int) (ha : a.length ≤ 4611686018427387904) : ∃ k, tuple_same.f k a b = some (decide (a = b)) := by
  obtain ⟨k, h⟩ := tupleCmp_val a b ha
  refine ⟨k, ?_⟩
  simp only [tuple_same.f, h, Option.bind_some]
  congr 1
  rw [Bool.eq_iff_iff]
  simp only [beq_iff_eq, decide_eq_true_eq]
  exact ⟨cmpL_eq, fun h => by rw [h, cmpL_refl]⟩

theorem refCmp_ev (a b : List Int) (ha : a.length ≤ 4611686018427387904) : ∀ (m i : Nat), a.length - i = m → i ≤ a.length → i ≤ b.length → Ev (fun k => rhizomeref10_Cmp.l0 k a b (i : Int)) (cmpL (a.drop i) (b.drop i)) := by
  intro m
  induction m with
  | zero =>
    intro i hm hi hb
    have hia : i = a.length := by omega
    subst hia
    refine ⟨2, fun k hk => ?_⟩
    obtain ⟨k, rfl⟩ : ∃ j, k = j + 2 := ⟨k - 2, by omega⟩
    simp only [rhizomeref10_Cmp.l0, rhizomeref10_Cmp.j1]
    rw [if_neg (by omega), List.drop_length, if_neg (by simp)]
    by_cases h : a.length < b.length
    · rw [if_pos (by omega)]
      cases hd : b.drop a.length with
      | nil => have := congrArg List.length hd; simp at this; omega
      | cons y ys => rfl
    · rw [if_neg (by omega), if_neg (by omega), List.drop_of_length_le (by omega)]
      rfl
  | succ m ih =>
    intro i hm hi hb
    have hia : i < a.length := by omega
    have hda : a.drop i = a[i] :: a.drop (i + 1) := List.drop_eq_getElem_cons hia
    by_cases hib : i < b.length
    · have hdb : b.drop i = b[i] :: b.drop (i + 1) := List.drop_eq_getElem_cons hib
      obtain ⟨K, hK⟩ := ih (i + 1) (by omega) (by omega) (by omega)
      have hK' : ∀ k, K ≤ k → rhizomeref10_Cmp.l0 k a b ((i + 1 : Nat) : Int) = some (cmpL (a.drop (i + 1)) (b.drop (i + 1))) := hK
      refine ⟨K + 2, fun k hk => ?_⟩
      obtain ⟨k, rfl⟩ : ∃ j, k = j + 2 := ⟨k - 2, by omega⟩
      simp only [rhizomeref10_Cmp.l0, rhizomeref10_Cmp.j1]
      rw [if_pos (by omega), if_pos (by simpa using hib), if_pos (by omega), if_pos (by omega), if_pos (by omega), rd_at a i hia, rd_at b i hib, wrap_succ i a.length hia ha, hK' k (by omega), hda, hdb]
      simp only [cmpL]
      split
      · rfl
      · split <;> simp_all
    · refine ⟨2, fun k hk => ?_⟩
      obtain ⟨k, rfl⟩ : ∃ j, k = j + 2 := ⟨k - 2, by omega⟩
      simp only [rhizomeref10_Cmp.l0, rhizomeref10_Cmp.j1]
      rw [if_pos (by omega), if_neg (by simpa using hib), if_neg (by omega), if_pos (by omega), hda, List.drop_of_length_le (l := b) (by omega)]
      rfl
theorem refCmp_val (a b : List Int) (ha : a.length ≤ 4611686018427387904) : Ev (fun k => rhizomeref10_Cmp.f k a b) (cmpL a b) := by
  have := refCmp_ev a b ha a.length 0 (by omega) (by omega) (by omega)
  simpa [rhizomeref10_Cmp.f] using this

end Go.Proofs.Ytcchcifcfcpjiaa.J
