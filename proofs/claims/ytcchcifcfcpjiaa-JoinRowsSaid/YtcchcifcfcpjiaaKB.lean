/- join.Rows and join.Result, and the document's, by one value each. The document's Rows and Result where there is no pattern, or it is too great: the walks. -/
import Derived.Test.YtcchcifcfcpjiaaKT
import Derived.Test.YtcchcifcfcpjiaaPKo
set_option linter.unusedVariables false
set_option linter.unusedSimpArgs false
namespace Go.Proofs.Ytcchcifcfcpjiaa.J
open Go.RowKit Go.Proofs.YtcchcifcfcpjiaaW.PrintWords Go.Proofs.YtcchcifcfcpjiaaW.PrintLast Go.Proofs.YtcchcifcfcpjiaaW.PrintMore Go.Proofs.Ytcchcifcfcpjiaa.PJ

set_option maxRecDepth 100000 in
theorem refrows_kind (w : World) {nm lb : ByteArray} {kd : Int} {A2 A3 A1 : Option Addr} {c2 c3 c1 : Nat} {out : List ByteArray} {ats : List S118} {es : List S82} (hk : kd ≠ 1) :
    Calls Try.prog 29 #[.agg #[.string nm, .int .i64 kd, .slice A2 out.length c2, .slice A3 ats.length c3, .string lb], .slice A1 es.length c1] w fun e w' => e = .returned (.tuple #[.slice none 0 0, .int .i64 1]) ∧ Below w.heap.size w w' := by
  have hu59 := Try.underlying59
  have hc0 : (kd != 1) = true := bne_iff_ne.2 hk
  have hc1 : (kd == 1) = false := beq_eq_false_iff_ne.2 hk
  clear hk
  go_enter Try.func29, Try.ntmps29
  go_upto_region 1 with fail
  have hB1 : Below w.heap.size w (w.alloc (.cells #[.string nm, .int .i64 kd, .slice A2 out.length c2, .slice A3 ats.length c3, .string lb] 59)) := below_alloc (Below.refl _ _) _
  have hbx : (w.alloc (.cells #[.string nm, .int .i64 kd, .slice A2 out.length c2, .slice A3 ats.length c3, .string lb] 59)).heap[w.heap.size]? = some (.cells #[.string nm, .int .i64 kd, .slice A2 out.length c2, .slice A3 ats.length c3, .string lb] 59 (0, 0)) := heap_alloc_new _ _
  have k1 := cell_at hbx 1
  have HB1 := Aside0.mk hB1
  clear hB1 hbx
  generalize w.alloc (.cells #[.string nm, .int .i64 kd, .slice A2 out.length c2, .slice A3 ats.length c3, .string lb] 59) = w1 at *
  go_wp2_with fail
  go_ret2
  exact ⟨rfl, HB1.out⟩

set_option maxRecDepth 100000 in
theorem refrows_none (w : World) {nm lb : ByteArray} {A2 A3 A1 : Option Addr} {c2 c3 c1 : Nat} {out : List ByteArray} {ats : List S118} {es : List S82} {kg : Nat}
    (h2 : Kd.C Kd.string w A2 out.length out) (g2 : out.length ≤ c2) (h3 : Kd.C k118 w A3 ats.length ats) (g3 : ats.length ≤ c3)
    (hg : rhizomeref09_Good.f kg nm 1 out ats lb = some false) :
    Calls Try.prog 29 #[.agg #[.string nm, .int .i64 1, .slice A2 out.length c2, .slice A3 ats.length c3, .string lb], .slice A1 es.length c1] w fun e w' => e = .returned (.tuple #[.slice none 0 0, .int .i64 1]) ∧ Below w.heap.size w w' := by
  have H2 := Aside0.mk h2
  have H3 := Aside0.mk h3
  have HG2 := Aside0.mk g2
  have HG3 := Aside0.mk g3
  have HGd := Aside0.mk hg
  clear h2 h3 hg g2 g3
  have hu59 := Try.underlying59
  go_enter Try.func29, Try.ntmps29
  go_upto_region 1 with fail
  have hB1 : Below w.heap.size w (w.alloc (.cells #[.string nm, .int .i64 1, .slice A2 out.length c2, .slice A3 ats.length c3, .string lb] 59)) := below_alloc (Below.refl _ _) _
  have hbx : (w.alloc (.cells #[.string nm, .int .i64 1, .slice A2 out.length c2, .slice A3 ats.length c3, .string lb] 59)).heap[w.heap.size]? = some (.cells #[.string nm, .int .i64 1, .slice A2 out.length c2, .slice A3 ats.length c3, .string lb] 59 (0, 0)) := heap_alloc_new _ _
  have k0 := cell_at hbx 0
  have k1 := cell_at hbx 1
  have k2 := cell_at hbx 2
  have k3 := cell_at hbx 3
  have k4 := cell_at hbx 4
  have HB1 := Aside0.mk hB1
  clear hB1 hbx
  generalize w.alloc (.cells #[.string nm, .int .i64 1, .slice A2 out.length c2, .slice A3 ats.length c3, .string lb] 59) = w1 at *
  go_wp2_with (go_at_call 71; (with_reducible refine (rhizomeref09_Good.calls kg nm 1 _ _ out _ _ ats lb false _ (Kd.C_below H2.out HB1.out) HG2.out (Kd.C_below H3.out HB1.out) HG3.out HGd.out).mono ?_); rintro e w2 ⟨rfl, hb2⟩)
  go_ret2
  exact ⟨rfl, HB1.out.trans (hb2.mono HB1.out.size)⟩

set_option maxRecDepth 100000 in
theorem refresult_err (w : World) {nm lb : ByteArray} {kd : Int} {A2 A3 A1 : Option Addr} {c2 c3 c1 : Nat} {out : List ByteArray} {ats : List S118} {es : List S82} {cd : Int} (hcd : cd ≠ 0)
    (hr : ∀ W, Below w.heap.size w W → Calls Try.prog 29 #[.agg #[.string nm, .int .i64 kd, .slice A2 out.length c2, .slice A3 ats.length c3, .string lb], .slice A1 es.length c1] W fun e w' => ∃ v', e = .returned (.tuple #[v', .int .i64 cd]) ∧ Below W.heap.size W w') :
    Calls Try.prog 31 #[.agg #[.string nm, .int .i64 kd, .slice A2 out.length c2, .slice A3 ats.length c3, .string lb], .slice A1 es.length c1] w fun e w' => e = .returned (.tuple #[.slice none 0 0, .slice none 0 0, .int .i64 cd]) ∧ Below w.heap.size w w' := by
  have HR := Aside0.mk hr
  clear hr
  have hu59 := Try.underlying59
  have hc0 : (cd != 0) = true := bne_iff_ne.2 hcd
  have hc1 : (cd == 0) = false := beq_eq_false_iff_ne.2 hcd
  clear hcd
  go_enter Try.func31, Try.ntmps31
  go_upto_region 1 with fail
  have hB1 : Below w.heap.size w (w.alloc (.cells #[.string nm, .int .i64 kd, .slice A2 out.length c2, .slice A3 ats.length c3, .string lb] 59)) := below_alloc (Below.refl _ _) _
  have hbx : (w.alloc (.cells #[.string nm, .int .i64 kd, .slice A2 out.length c2, .slice A3 ats.length c3, .string lb] 59)).heap[w.heap.size]? = some (.cells #[.string nm, .int .i64 kd, .slice A2 out.length c2, .slice A3 ats.length c3, .string lb] 59 (0, 0)) := heap_alloc_new _ _
  have k0 := cell_at hbx 0
  have k1 := cell_at hbx 1
  have k2 := cell_at hbx 2
  have k3 := cell_at hbx 3
  have k4 := cell_at hbx 4
  have HB1 := Aside0.mk hB1
  clear hB1 hbx
  generalize w.alloc (.cells #[.string nm, .int .i64 kd, .slice A2 out.length c2, .slice A3 ats.length c3, .string lb] 59) = w1 at *
  go_wp2_with (go_at_call 29; (with_reducible refine (HR.out _ ?side1).mono ?_); (case side1 => exact HB1.out); rintro e w2 ⟨v', rfl, hb2⟩)
  go_ret3
  exact ⟨rfl, HB1.out.trans (hb2.mono HB1.out.size)⟩
end Go.Proofs.Ytcchcifcfcpjiaa.J

set_option linter.unusedVariables false
set_option linter.unusedSimpArgs false
namespace Go.Proofs.Ytcchcifcfcpjiaa.J
open Go.RowKit Go.Proofs.YtcchcifcfcpjiaaW.PrintWords Go.Proofs.YtcchcifcfcpjiaaW.PrintLast Go.Proofs.YtcchcifcfcpjiaaW.PrintMore Go.Proofs.Ytcchcifcfcpjiaa.PJ

/-- The rows of a pattern, and the code. -/
def rowsV (nm lb : ByteArray) (kd : Int) (out : List ByteArray) (ats : List S118) (es : List S82) : List (List Int) × Int :=
  if (decide (kd = 1) && checkB nm lb out ats) = true then (match allRows (varsOf ats) es ats [[]] with | none => ([], 5) | some rows => (setOf rows, 0)) else ([], 1)
/-- The result of a pattern, its counts, and the code. -/
def resV (nm lb : ByteArray) (kd : Int) (out : List ByteArray) (ats : List S118) (es : List S82) : List (List Int) × List Int × Int :=
  if (decide (kd = 1) && checkB nm lb out ats) = true then (match allRows (varsOf ats) es ats [[]] with
    | none => ([], [], 5)
    | some rows => (setOf ((setOf rows).map (projR (varsOf ats) out)), (setOf ((setOf rows).map (projR (varsOf ats) out))).map (fun t => ((((setOf rows).map (projR (varsOf ats) out)).count t : Nat) : Int)), 0)) else ([], [], 1)
theorem resV_code (nm lb : ByteArray) (kd : Int) (out : List ByteArray) (ats : List S118) (es : List S82) : (resV nm lb kd out ats es).2.2 = (rowsV nm lb kd out ats es).2 := by
  unfold resV rowsV
  split
  · cases allRows (varsOf ats) es ats [[]] <;> rfl
  · rfl

theorem allRows_small (vs : List ByteArray) (es : List S82) : ∀ (ats : List S118) (rows0 rows : List (List Int)), rows0.length ≤ 3000 → allRows vs es ats rows0 = some rows → rows.length ≤ 3000
  | [], rows0, rows, h0, h => by
    simp only [allRows] at h
    injection h with h
    rw [← h]; exact h0
  | a :: ats, rows0, rows, h0, h => by
    simp only [allRows] at h
    split at h
    · exact allRows_small vs es ats _ rows (by assumption) h
    · cases h
theorem insU_length (t : List Int) : ∀ l : List (List Int), (insU t l).length ≤ l.length + 1
  | [] => by simp [insU]
  | y :: l => by
    have := insU_length t l
    unfold insU
    split
    · simp
    · split
      · simp
      · simp only [List.length_cons]; omega
theorem setOf_length : ∀ l : List (List Int), (setOf l).length ≤ l.length
  | [] => by simp [setOf]
  | t :: l => by
    have h1 := insU_length t (setOf l)
    have h2 := setOf_length l
    show (insU t (setOf l)).length ≤ _
    simp only [List.length_cons]
    omega
theorem mem_setOf (l : List (List Int)) (x : List Int) : x ∈ setOf l ↔ x ∈ l := (isSet_setOf l).mem x
theorem outB_mem {vs : List ByteArray} : ∀ {out pre : List ByteArray}, outB vs pre out = true → ∀ o ∈ out, o ∈ vs
  | [], _, _, o, ho => by cases ho
  | x :: out, pre, h, o, ho => by
    unfold outB at h
    simp only [Bool.and_eq_true, decide_eq_true_eq] at h
    rcases List.mem_cons.1 ho with rfl | ho
    · exact h.1
    · exact outB_mem h.2.2 o ho

section
variable (w : World) {nm lb : ByteArray} {kd : Int} {A2 A3 A1 : Option Addr} {c2 c3 c1 : Nat} {out : List ByteArray} {ats : List S118} {es : List S82}
variable (h2 : Kd.C Kd.string w A2 out.length out) (g2 : out.length ≤ c2) (h3 : Kd.C k118 w A3 ats.length ats) (g3 : ats.length ≤ c3) (hE : Kd.C k82 w A1 es.length es) (gE : es.length ≤ c1)
variable (ho : out.length ≤ 1000) (ha : ats.length ≤ 1000) (he : es.length ≤ 1000)
include h2 g2 h3 g3 hE ho ha he
theorem jrows_V : Calls Try.prog 27 #[.agg #[.string nm, .int .i64 kd, .slice A2 out.length c2, .slice A3 ats.length c3, .string lb], .slice A1 es.length c1] w fun e w' =>
    ∃ v, e = .returned (.tuple #[v, .int .i64 (rowsV nm lb kd out ats es).2]) ∧ TupsAt w' (w.heap.size ≤ ·) v (rowsV nm lb kd out ats es).1 ∧ Below w.heap.size w w' := by
  have hvl := varsOf_length ats
  obtain ⟨K1, hb1⟩ := bad_val nm lb kd out ats ha ho
  obtain ⟨K2, hv2⟩ := qvars_val nm lb kd out ats ha
  have hb := hb1 (max K1 K2) (by omega)
  have hv := hv2 (max K1 K2) (by omega)
  unfold rowsV
  by_cases hg : (decide (kd = 1) && checkB nm lb out ats) = true
  · rw [if_pos hg]
    rw [hg] at hb
    refine (rows_good w h2 g2 h3 g3 hE hb hv (idx_rounds _ (by omega)) he ha).mono ?_
    intro e w' hp
    cases hall : allRows (varsOf ats) es ats [[]] with
    | none =>
      rw [hall] at hp
      exact ⟨.slice none 0 0, hp.1, SlAt.nil _ _ _ _, hp.2⟩
    | some rows =>
      rw [hall] at hp
      obtain ⟨⟨v', ys, rfl, hys, hty⟩, hbw⟩ := hp
      refine ⟨v', rfl, ?_, hbw⟩
      show TupsAt _ _ _ (setOf rows)
      rw [setOf_eq hys]
      exact hty
  · rw [if_neg hg]
    have hg' : (decide (kd = 1) && checkB nm lb out ats) = false := by simpa using hg
    rw [hg'] at hb
    refine (rows_bad w (es := es) h2 g2 h3 g3 hb).mono ?_
    rintro e w' ⟨rfl, hbw⟩
    exact ⟨.slice none 0 0, rfl, SlAt.nil _ _ _ _, hbw⟩

theorem jresult_V : Calls Try.prog 28 #[.agg #[.string nm, .int .i64 kd, .slice A2 out.length c2, .slice A3 ats.length c3, .string lb], .slice A1 es.length c1] w fun e w' =>
    ∃ v1 v2, e = .returned (.tuple #[v1, v2, .int .i64 (resV nm lb kd out ats es).2.2]) ∧ TupsAt w' (w.heap.size ≤ ·) v1 (resV nm lb kd out ats es).1 ∧ TupAt w' (w.heap.size ≤ ·) v2 (resV nm lb kd out ats es).2.1 ∧ Below w.heap.size w w' := by
  have hvl := varsOf_length ats
  obtain ⟨K1, hb1⟩ := bad_val nm lb kd out ats ha ho
  obtain ⟨K2, hv2⟩ := qvars_val nm lb kd out ats ha
  have hb := hb1 (max K1 K2) (by omega)
  have hv := hv2 (max K1 K2) (by omega)
  unfold resV
  by_cases hg : (decide (kd = 1) && checkB nm lb out ats) = true
  · rw [if_pos hg]
    rw [hg] at hb
    have hr := fun W (hW : Below w.heap.size w W) => rows_good W (c1 := c1) (Kd.C_below h2 hW) g2 (Kd.C_below h3 hW) g3 (Kd.C_below hE hW) hb hv (idx_rounds _ (by omega)) he ha
    cases hall : allRows (varsOf ats) es ats [[]] with
    | none =>
      refine (result_err w (cd := 5) (by decide) (fun W hW => (hr W hW).mono (fun e w' hp => by rw [hall] at hp; exact hp))).mono ?_
      rintro e w' ⟨rfl, hbw⟩
      exact ⟨.slice none 0 0, .slice none 0 0, rfl, SlAt.nil _ _ _ _, SlAt.nil _ _ _ _, hbw⟩
    | some rows =>
      have hrl := rows_length es ats ats.length (Nat.le_refl _) rows (by rw [List.take_length]; exact hall)
      rw [List.take_length] at hrl
      have hr3 := allRows_small (varsOf ats) es ats [[]] rows (by simp) hall
      have hs3 := setOf_length rows
      simp only [Bool.and_eq_true, decide_eq_true_eq] at hg
      have hov : ∀ o ∈ out, o ∈ varsOf ats := by
        have := hg.2
        unfold checkB at this
        simp only [Bool.and_eq_true] at this
        exact outB_mem this.2.2
      refine (result_good w (rows := rows) (ys := setOf rows) (c1 := c1) h2 g2 h3 g3 (fun W hW => by have := hr W hW; rw [hall] at this; exact this) (isSet_setOf rows) (by omega) (fun r hr => hrl r ((mem_setOf _ _).1 hr)) ho hov hv (idx_rounds _ (by omega))).mono ?_
      rintro e w' ⟨⟨v1, v2, set, rfl, hset, ht, hn⟩, hbw⟩
      have hse : setOf ((setOf rows).map (projR (varsOf ats) out)) = set := setOf_eq hset
      refine ⟨v1, v2, rfl, ?_, ?_, hbw⟩
      · show TupsAt _ _ _ (setOf _)
        rw [hse]
        exact ht
      · show TupAt _ _ _ ((setOf _).map _)
        rw [hse]
        exact hn
  · rw [if_neg hg]
    have hg' : (decide (kd = 1) && checkB nm lb out ats) = false := by simpa using hg
    rw [hg'] at hb
    refine (result_err w (cd := 1) (by decide) (fun W hW => rows_bad W (es := es) (Kd.C_below h2 hW) g2 (Kd.C_below h3 hW) g3 hb)).mono ?_
    rintro e w' ⟨rfl, hbw⟩
    exact ⟨.slice none 0 0, .slice none 0 0, rfl, SlAt.nil _ _ _ _, SlAt.nil _ _ _ _, hbw⟩

variable (ht : TxtOk nm lb ats)
include gE ht
theorem rrows_V : Calls Try.prog 29 #[.agg #[.string nm, .int .i64 kd, .slice A2 out.length c2, .slice A3 ats.length c3, .string lb], .slice A1 es.length c1] w fun e w' =>
    ∃ v, e = .returned (.tuple #[v, .int .i64 (rowsV nm lb kd out ats es).2]) ∧ Kd.V (Kd.slice 3 (Kd.int .i64)) 75 w' w.heap.size (fun k_ => w.heap.size ≤ k_) v (rowsV nm lb kd out ats es).1 ∧ Below w.heap.size w w' := by
  have hvl := varsOf_length ats
  unfold rowsV
  by_cases hk : kd = 1
  · subst hk
    obtain ⟨kg, hgd⟩ := (good_val nm lb out ats ht ha ho).rounds
    simp only [decide_true, Bool.true_and]
    by_cases hg : checkB nm lb out ats = true
    · rw [if_pos hg]
      rw [hg] at hgd
      obtain ⟨kv, hv⟩ := (rvars_val nm lb 1 out ats ha).rounds
      obtain ⟨ko, hon⟩ := (once_val es he).rounds
      refine (refrows_good w h2 g2 h3 g3 hE gE hgd hv hon (fun x hx => ?_) he ha).mono ?_
      · obtain ⟨q, hq⟩ := (at_val (varsOf ats) x (by omega)).rounds
        rw [ixI_mem hx] at hq
        exact ⟨q, hq⟩
      · intro e w' hp
        cases hall : allRows (varsOf ats) es ats [[]] with
        | none =>
          rw [hall] at hp
          exact ⟨.slice none 0 0, hp.1, Kd.V_nil _ _ _ _ _, hp.2⟩
        | some rows =>
          rw [hall] at hp
          obtain ⟨⟨v', ys, rfl, hys, _, hty⟩, hbw⟩ := hp
          refine ⟨v', rfl, ?_, hbw⟩
          show Kd.V _ _ _ _ _ _ (setOf rows)
          rw [setOf_eq hys]
          exact hty
    · rw [if_neg hg]
      have hg' : checkB nm lb out ats = false := by simpa using hg
      rw [hg'] at hgd
      refine (refrows_none w h2 g2 h3 g3 hgd).mono ?_
      rintro e w' ⟨rfl, hbw⟩
      exact ⟨.slice none 0 0, rfl, Kd.V_nil _ _ _ _ _, hbw⟩
  · rw [if_neg (by simp [hk])]
    refine (refrows_kind w hk).mono ?_
    rintro e w' ⟨rfl, hbw⟩
    exact ⟨.slice none 0 0, rfl, Kd.V_nil _ _ _ _ _, hbw⟩
end

theorem rresult_V (w : World) {nm lb : ByteArray} {kd : Int} {A2 A3 A1 : Option Addr} {c2 c3 c1 : Nat} {out : List ByteArray} {ats : List S118} {es : List S82}
    (h2 : Kd.C Kd.string w A2 out.length out) (g2 : out.length ≤ c2) (h3 : Kd.C k118 w A3 ats.length ats) (g3 : ats.length ≤ c3) (hE : Kd.C k82 w A1 es.length es) (gE : es.length ≤ c1)
    (ho : out.length ≤ 1000) (ha : ats.length ≤ 1000) (he : es.length ≤ 1000) (ht : TxtOk nm lb ats) :
    Calls Try.prog 31 #[.agg #[.string nm, .int .i64 kd, .slice A2 out.length c2, .slice A3 ats.length c3, .string lb], .slice A1 es.length c1] w fun e w' =>
    ∃ v1 v2, e = .returned (.tuple #[v1, v2, .int .i64 (resV nm lb kd out ats es).2.2]) ∧ Kd.V (Kd.slice 3 (Kd.int .i64)) 75 w' w.heap.size (fun k_ => w.heap.size ≤ k_) v1 (resV nm lb kd out ats es).1 ∧ TupAt w' (w.heap.size ≤ ·) v2 (resV nm lb kd out ats es).2.1 ∧ Below w.heap.size w w' := by
  have hvl := varsOf_length ats
  have hr := fun W (hW : Below w.heap.size w W) => rrows_V W (c1 := c1) (kd := kd) (Kd.C_below h2 hW) g2 (Kd.C_below h3 hW) g3 (Kd.C_below hE hW) gE ho ha he ht
  obtain ⟨kv, hv⟩ := (rvars_val nm lb kd out ats ha).rounds
  by_cases hg : (decide (kd = 1) && checkB nm lb out ats) = true
  · have e1 : resV nm lb kd out ats es = match allRows (varsOf ats) es ats [[]] with
      | none => ([], [], 5)
      | some rows => (setOf ((setOf rows).map (projR (varsOf ats) out)), (setOf ((setOf rows).map (projR (varsOf ats) out))).map (fun t => ((((setOf rows).map (projR (varsOf ats) out)).count t : Nat) : Int)), 0) := by
      unfold resV
      rw [if_pos hg]
    have e2 : rowsV nm lb kd out ats es = match allRows (varsOf ats) es ats [[]] with | none => ([], 5) | some rows => (setOf rows, 0) := by
      unfold rowsV
      rw [if_pos hg]
    rw [e1]
    rw [e2] at hr
    cases hall : allRows (varsOf ats) es ats [[]] with
    | none =>
      rw [hall] at hr
      refine (refresult_err w (cd := 5) (by decide) (fun W hW => (hr W hW).mono (fun e w' ⟨v, h1, _, h3⟩ => ⟨v, h1, h3⟩))).mono ?_
      rintro e w' ⟨rfl, hbw⟩
      exact ⟨.slice none 0 0, .slice none 0 0, rfl, Kd.V_nil _ _ _ _ _, SlAt.nil _ _ _ _, hbw⟩
    | some rows =>
      rw [hall] at hr
      have hrl := rows_length es ats ats.length (Nat.le_refl _) rows (by rw [List.take_length]; exact hall)
      rw [List.take_length] at hrl
      have hr3 := allRows_small (varsOf ats) es ats [[]] rows (by simp) hall
      have hs3 := setOf_length rows
      simp only [Bool.and_eq_true, decide_eq_true_eq] at hg
      have hov : ∀ o ∈ out, o ∈ varsOf ats := by
        have := hg.2
        unfold checkB at this
        simp only [Bool.and_eq_true] at this
        exact outB_mem this.2.2
      refine (refresult_good w (ys := setOf rows) (c1 := c1) h2 g2 h3 g3 hr (by omega) (fun r hr => hrl r ((mem_setOf _ _).1 hr)) (by omega) ho hov hv (fun x hx => ?_)).mono ?_
      · obtain ⟨q, hq⟩ := (at_val (varsOf ats) x (by omega)).rounds
        rw [ixI_mem hx] at hq
        exact ⟨q, hq⟩
      · rintro e w' ⟨⟨v1, v2, set, rfl, hset, ht, hn⟩, hbw⟩
        have hse : setOf ((setOf rows).map (projR (varsOf ats) out)) = set := setOf_eq hset
        refine ⟨v1, v2, rfl, ?_, ?_, hbw⟩
        · show Kd.V _ _ _ _ _ _ (setOf _)
          rw [hse]
          exact ht
        · show TupAt _ _ _ ((setOf _).map _)
          rw [hse]
          exact hn
  · have e1 : resV nm lb kd out ats es = ([], [], 1) := if_neg hg
    have e2 : rowsV nm lb kd out ats es = ([], 1) := if_neg hg
    rw [e1]
    rw [e2] at hr
    refine (refresult_err w (cd := 1) (by decide) (fun W hW => (hr W hW).mono (fun e w' ⟨v, h1, _, h3⟩ => ⟨v, h1, h3⟩))).mono ?_
    rintro e w' ⟨rfl, hbw⟩
    exact ⟨.slice none 0 0, .slice none 0 0, rfl, Kd.V_nil _ _ _ _ _, SlAt.nil _ _ _ _, hbw⟩
end Go.Proofs.Ytcchcifcfcpjiaa.J
