/- rhizomelaw13.awake: the walk; the row's edges. -/
import Derived.Test.YtcchcifcfcpjiaaSV
import Derived.Test.YtcchcifcfcpjiaaSZ
import Derived.Test.YtcchcifcfcpjiaaTA
import Derived.Test.YtcchcifcfcpjiaaPJx4
set_option linter.unusedVariables false
set_option linter.unusedSimpArgs false
namespace Go.Proofs.Ytcchcifcfcpjiaa.J
open Go.RowKit Go.Proofs.YtcchcifcfcpjiaaW.PrintWords Go.Proofs.YtcchcifcfcpjiaaW.PrintLast Go.Proofs.YtcchcifcfcpjiaaW.PrintMore Go.Proofs.Ytcchcifcfcpjiaa.PJ

theorem norm_one (x : Int) : norm [x] = [x] := by
  unfold norm sortI
  rw [List.mergeSort_singleton]
  unfold Lib.compact Lib.compactUpTo
  rw [List.length_singleton]
  have h0 : Lib.keeps [x].toArray 0 = true := Lib.keeps_lt_one _ 0 (by omega)
  simp [List.range_succ, h0]

def lbA : ByteArray := ⟨#[97]⟩
def esE : List S82 := [⟨1, lbA, 2⟩, ⟨2, lbA, 3⟩, ⟨3, lbA, 2⟩]
theorem outsE (a : Int) : outs lbA esE a = fsE a := by
  unfold outs esE fsE
  by_cases h1 : a = 1
  · subst h1; simp
  · by_cases h2 : a = 2
    · subst h2; simp
    · by_cases h3 : a = 3
      · subst h3; simp
      · have e1 : ¬ (1 : Int) = a := fun e => h1 e.symm
        have e2 : ¬ (2 : Int) = a := fun e => h2 e.symm
        have e3 : ¬ (3 : Int) = a := fun e => h3 e.symm
        simp [h1, h2, h3, e1, e2, e3]
theorem nextE : nextF lbA esE = fsE := by
  funext a
  unfold nextF
  rw [outsE]
  unfold fsE
  repeat' split
  all_goals first | exact norm_one _ | exact norm_nil

theorem tup_lit {w : World} {q : Nat} {xs : List Int} (hq : w.heap[q]? = some (.cells (nums .i64 xs).toArray 3 (0, 0))) (hl : xs.length ≤ maxLen) : TupAt w (fun _ => True) (.slice (some ⟨q, 0, none⟩) xs.length xs.length) xs :=
  .inr ⟨q, 0, xs.length, _, rfl, trivial, hq, Nat.le_refl _, hl, by simp [nums], fun j x hj => ⟨.int .i64 x, by simp [nums, hj], rfl⟩⟩
theorem lens_nodup {ps : List (List Int)} (h : ps.Pairwise (fun a b => cmpL a b < 0)) : ps.Nodup := by
  rw [List.nodup_iff_pairwise_ne]
  refine h.imp ?_
  rintro a b hab rfl
  exact cmpL_irrefl _ hab

set_option maxRecDepth 100000 in
theorem awake13_walk (w : World) : Calls Try.prog 38 #[] w fun e w' => e = .returned (.bool true) ∧ Below w.heap.size w w' := by
  obtain ⟨K1, hi1⟩ : ∃ k, rhizomeref01_Ints.f k [2, 3, 2] [2, 3, 2] = some true := ⟨10, by decide +kernel⟩
  obtain ⟨K2, hi2⟩ : ∃ k, rhizomeref01_Ints.f k [2, 3] [2, 3] = some true := ⟨10, by decide +kernel⟩
  have HI1 := Aside0.mk hi1
  have HI2 := Aside0.mk hi2
  clear hi1 hi2
  go_enter Try.func38, Try.ntmps38
  go_upto_region 2 with fail
  have g1 := heap_alloc_new w (.cells #[.int .i64 1, .string ⟨#[97]⟩, .int .i64 2, .int .i64 2, .string ⟨#[97]⟩, .int .i64 3, .int .i64 3, .string ⟨#[97]⟩, .int .i64 2] 82)
  have HB1 : Aside0 (Below w.heap.size w (w.alloc (.cells #[.int .i64 1, .string ⟨#[97]⟩, .int .i64 2, .int .i64 2, .string ⟨#[97]⟩, .int .i64 3, .int .i64 3, .string ⟨#[97]⟩, .int .i64 2] 82))) := ⟨below_alloc (Below.refl _ _) _⟩
  generalize w.alloc (.cells #[.int .i64 1, .string ⟨#[97]⟩, .int .i64 2, .int .i64 2, .string ⟨#[97]⟩, .int .i64 3, .int .i64 3, .string ⟨#[97]⟩, .int .i64 2] 82) = w1 at *
  have hE : Kd.C k82 w1 (some ⟨w.heap.size, 0, none⟩) esE.length esE := ⟨rfl, by decide, fun _ => ⟨⟨w.heap.size, 0, none⟩, rfl, fun j p hj => by
    match j, hj with
    | 0, hj =>
      injection hj with hj; subst hj
      refine ⟨_, rfl, k82_mk w1 _, fun i u hi => ?_⟩
      match i, hi with
      | 0, hi => injection hi with hi; subst hi; exact cell_at g1 0
      | 1, hi => injection hi with hi; subst hi; exact cell_at g1 1
      | 2, hi => injection hi with hi; subst hi; exact cell_at g1 2
    | 1, hj =>
      injection hj with hj; subst hj
      refine ⟨_, rfl, k82_mk w1 _, fun i u hi => ?_⟩
      match i, hi with
      | 0, hi => injection hi with hi; subst hi; exact cell_at g1 3
      | 1, hi => injection hi with hi; subst hi; exact cell_at g1 4
      | 2, hi => injection hi with hi; subst hi; exact cell_at g1 5
    | 2, hj =>
      injection hj with hj; subst hj
      refine ⟨_, rfl, k82_mk w1 _, fun i u hi => ?_⟩
      match i, hi with
      | 0, hi => injection hi with hi; subst hi; exact cell_at g1 6
      | 1, hi => injection hi with hi; subst hi; exact cell_at g1 7
      | 2, hi => injection hi with hi; subst hi; exact cell_at g1 8⟩⟩
  have HE := Aside0.mk hE
  have hwf : ∀ e ∈ esE, (Lit.int .i64 e.f0).wf = true := by decide
  have hwf2 : ∀ e ∈ esE, (Lit.int .i64 e.f2).wf = true := by decide
  have hnm : nameB lbA = true := by decide +kernel
  clear hE g1
  go_wp2_with fail
  refine (pairs_calls w1 (lab := lbA) (es := esE) (c := 3) hnm HE.out (by decide) hwf (fun xs hx ht => by rw [nextE] at ht; exact ex_le hx ht)).mono ?_
  rintro e w2 ⟨v2, ps, rfl, ht2, hup2, hmem2, hB2⟩
  have hl2 : ps.length = 6 := ex_count (lens_nodup hup2) (by rw [nextE] at hmem2; exact hmem2)
  obtain ⟨A2, c2, rfl, _⟩ := SlAt.shape ht2
  rw [hl2]
  have HB2 := Aside0.mk (HB1.out.trans (hB2.mono HB1.out.size))
  have HE2 := Aside0.mk (Kd.C_below HE.out hB2)
  clear ht2 hup2 hmem2 hB2 hl2
  go_wp2_with fail
  refine (way_calls w2 (lab := lbA) (es := esE) (c := 3) (a := 2) (b := 2) hnm HE2.out (by decide)).mono ?_
  rintro e w3 ⟨hB3, hw⟩
  rw [nextE] at hw
  rcases hw with ⟨v3, l, rfl, hwalk, hne, ht3⟩ | ⟨_, hnr⟩
  · obtain rfl := ex_walk hwalk hne
    have HE3 := Aside0.mk (Kd.C_below HE2.out hB3)
    have HB3 := Aside0.mk (HB2.out.trans (hB3.mono HB2.out.size))
    have HT3 := Aside0.mk ht3
    clear ht3 hB3 hwalk hne
    go_wp2_with fail
    refine (rings_calls w3 (lab := lbA) (es := esE) (c := 3) hnm HE3.out (by decide) hwf hwf2).mono ?_
    rintro e w4 ⟨v4, rs, rfl, hr4, hof, hB4⟩
    rw [nextE] at hof
    obtain rfl := ex_rings hof
    have HB4 := Aside0.mk (HB3.out.trans (hB4.mono HB3.out.size))
    have hT4 := HT3.out.below hB4
    obtain ⟨A3, c3, rfl, hc3, hC3⟩ := TupAt.reads hT4
    obtain ⟨A4, c4, rfl, _⟩ := SlAt.shape hr4
    obtain ⟨ga, oa, u, rfl, ha, _, hu, _⟩ := SlAt.at_ hr4 0 (by decide)
    change TupAt w4 (w3.heap.size ≤ ·) u [2, 3] at hu
    obtain ⟨A5, c5, rfl, hc5, hC5⟩ := TupAt.reads hu
    rw [Nat.add_zero] at ha
    have HC3 := Aside0.mk hC3
    have HC5 := Aside0.mk hC5
    have G3 := Aside0.mk hc3
    have G5 := Aside0.mk hc5
    clear hC3 hC5 hc3 hc5 hu hT4 hr4 hB4 hof
    go_wp2_with fail
    have hB5 : Below w4.heap.size w4 (w4.alloc (.cells #[.int .i64 2, .int .i64 3, .int .i64 2] 3)) := below_alloc (Below.refl _ _) _
    have hT5 : TupAt (w4.alloc (.cells #[.int .i64 2, .int .i64 3, .int .i64 2] 3)) (fun _ => True) (.slice (some ⟨w4.heap.size, 0, none⟩) 3 3) [2, 3, 2] := tup_lit (xs := [2, 3, 2]) (heap_alloc_new _ _) (by decide)
    obtain ⟨_, _, e5, _, hL5⟩ := TupAt.reads hT5
    injection e5 with e5 _ e5c
    subst e5 e5c
    refine (rhizomeref01_Ints.calls K1 A3 c3 [2, 3, 2] _ 3 [2, 3, 2] true _ (Kd.C_below HC3.out hB5) G3.out hL5 (by decide) HI1.out).mono ?_
    rintro e w5 ⟨rfl, n5, rfl⟩
    have HB5 : Aside0 (Below w4.heap.size w4 ((w4.alloc (.cells #[.int .i64 2, .int .i64 3, .int .i64 2] 3)).drewN n5)) := ⟨pw_below_drewN hB5 _⟩
    clear hT5 hL5 hB5
    generalize (w4.alloc (.cells #[.int .i64 2, .int .i64 3, .int .i64 2] 3)).drewN n5 = w5 at *
    have ha5 := pw_cell_below HB5.out ha
    change w5.cell? ⟨ga, oa, none⟩ = some (.slice A5 2 c5) at ha5
    go_wp2_with fail
    have hB6 : Below w5.heap.size w5 (w5.alloc (.cells #[.int .i64 2, .int .i64 3] 3)) := below_alloc (Below.refl _ _) _
    have hT6 : TupAt (w5.alloc (.cells #[.int .i64 2, .int .i64 3] 3)) (fun _ => True) (.slice (some ⟨w5.heap.size, 0, none⟩) 2 2) [2, 3] := tup_lit (xs := [2, 3]) (heap_alloc_new _ _) (by decide)
    obtain ⟨_, _, e6, _, hL6⟩ := TupAt.reads hT6
    injection e6 with e6 _ e6c
    subst e6 e6c
    refine (rhizomeref01_Ints.calls K2 A5 c5 [2, 3] _ 2 [2, 3] true _ (Kd.C_below (Kd.C_below HC5.out HB5.out) hB6) G5.out hL6 (by decide) HI2.out).mono ?_
    rintro e w6 ⟨rfl, n6, rfl⟩
    go_wp2_with fail
    go_ret
    exact ⟨rfl, pw_below_drewN ((HB4.out.trans (HB5.out.mono HB4.out.size)).trans (hB6.mono (HB4.out.trans (HB5.out.mono HB4.out.size)).size)) _⟩
  · exact absurd (reachE.2 (by omega)) hnr
end Go.Proofs.Ytcchcifcfcpjiaa.J
