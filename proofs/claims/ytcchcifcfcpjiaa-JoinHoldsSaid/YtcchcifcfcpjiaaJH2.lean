/- join.Holds: the function value, and the whole. -/
import Derived.Test.YtcchcifcfcpjiaaJH
set_option linter.unusedVariables false
set_option linter.unusedSimpArgs false
namespace Go.Proofs.Ytcchcifcfcpjiaa.J
open Go.RowKit Go.Proofs.YtcchcifcfcpjiaaW.PrintWords Go.Proofs.YtcchcifcfcpjiaaW.PrintLast Go.Proofs.YtcchcifcfcpjiaaW.PrintMore Go.Proofs.Ytcchcifcfcpjiaa.PJ

/-- An atom's edge in a row. -/
def edgeAt (vs : List ByteArray) (row : List Int) (a : S118) : S82 := ⟨row.getD (ixN vs a.f0) 0, a.f1, row.getD (ixN vs a.f2) 0⟩

set_option maxRecDepth 100000 in
set_option maxHeartbeats 2000000 in
theorem holds1_calls (w : World) {A1 Ar Av : Option Addr} {c1 cr cv b4 b5 b7 : Nat} {es : List S82} {row : List Int} {vs : List ByteArray} (a : S118)
    (h4 : w.cell? ⟨b4, 0, none⟩ = some (.slice A1 es.length c1)) (h5 : w.cell? ⟨b5, 0, none⟩ = some (.slice Ar row.length cr)) (h7 : w.cell? ⟨b7, 0, none⟩ = some (.slice Av vs.length cv))
    (hE : Kd.C k82 w A1 es.length es) (hR : Kd.C (Kd.int .i64) w Ar row.length row) (hV : Kd.C Kd.string w Av vs.length vs) (gV : vs.length ≤ cv) (hel : es.length ≤ 1000000)
    (hi0 : ixN vs a.f0 < row.length) (hi2 : ixN vs a.f2 < row.length) {qa qc : Nat} (hqa : slices_Index_string_string.f qa vs a.f0 = some ((ixN vs a.f0 : Nat) : Int)) (hqc : slices_Index_string_string.f qc vs a.f2 = some ((ixN vs a.f2 : Nat) : Int)) :
    Calls Try.prog 79 #[.agg #[.string a.f0, .string a.f1, .string a.f2], .pointer (some ⟨b4, 0, none⟩), .pointer (some ⟨b5, 0, none⟩), .pointer (some ⟨b7, 0, none⟩)] w fun e w' =>
      e = .returned (.bool (!es.any (eqE (edgeAt vs row a)))) ∧ Below w.heap.size w w' := by
  obtain ⟨a0, a1, a2⟩ := a
  simp only at hi0 hi2 hqa hqc
  obtain ⟨ad, had, hr0⟩ := Kd.at_int hR ((ixN vs a0 : Nat) : Int) (by omega) (by omega)
  obtain ⟨ad2, had2, hr2⟩ := Kd.at_int hR ((ixN vs a2 : Nat) : Int) (by omega) (by omega)
  subst had
  injection had2 with had2
  subst had2
  rw [Int.toNat_natCast] at hr0 hr2
  have e0 : rd row ((ixN vs a0 : Nat) : Int) = row.getD (ixN vs a0) 0 := by simp [rd]
  have e2 : rd row ((ixN vs a2 : Nat) : Int) = row.getD (ixN vs a2) 0 := by simp [rd]
  rw [e0] at hr0
  rw [e2] at hr2
  have hcon := fun W (hb : Below w.heap.size w W) => containsE_calls (c := c1) W (Kd.C_below hE hb) hel (edgeAt vs row ⟨a0, a1, a2⟩)
  change ∀ W, _ → Calls Try.prog 80 #[.slice A1 es.length c1, .agg #[.int .i64 (row.getD (ixN vs a0) 0), .string a1, .int .i64 (row.getD (ixN vs a2) 0)]] W _ at hcon
  have hcon2 : ∀ W, Below w.heap.size w W → Calls Try.prog 80 #[.slice A1 es.length c1, .agg #[.int .i64 (row.getD (ixN vs a0) 0), .string a1, .int .i64 (row.getD (ixN vs a2) 0)]] W fun e w' => e = .returned (.bool (es.any (eqE (edgeAt vs row ⟨a0, a1, a2⟩)))) ∧ Below W.heap.size W w' := hcon
  generalize es.any (eqE (edgeAt vs row ⟨a0, a1, a2⟩)) = d at *
  generalize row.getD (ixN vs a0) 0 = r0 at *
  generalize row.getD (ixN vs a2) 0 = r2 at *
  have i0 : ((ixN vs a0 : Nat) : Int) < (row.length : Int) := by omega
  have i2 : ((ixN vs a2 : Nat) : Int) < (row.length : Int) := by omega
  have HCE := Aside0.mk hcon2
  have HV := Aside0.mk hV
  have HGV := Aside0.mk gV
  have HQA := Aside0.mk hqa
  have HQC := Aside0.mk hqc
  have H4 := Aside0.mk h4
  have H5 := Aside0.mk h5
  have H7 := Aside0.mk h7
  have HR0 := Aside0.mk hr0
  have HR2 := Aside0.mk hr2
  clear hcon hcon2 hE hV hR gV hqa hqc h4 h5 h7 hr0 hr2 e0 e2
  go_enter Try.func79, Try.ntmps79
  go_upto_region 1 with fail
  have HB1 : Aside0 (Below w.heap.size w (w.alloc (.cells #[.string a0, .string a1, .string a2] 118))) := ⟨below_alloc (Below.refl _ _) _⟩
  have HQ : Aside0 ((w.alloc (.cells #[.string a0, .string a1, .string a2] 118)).heap[w.heap.size]? = some (.cells #[.string a0, .string a1, .string a2] 118 (0, 0))) := ⟨heap_alloc_new _ _⟩
  have HS : Aside0 (∀ W, Below (w.alloc (.cells #[.string a0, .string a1, .string a2] 118)).heap.size (w.alloc (.cells #[.string a0, .string a1, .string a2] 118)) W → W.cell? ⟨b4, 0, none⟩ = some (.slice A1 es.length c1) ∧ W.cell? ⟨b5, 0, none⟩ = some (.slice (some ad) row.length cr) ∧ W.cell? ⟨b7, 0, none⟩ = some (.slice Av vs.length cv) ∧ W.cell? ⟨w.heap.size, 0, none⟩ = some (.string a0) ∧ W.cell? ⟨w.heap.size, 1, none⟩ = some (.string a1) ∧ W.cell? ⟨w.heap.size, 2, none⟩ = some (.string a2) ∧ W.cell? (ad.add (ixN vs a0)) = some (.int .i64 r0) ∧ W.cell? (ad.add (ixN vs a2)) = some (.int .i64 r2)) := ⟨fun W hb => by
    have hq := (hb.block _ (Array.getElem?_eq_some_iff.1 HQ.out).1).trans HQ.out
    have hb2 := HB1.out.trans (hb.mono HB1.out.size)
    exact ⟨pw_cell_below hb2 H4.out, pw_cell_below hb2 H5.out, pw_cell_below hb2 H7.out, cell_at hq 0, cell_at hq 1, cell_at hq 2, pw_cell_below hb2 HR0.out, pw_cell_below hb2 HR2.out⟩⟩
  have HB : Aside0 (Below (w.alloc (.cells #[.string a0, .string a1, .string a2] 118)).heap.size (w.alloc (.cells #[.string a0, .string a1, .string a2] 118)) (w.alloc (.cells #[.string a0, .string a1, .string a2] 118))) := ⟨Below.refl _ _⟩
  replace HCE : Aside0 (∀ W, Below (w.alloc (.cells #[.string a0, .string a1, .string a2] 118)).heap.size (w.alloc (.cells #[.string a0, .string a1, .string a2] 118)) W → Calls Try.prog 80 #[.slice A1 es.length c1, .agg #[.int .i64 r0, .string a1, .int .i64 r2]] W fun e w' => e = .returned (.bool d) ∧ Below (w.alloc (.cells #[.string a0, .string a1, .string a2] 118)).heap.size (w.alloc (.cells #[.string a0, .string a1, .string a2] 118)) w') := ⟨fun W hb => (HCE.out W (HB1.out.trans (hb.mono HB1.out.size))).mono (fun e w' h => ⟨h.1, hb.trans (h.2.mono hb.size)⟩)⟩
  replace HV : Aside0 _ := ⟨Kd.C_below HV.out HB1.out⟩
  generalize w.alloc (.cells #[.string a0, .string a1, .string a2] 118) = w1 at *
  go_region_held3 (fun W => W.cell? ⟨b4, 0, none⟩ = some (.slice A1 es.length c1) ∧ W.cell? ⟨b5, 0, none⟩ = some (.slice (some ad) row.length cr) ∧ W.cell? ⟨b7, 0, none⟩ = some (.slice Av vs.length cv) ∧ W.cell? ⟨w.heap.size, 0, none⟩ = some (.string a0) ∧ W.cell? ⟨w.heap.size, 1, none⟩ = some (.string a1) ∧ W.cell? ⟨w.heap.size, 2, none⟩ = some (.string a2) ∧ W.cell? (ad.add (ixN vs a0)) = some (.int .i64 r0) ∧ W.cell? (ad.add (ixN vs a2)) = some (.int .i64 r2)) ((first | exact HS.out _ (by assumption) | exact HS.out _ (below_drew HB.out) | exact HS.out _ (pw_below_drewN HB.out _))) ((first | (go_at_call 66; (with_reducible refine (slices_Index_string_string.calls qa Av cv vs a0 _ _ (Kd.C_below HV.out ?side1) HGV.out HQA.out).mono ?_); (case side1 => first | exact below_drew HB.out | exact pw_below_drewN HB.out _); rintro e w9 ⟨rfl, n9, rfl⟩) | (go_at_call 66; (with_reducible refine (slices_Index_string_string.calls qc Av cv vs a2 _ _ (Kd.C_below HV.out ?side1) HGV.out HQC.out).mono ?_); (case side1 => first | exact below_drew HB.out | exact pw_below_drewN HB.out _); rintro e w9 ⟨rfl, n9, rfl⟩) | (go_at_call 80; (with_reducible refine (HCE.out _ ?side1).mono ?_); (case side1 => exact pw_below_drewN HB.out _); rintro e w10 ⟨rfl, hB10⟩)))
  all_goals
    go_wp2
    go_ret
    exact ⟨rfl, HB1.out.trans (hB10.mono HB1.out.size)⟩

/-- Is it a row of all atoms? -/
def holdsB (es : List S82) (ats : List S118) (row : List Int) : Bool := ats.all fun a => es.any (eqE (edgeAt (varsOf ats) row a))

set_option maxRecDepth 100000 in
set_option maxHeartbeats 2000000 in
theorem holds_calls (w : World) {nm lb : ByteArray} {kd : Int} {A2 A3 A1 Ar : Option Addr} {c2 c3 c1 cr : Nat} {out : List ByteArray} {ats : List S118} {es : List S82} {row : List Int}
    (h2 : Kd.C Kd.string w A2 out.length out) (g2 : out.length ≤ c2) (h3 : Kd.C k118 w A3 ats.length ats) (g3 : ats.length ≤ c3) (hE : Kd.C k82 w A1 es.length es) (hR : Kd.C (Kd.int .i64) w Ar row.length row) {k : Nat} {bd : Bool} (hb : join_bad.f k nm kd out ats lb = some bd)
    (hv : query_Vars.f k nm kd out ats lb = some (varsOf ats)) (hix : ∀ x ∈ varsOf ats, ∃ q, slices_Index_string_string.f q (varsOf ats) x = some ((ixN (varsOf ats) x : Nat) : Int)) (hel : es.length ≤ 1000) (hal : ats.length ≤ 1000) :
    Calls Try.prog 35 #[.agg #[.string nm, .int .i64 kd, .slice A2 out.length c2, .slice A3 ats.length c3, .string lb], .slice A1 es.length c1, .slice Ar row.length cr] w fun e w' =>
      e = .returned (.bool (!bd && (decide (row.length = (varsOf ats).length) && holdsB es ats row))) ∧ Below w.heap.size w w' := by
  have H2 := Aside0.mk h2
  have H3 := Aside0.mk h3
  have HE := Aside0.mk hE
  have HR := Aside0.mk hR
  have HG2 := Aside0.mk g2
  have HG3 := Aside0.mk g3
  have HBd := Aside0.mk hb
  have HV := Aside0.mk hv
  have HIX := Aside0.mk hix
  clear h2 h3 hb g2 g3 hv hix hE hR
  have hu59 := Try.underlying59
  go_enter Try.func35, Try.ntmps35
  go_upto_region 1 with fail
  obtain ⟨x1, x2, x3, xb⟩ := alloc3 w (.cells #[.string nm, .int .i64 kd, .slice A2 out.length c2, .slice A3 ats.length c3, .string lb] 59) (.cells #[.slice A1 es.length c1] 60) (.cells #[.slice Ar row.length cr] 75)
  have k0 := cell_at x1 0
  have k1 := cell_at x1 1
  have k2 := cell_at x1 2
  have k3 := cell_at x1 3
  have k4 := cell_at x1 4
  have X1 := Aside0.mk x1
  have X2 := Aside0.mk x2
  have X3 := Aside0.mk x3
  have XB := Aside0.mk xb
  clear x1 x2 x3 xb
  generalize ((w.alloc (.cells #[.string nm, .int .i64 kd, .slice A2 out.length c2, .slice A3 ats.length c3, .string lb] 59)).alloc (.cells #[.slice A1 es.length c1] 60)).alloc (.cells #[.slice Ar row.length cr] 75) = w1 at *
  cases bd with
  | true =>
    go_wp2_with (go_at_call 61; (with_reducible refine (join_bad.calls k nm kd _ _ out _ _ ats lb true _ (Kd.C_below H2.out XB.out) HG2.out (Kd.C_below H3.out XB.out) HG3.out HBd.out).mono ?_); rintro e w2 ⟨rfl, hb2⟩)
    go_ret
    exact ⟨rfl, XB.out.trans (hb2.mono XB.out.size)⟩
  | false =>
    go_upto_if 9 with (go_at_call 61; (with_reducible refine (join_bad.calls k nm kd _ _ out _ _ ats lb false _ (Kd.C_below H2.out XB.out) HG2.out (Kd.C_below H3.out XB.out) HG3.out HBd.out).mono ?_); rintro e w2 ⟨rfl, hb2⟩)
    have Y1 := Aside0.mk ((hb2.block _ (Array.getElem?_eq_some_iff.1 X1.out).1).trans X1.out)
    have Y2 := Aside0.mk ((hb2.block _ (Array.getElem?_eq_some_iff.1 X2.out).1).trans X2.out)
    have Y3 := Aside0.mk ((hb2.block _ (Array.getElem?_eq_some_iff.1 X3.out).1).trans X3.out)
    have HB2 := Aside0.mk (XB.out.trans (hb2.mono XB.out.size))
    clear k0 k1 k2 k3 k4 hb2 X1 X2 X3 XB
    have k0 := cell_at Y1.out 0
    have k1 := cell_at Y1.out 1
    have k2 := cell_at Y1.out 2
    have k3 := cell_at Y1.out 3
    have k4 := cell_at Y1.out 4
    go_upto_region 4 with (go_at_call 62; (with_reducible refine (query_Vars.calls k nm kd _ _ out _ _ ats lb (varsOf ats) _ (Kd.C_below H2.out HB2.out) HG2.out (Kd.C_below H3.out HB2.out) HG3.out HV.out).mono ?_); rintro e w3 ⟨v6, rfl, hv6, hb3⟩; obtain ⟨Av, cv, rfl⟩ := Kd.R_slice hv6; (have HV6 := Aside0.mk hv6); (have HB3 := Aside0.mk hb3); clear hv6 hb3)
    have HB4 : Aside0 (Below w3.heap.size w3 (w3.alloc (.cells #[.slice Av (varsOf ats).length cv] 30))) := ⟨below_alloc (Below.refl _ _) _⟩
    have HB24 := Aside0.mk (HB3.out.trans (HB4.out.mono HB3.out.size))
    have Z1 := Aside0.mk ((HB24.out.block _ (Array.getElem?_eq_some_iff.1 Y1.out).1).trans Y1.out)
    have Z2 := Aside0.mk ((HB24.out.block _ (Array.getElem?_eq_some_iff.1 Y2.out).1).trans Y2.out)
    have Z3 := Aside0.mk ((HB24.out.block _ (Array.getElem?_eq_some_iff.1 Y3.out).1).trans Y3.out)
    have Z4 : Aside0 ((w3.alloc (.cells #[.slice Av (varsOf ats).length cv] 30)).heap[w3.heap.size]? = some (.cells #[.slice Av (varsOf ats).length cv] 30 (0, 0))) := ⟨heap_alloc_new _ _⟩
    have HW4 := Aside0.mk (HB2.out.trans (HB24.out.mono HB2.out.size))
    have HVC : Aside0 ((varsOf ats).length ≤ cv ∧ Kd.C Kd.string (w3.alloc (.cells #[.slice Av (varsOf ats).length cv] 30)) Av (varsOf ats).length (varsOf ats)) := ⟨(Kd.R_reads' HV6.out).2.1, Kd.C_below (Kd.R_reads' HV6.out).2.2 HB4.out⟩
    clear k0 k1 k2 k3 k4 Y1 Y2 Y3 HB2 HB24 HB4 HB3 HV6
    generalize w3.alloc (.cells #[.slice Av (varsOf ats).length cv] 30) = w4 at *
    have k3 := cell_at Z1.out 3
    have k5 := cell_at Z3.out 0
    have k6 := cell_at Z4.out 0
    by_cases hlen : row.length = (varsOf ats).length
    · have hd : decide (row.length = (varsOf ats).length) = true := decide_eq_true hlen
      have hz : (!holdsB es ats row) = ats.any (fun a => !es.any (eqE (edgeAt (varsOf ats) row a))) := by
        unfold holdsB
        rw [List.not_all_eq_any_not]
      have hcf := containsF_calls w4 (c := c3) (Kd.C_below H3.out HW4.out) (by omega) (lb := #[.pointer (some ⟨w.heap.size + 1, 0, none⟩), .pointer (some ⟨w.heap.size + 1 + 1, 0, none⟩), .pointer (some ⟨w3.heap.size, 0, none⟩)]) rfl (fun a => !es.any (eqE (edgeAt (varsOf ats) row a))) (fun W hb a ha => by
        obtain ⟨j, hj, rfl⟩ := List.getElem_of_mem ha
        obtain ⟨m0, m2⟩ := vars_mem ats hj
        obtain ⟨qa, hqa⟩ := HIX.out _ m0
        obtain ⟨qc, hqc⟩ := HIX.out _ m2
        exact holds1_calls W _ (pw_cell_below hb (cell_at Z2.out 0)) (pw_cell_below hb (cell_at Z3.out 0)) (pw_cell_below hb (cell_at Z4.out 0)) (Kd.C_below HE.out (HW4.out.trans (hb.mono HW4.out.size))) (Kd.C_below HR.out (HW4.out.trans (hb.mono HW4.out.size))) (Kd.C_below HVC.out.2 hb) HVC.out.1 (by omega) (by rw [hlen]; exact ixN_lt m0) (by rw [hlen]; exact ixN_lt m2) hqa hqc)
      rw [← hz] at hcf
      have HCF := Aside0.mk hcf
      have HD := Aside0.mk hd
      have hli : (row.length : Int) = ((varsOf ats).length : Int) := by omega
      clear hcf hd hz hlen
      go_wp2_with (go_at_call 78; (with_reducible refine HCF.out.mono ?_); rintro e w5 ⟨rfl, hb5⟩)
      go_ret
      refine ⟨ret_eq ?_, HW4.out.trans (hb5.mono HW4.out.size)⟩
      rw [HD.out]
      show Value.bool (holdsB es ats row) = _
      simp
    · have hli : ¬ (row.length : Int) = ((varsOf ats).length : Int) := by omega
      have hd : decide (row.length = (varsOf ats).length) = false := decide_eq_false hlen
      have HD := Aside0.mk hd
      clear hd hlen
      go_wp2
      go_ret
      refine ⟨ret_eq ?_, HW4.out⟩
      rw [HD.out]
      rfl
end Go.Proofs.Ytcchcifcfcpjiaa.J
