/- The document's Result of a pattern that has rows: the walk. -/
import Derived.Test.YtcchcifcfcpjiaaKR
import Derived.Test.YtcchcifcfcpjiaaKS
import Derived.Test.YtcchcifcfcpjiaaJZ
import Derived.Test.YtcchcifcfcpjiaaMX
set_option linter.unusedVariables false
set_option linter.unusedSimpArgs false
namespace Go.Proofs.Ytcchcifcfcpjiaa.J
open Go.RowKit Go.Proofs.YtcchcifcfcpjiaaW.PrintWords Go.Proofs.YtcchcifcfcpjiaaW.PrintLast Go.Proofs.YtcchcifcfcpjiaaW.PrintMore Go.Proofs.Ytcchcifcfcpjiaa.PJ

set_option maxRecDepth 100000 in
set_option maxHeartbeats 4000000 in
theorem refresult_good (w : World) {nm lb : ByteArray} {kd : Int} {A2 A3 A1 : Option Addr} {c2 c3 c1 : Nat} {out : List ByteArray} {ats : List S118} {es : List S82} {ys : List (List Int)} {kv : Nat}
    (h2 : Kd.C Kd.string w A2 out.length out) (g2 : out.length ≤ c2) (h3 : Kd.C k118 w A3 ats.length ats) (g3 : ats.length ≤ c3)
    (hr : ∀ W, Below w.heap.size w W → Calls Try.prog 29 #[.agg #[.string nm, .int .i64 kd, .slice A2 out.length c2, .slice A3 ats.length c3, .string lb], .slice A1 es.length c1] W fun e w' => ∃ v', e = .returned (.tuple #[v', .int .i64 0]) ∧ Kd.V (Kd.slice 3 (Kd.int .i64)) 75 w' W.heap.size (fun k_ => W.heap.size ≤ k_) v' ys ∧ Below W.heap.size W w')
    (hyl : ys.length ≤ 100000) (hrl : ∀ r ∈ ys, r.length = (varsOf ats).length) (hvl : (varsOf ats).length ≤ 100000) (hol : out.length ≤ 1000) (hov : ∀ o ∈ out, o ∈ varsOf ats)
    (hv : rhizomeref09_Vars.f kv nm kd out ats lb = some (varsOf ats)) (hat : ∀ x ∈ varsOf ats, ∃ q, rhizomeref11_at.f q (varsOf ats) x = some ((ixN (varsOf ats) x : Nat) : Int)) :
    Calls Try.prog 31 #[.agg #[.string nm, .int .i64 kd, .slice A2 out.length c2, .slice A3 ats.length c3, .string lb], .slice A1 es.length c1] w fun e w' =>
      (∃ v1 v2 set, e = .returned (.tuple #[v1, v2, .int .i64 0]) ∧ IsSet (ys.map (projR (varsOf ats) out)) set ∧ Kd.V (Kd.slice 3 (Kd.int .i64)) 75 w' w.heap.size (fun k_ => w.heap.size ≤ k_) v1 set ∧ TupAt w' (w.heap.size ≤ ·) v2 (set.map fun t => ((ys.map (projR (varsOf ats) out)).count t : Int))) ∧ Below w.heap.size w w' := by
  have H2 := Aside0.mk h2
  have H3 := Aside0.mk h3
  have HG2 := Aside0.mk g2
  have HG3 := Aside0.mk g3
  have HR := Aside0.mk hr
  have HV := Aside0.mk hv
  have HAT := Aside0.mk hat
  have HOV := Aside0.mk hov
  have HRL := Aside0.mk hrl
  clear h2 h3 g2 g3 hr hv hat hov hrl
  have hu59 := Try.underlying59
  go_enter Try.func31, Try.ntmps31
  go_upto_region 1 with fail
  have hB1 : Below w.heap.size w (w.alloc (.cells #[.string nm, .int .i64 kd, .slice A2 out.length c2, .slice A3 ats.length c3, .string lb] 59)) := below_alloc (Below.refl _ _) _
  have hbx : (w.alloc (.cells #[.string nm, .int .i64 kd, .slice A2 out.length c2, .slice A3 ats.length c3, .string lb] 59)).heap[w.heap.size]? = some (.cells #[.string nm, .int .i64 kd, .slice A2 out.length c2, .slice A3 ats.length c3, .string lb] 59 (0, 0)) := heap_alloc_new _ _
  have k0 := cell_at hbx 0
  have k1 := cell_at hbx 1
  have k2 := cell_at hbx 2
  have k3 := cell_at hbx 3
  have k4 := cell_at hbx 4
  have HB1 := Aside0.mk hB1
  have HBX := Aside0.mk hbx
  clear hB1 hbx
  generalize w.alloc (.cells #[.string nm, .int .i64 kd, .slice A2 out.length c2, .slice A3 ats.length c3, .string lb] 59) = w1 at *
  go_upto_region 4 with (go_at_call 29; (with_reducible refine (HR.out _ ?side1).mono ?_); (case side1 => exact HB1.out); rintro e w2 ⟨v7, rfl, hv7, hb2⟩; obtain ⟨A7, c7, rfl⟩ := Kd.V_slice hv7; (have HV7 := Aside0.mk (Kd.V_reads' hv7).2.2); (have HB2 := Aside0.mk hb2); clear hv7 hb2)
  have Y1 := Aside0.mk ((HB2.out.block _ (Array.getElem?_eq_some_iff.1 HBX.out).1).trans HBX.out)
  have HW2 := Aside0.mk (HB1.out.trans (HB2.out.mono HB1.out.size))
  clear k0 k1 k2 k3 k4 HBX HB1
  have k0 := cell_at Y1.out 0
  have k1 := cell_at Y1.out 1
  have k2 := cell_at Y1.out 2
  have k3 := cell_at Y1.out 3
  have k4 := cell_at Y1.out 4
  go_upto_region 6 with (go_at_call 72; (with_reducible refine (rhizomeref09_Vars.calls kv nm kd _ _ out _ _ ats lb (varsOf ats) _ (Kd.C_below H2.out HW2.out) HG2.out (Kd.C_below H3.out HW2.out) HG3.out HV.out).mono ?_); rintro e w3 ⟨v6, rfl, hv6, hb3⟩; obtain ⟨Av, cv, rfl⟩ := Kd.R_slice hv6; (have HV6 := Aside0.mk hv6); (have HB3 := Aside0.mk hb3); clear hv6 hb3)
  have Z1 := Aside0.mk ((HB3.out.block _ (Array.getElem?_eq_some_iff.1 Y1.out).1).trans Y1.out)
  have HW3 := Aside0.mk (HW2.out.trans (HB3.out.mono HW2.out.size))
  have HT := Aside0.mk (Kd.C_below HV7.out HB3.out)
  have HVC := Aside0.mk (Kd.R_reads' HV6.out).2
  have HO3 := Aside0.mk (Kd.C_below H2.out HW3.out)
  clear k0 k1 k2 k3 k4 HV6 HV7 HB2 HB3 HW2 Y1
  go_wp2_with fail
  go_loopg [10, 31] ys.length (fun gk s10 s31 wr => ∃ (i : Nat), i ≤ ys.length ∧ ys.length - i ≤ gk ∧ s31 = .int .i64 i ∧ Aside0 (NL wr w3.heap.size s10 ((ys.take i).map (projR (varsOf ats) out))) ∧ Aside0 (Below w3.heap.size w3 wr))
  case atStart => exact ⟨0, Nat.zero_le _, by omega, rfl, ⟨[], World.ownsRow_nil _ _ _ _, TupsU.nil _ _⟩, ⟨Below.refl _ _⟩⟩
  case round =>
    obtain ⟨i, hi, hgk, rfl, hAL, hBr⟩ := hrel
    by_cases hlt : i < ys.length
    · have i4 : (i : Int) < (ys.length : Int) := by omega
      have i0 : (0 : Int) ≤ (i : Int) := by omega
      obtain ⟨ad7, Au, cu, hA7, hr1, hcu, hRC⟩ := at_L4 HT.out (i : Int) i0 i4
      rw [rd4_at ys i hlt, Int.toNat_natCast] at hr1
      rw [rd4_at ys i hlt] at hcu hRC
      subst hA7
      have HRC := Aside0.mk hRC
      have HR1 := Aside0.mk hr1
      have HRL2 : Aside0 (ys[i].length = (varsOf ats).length) := ⟨HRL.out _ (List.getElem_mem _)⟩
      have HP : Aside0 ((ys.take (i + 1)).map (projR (varsOf ats) out) = (ys.take i).map (projR (varsOf ats) out) ++ [projR (varsOf ats) out ys[i]]) := ⟨by
        rw [List.take_add_one, List.getElem?_eq_getElem hlt, List.map_append]
        rfl⟩
      have HPR : Aside0 (projR (varsOf ats) out ys[i] = out.map fun o => ys[i].getD (ixN (varsOf ats) o) 0) := ⟨rfl⟩
      clear hr1 hRC hcu
      generalize ys[i] = row at *
      have k2 := cell_at ((hBr.out.block _ (Array.getElem?_eq_some_iff.1 Z1.out).1).trans Z1.out) 2
      go_wp2_with fail
      clear k2
      generalize wr = wo at *
      go_loopg [12, 37] out.length (fun gk2 s12 s37 ws => ∃ (j : Nat), j ≤ out.length ∧ out.length - j ≤ gk2 ∧ s37 = .int .i64 j ∧ Aside0 (ws.ownsRow wo.heap.size 3 1 s12 j (nums .i64 ((out.take j).map (fun o => row.getD (ixN (varsOf ats) o) 0)))) ∧ Aside0 (Below wo.heap.size wo ws))
      case atStart => exact ⟨0, Nat.zero_le _, by omega, rfl, ⟨World.ownsRow_nil _ _ _ _⟩, ⟨Below.refl _ _⟩⟩
      case round =>
        obtain ⟨j, hj, hgk2, rfl, hO, hBs⟩ := hrel
        by_cases hlt2 : j < out.length
        · have HBw : Aside0 (Below w3.heap.size w3 wr) := ⟨hBr.out.trans (hBs.out.mono hBr.out.size)⟩
          obtain ⟨ad, had, hcs⟩ := Kd.at_string HO3.out (j : Int) (by omega) (by omega)
          rw [rdOf_at out j hlt2, Int.toNat_natCast] at hcs
          subst had
          have i5 : (j : Int) < (out.length : Int) := by omega
          have i6 : (0 : Int) ≤ (j : Int) := by omega
          have HM : Aside0 (out[j] ∈ varsOf ats) := ⟨HOV.out _ (List.getElem_mem _)⟩
          have HTK : Aside0 ((out.take (j + 1)).map (fun o => row.getD (ixN (varsOf ats) o) 0) = (out.take j).map (fun o => row.getD (ixN (varsOf ats) o) 0) ++ [row.getD (ixN (varsOf ats) out[j]) 0]) := ⟨by
            rw [List.take_add_one, List.getElem?_eq_getElem hlt2, List.map_append]
            rfl⟩
          generalize out[j] = o at *
          obtain ⟨qo, hqo⟩ := HAT.out o HM.out
          have HQO := Aside0.mk hqo
          have hil : ixN (varsOf ats) o < row.length := by rw [HRL2.out]; exact ixN_lt HM.out
          obtain ⟨ad2, had2, hcr⟩ := Kd.at_int HRC.out ((ixN (varsOf ats) o : Nat) : Int) (by omega) (by omega)
          rw [Int.toNat_natCast] at hcr
          have e0 : rd row ((ixN (varsOf ats) o : Nat) : Int) = row.getD (ixN (varsOf ats) o) 0 := by simp [rd]
          rw [e0] at hcr
          subst had2
          have i7 : ((ixN (varsOf ats) o : Nat) : Int) < (row.length : Int) := by omega
          have i8 : (0 : Int) ≤ ((ixN (varsOf ats) o : Nat) : Int) := by omega
          have HJ : Aside0 (((out.take j).map (fun o => row.getD (ixN (varsOf ats) o) 0)).length = j) := ⟨by rw [List.length_map, List.length_take]; omega⟩
          obtain ⟨As, cs, rfl⟩ := own_slice hO.out
          have HS : Aside0 (∀ W, Below w3.heap.size w3 W → W.cell? ⟨w.heap.size, 2, none⟩ = some (.slice (some ad) out.length c2) ∧ W.cell? (ad7.add i) = some (.slice (some ad2) row.length cu) ∧ W.cell? (ad.add j) = some (.string o) ∧ W.cell? (ad2.add (ixN (varsOf ats) o)) = some (.int .i64 (row.getD (ixN (varsOf ats) o) 0))) := ⟨fun W hb =>
            ⟨cell_at ((hb.block _ (Array.getElem?_eq_some_iff.1 Z1.out).1).trans Z1.out) 2, pw_cell_below hb HR1.out, pw_cell_below hb hcs, pw_cell_below hb hcr⟩⟩
          clear hqo e0 hil hcs hcr
          have HOj : Aside0 (wr.ownsRow wo.heap.size 3 1 (.slice As j cs) ((out.take j).map (fun o => row.getD (ixN (varsOf ats) o) 0)).length (nums .i64 ((out.take j).map (fun o => row.getD (ixN (varsOf ats) o) 0)))) := ⟨by rw [HJ.out]; exact hO.out⟩
          generalize row.getD (ixN (varsOf ats) o) 0 = y at *
          generalize ixN (varsOf ats) o = q at *
          generalize hLj : (out.take j).map (fun o => row.getD (ixN (varsOf ats) o) 0) = Lj at *
          have hl1 : Lj.length ≤ 1000 := by have := HJ.out; omega
          clear hLj hO
          go_upto_region 13 with fail
          go_region_held3 (fun W => W.cell? ⟨w.heap.size, 2, none⟩ = some (.slice (some ad) out.length c2) ∧ W.cell? (ad7.add i) = some (.slice (some ad2) row.length cu) ∧ W.cell? (ad.add j) = some (.string o) ∧ W.cell? (ad2.add q) = some (.int .i64 y)) ((refine HS.out _ ?_; repeat (first | exact HBw.out | exact hBr.out.trans (Below.mono (by assumption) hBr.out.size) | apply below_alloc | apply pw_below_drewN | apply below_drew))) ((first | (go_at_call 74; (with_reducible refine (rhizomeref11_at.calls qo Av cv (varsOf ats) o _ _ (Kd.C_below HVC.out.2 ?side1) HVC.out.1 HQO.out).mono ?_); (case side1 => repeat (first | exact HBw.out | apply below_alloc | apply pw_below_drewN | apply below_drew)); rintro e w5 ⟨rfl, n5, rfl⟩) | (refine step_app3 (W0 := wo) rfl _ _ (by rfl) rfl (by rfl) (pw_own_below HOj.out (by repeat (first | exact Below.refl _ _ | apply below_alloc | apply pw_below_drewN | apply below_drew))) (Nat.le_refl _) _ y (by rfl) (heap_alloc_new _ _) (by repeat (first | exact hBs.out | apply below_alloc | apply pw_below_drewN | apply below_drew)) (by omega) ?_; intro A3 c3' w4 ho4 hb4)))
          go_wp2_with fail
          go_roundg (out.length - (j + 1))
          case measure => omega
          case rel =>
            have hjl := HJ.out
            refine ⟨j + 1, by omega, Nat.le_refl _, ?_, ⟨?_⟩, ⟨hb4⟩⟩
            · first | exact congrArg (Value.int .i64) (wrap_succ j out.length hlt2 (by omega)) | exact congrArg (Value.int .i64) (by omega)
            · rw [HTK.out, ← hjl]
              exact ho4
        · have hjj : j = out.length := by omega
          subst hjj
          obtain ⟨us, hus, huT⟩ := hAL.out
          obtain ⟨At, ct, rfl⟩ := own_slice hO.out
          obtain ⟨A10, c10, rfl⟩ := own_slice hus
          have HUT := Aside0.mk huT
          have HUL : Aside0 (us.length = i) := ⟨by have := huT.1; simpa [Nat.min_eq_left (Nat.le_of_lt hlt)] using this⟩
          have HT9 : Aside0 (TupAt wr (wo.heap.size ≤ ·) (.slice At out.length ct) (projR (varsOf ats) out row)) := ⟨tup_ofOwn (by
            have := hO.out
            rw [List.take_length] at this
            rw [HPR.out, List.length_map]
            exact this) (fun k hk => own_base hO.out k hk)⟩
          have HUS2 : Aside0 (wr.ownsRow w3.heap.size 75 1 (.slice A10 us.length c10) us.length us) := ⟨pw_own_below hus hBs.out⟩
          have HBr2 : Aside0 (Below w3.heap.size w3 wr) := ⟨hBr.out.trans (hBs.out.mono hBr.out.size)⟩
          have hul : us.length ≤ 100000 := by have := HUL.out; omega
          clear hus huT
          go_wp2_with (at_builtin; refine print_append (w0 := w3) w3.heap.size rfl (.tmp 57) (.tmp 59) 63 75 (.slice none 0 0) 24 rfl Try.underlying63 info75 rfl (by decide) (.slice A10 us.length c10) us (.slice At out.length ct) rfl rfl rfl HUS2.out HBr2.out HBr2.out.size (by omega) ?_; intro v4 w4' ho4 hb4 hg4 _; rw [List.length_append, List.length_singleton] at ho4; obtain ⟨A4, c4, rfl⟩ := own_slice ho4; (have HO4 := Aside0.mk ho4); (have HB4' := Aside0.mk hb4); (have HG4 := Aside0.mk hg4); clear ho4 hb4 hg4)
          go_roundg (ys.length - (i + 1))
          case measure => omega
          case rel =>
            refine ⟨i + 1, by omega, Nat.le_refl _, ?_, ⟨us ++ [.slice At out.length ct], by rw [List.length_append, List.length_singleton]; exact HO4.out, ?_⟩, HB4'⟩
            · first | exact congrArg (Value.int .i64) (wrap_succ i ys.length hlt (by omega)) | exact congrArg (Value.int .i64) (by omega)
            · rw [HP.out]
              exact TupsU.snoc (HUT.out.imp (fun u z hz => (hz.below hBs.out).grown75 HUS2.out HG4.out)) ((HT9.out.okmono (fun k hk _ => Nat.le_trans hBr.out.size hk)).grown75 HUS2.out HG4.out)
    · have hii : i = ys.length := by omega
      subst hii
      have hTs := hAL.out.tups
      rw [List.take_length] at hTs
      have HPM : Aside0 (∃ all, all = ys.map (projR (varsOf ats) out)) := ⟨⟨_, rfl⟩⟩
      obtain ⟨all, hall⟩ := HPM.out
      have HALL := Aside0.mk hall
      rw [← hall] at hTs
      have hal1 : all.length ≤ 100000 := by rw [hall, List.length_map]; exact hyl
      have hal2 : ∀ t ∈ all, t.length ≤ 100000 := fun t ht => by
        rw [hall] at ht
        obtain ⟨r, _, rfl⟩ := List.mem_map.1 ht
        unfold projR
        rw [List.length_map]
        omega
      clear hall
      obtain ⟨set, hEv, hup, hmem, hsl⟩ := sorted_val all.length all rfl hal1 hal2
      obtain ⟨ks, hks⟩ := hEv.rounds
      have HAL2 := Aside0.mk hal2
      have HUP := Aside0.mk hup
      have HMEM := Aside0.mk hmem
      have HKS := Aside0.mk hks
      have HVV : Aside0 (Kd.V (Kd.slice 3 (Kd.int .i64)) 75 wr wr.heap.size (fun k_ => w3.heap.size ≤ k_) u10 all) := ⟨tups_V hTs⟩
      have HCA := Aside0.mk (TupsAt.reads hTs)
      obtain ⟨Aa, ca, rfl, hca, hCa⟩ := HCA.out
      have HCa := Aside0.mk hCa
      have HWr : Aside0 (Below w.heap.size w wr) := ⟨HW3.out.trans (hBr.out.mono HW3.out.size)⟩
      have hsl2 : set.length ≤ 100000 := by omega
      clear hup hmem hks hEv hTs hca hCa HCA hal2 hAL HPM
      go_upto_region 18 with (go_at_call 75; (with_reducible refine (rhizomeref11_Sorted.calls ks _ Aa ca all set _ HVV.out HKS.out).mono ?_); rintro e w9 ⟨v9, rfl, hv9, hb9⟩; obtain ⟨A9, c9, rfl⟩ := Kd.V_slice hv9; (have HV9 := Aside0.mk hv9); (have HB9 := Aside0.mk hb9); clear hv9 hb9)
      have HCs := Aside0.mk (Kd.V_reads' HV9.out).2.2
      have HCa9 := Aside0.mk (Kd.C_below HCa.out HB9.out)
      have HW9 : Aside0 (Below w.heap.size w w9) := ⟨HWr.out.trans (HB9.out.mono HWr.out.size)⟩
      have hmk := print_make (P := Try.prog) 66 3 .i64 8 Try.underlying66 info3 (by decide) set.length (by omega)
      go_upto_region 19 with fail
      clear hmk
      have HCT : Aside0 ((w9.alloc (.cells (madeCells #[.int .i64 0] set.length) 3)).ownsRow w9.heap.size 3 1 (.slice (some ⟨w9.heap.size, 0, none⟩) set.length set.length) set.length (nums .i64 (cntL set all 0 0))) := ⟨by
        have := own_made w9 w9.heap.size 3 .i64 set.length (Nat.le_refl _) (by omega)
        rw [cntL_zero set all] at this
        exact this⟩
      have HBa : Aside0 (Below w9.heap.size w9 (w9.alloc (.cells (madeCells #[.int .i64 0] set.length) 3))) := ⟨below_alloc (Below.refl _ _) _⟩
      have HSZ0 : Aside0 (w.heap.size ≤ wr.heap.size) := ⟨HWr.out.size⟩
      clear HVV HCa HWr hBr HB9
      generalize w9.alloc (.cells (madeCells #[.int .i64 0] set.length) 3) = wa at *
      go_wp2_with fail
      go_loopg [69] set.length (fun gk s69 wr => ∃ (i : Nat), i ≤ set.length ∧ set.length - i ≤ gk ∧ s69 = .int .i64 i ∧ Aside0 (wr.ownsRow w9.heap.size 3 1 (.slice (some ⟨w9.heap.size, 0, none⟩) set.length set.length) set.length (nums .i64 (cntL set all i 0))) ∧ Aside0 (Below w9.heap.size w9 wr))
      case atStart => exact ⟨0, Nat.zero_le _, by omega, rfl, HCT, HBa⟩
      case round =>
        obtain ⟨i, hi, hgk2, rfl, hCT, hBr⟩ := hrel
        clear HCT HBa
        by_cases hlt : i < set.length
        · have i4 : (i : Int) < (set.length : Int) := by omega
          have i0 : (0 : Int) ≤ (i : Int) := by omega
          obtain ⟨ads, Au, cu, hA7, hr1, hcu, hRC⟩ := at_L4 HCs.out (i : Int) i0 i4
          rw [rd4_at set i hlt, Int.toNat_natCast] at hr1
          rw [rd4_at set i hlt] at hcu hRC
          subst hA7
          have HRC := Aside0.mk hRC
          have HR1 := Aside0.mk hr1
          have HCU := Aside0.mk hcu
          have HSI : Aside0 (∀ t ∈ set, t.length ≤ 100000) := ⟨fun t ht => HAL2.out t ((HMEM.out t).1 ht)⟩
          have HTL : Aside0 (set[i].length ≤ 100000) := ⟨HSI.out _ (List.getElem_mem _)⟩
          clear hr1 hRC hcu
          go_wp2_with fail
          go_loopg [74] all.length (fun gk s74 wr => ∃ (k : Nat), k ≤ all.length ∧ all.length - k ≤ gk ∧ s74 = .int .i64 k ∧ Aside0 (wr.ownsRow w9.heap.size 3 1 (.slice (some ⟨w9.heap.size, 0, none⟩) set.length set.length) set.length (nums .i64 (cntL set all i k))) ∧ Aside0 (Below w9.heap.size w9 wr))
          case atStart => exact ⟨0, Nat.zero_le _, by omega, rfl, hCT, hBr⟩
          case round =>
            obtain ⟨k, hk, hgk3, rfl, hCT2, hBk⟩ := hrel
            clear hCT hBr
            by_cases hlt3 : k < all.length
            · have i5 : (k : Int) < (all.length : Int) := by omega
              have i6 : (0 : Int) ≤ (k : Int) := by omega
              obtain ⟨ada, Aw, cw, hA8, hr2, hcw, hRD⟩ := at_L4 HCa9.out (k : Int) i6 i5
              rw [rd4_at all k hlt3, Int.toNat_natCast] at hr2
              rw [rd4_at all k hlt3] at hcw hRD
              subst hA8
              have HS : Aside0 (∀ W, Below w9.heap.size w9 W → W.cell? (ads.add i) = some (.slice Au set[i].length cu) ∧ W.cell? (ada.add k) = some (.slice Aw all[k].length cw)) := ⟨fun W hb => ⟨pw_cell_below hb HR1.out, pw_cell_below hb hr2⟩⟩
              have HRD := Aside0.mk hRD
              have HCW := Aside0.mk hcw
              obtain ⟨kc, hkc⟩ := (refCmp_val set[i] all[k] (by have := HTL.out; omega)).rounds
              have HKC := Aside0.mk hkc
              have hc0 := cntL_rd set all i k hlt
              have hcb : (0 : Int) ≤ (((all.take k).count set[i] : Nat) : Int) ∧ (((all.take k).count set[i] : Nat) : Int) ≤ 100000 := ⟨by omega, by
                have h1 : (all.take k).count set[i] ≤ (all.take k).length := List.count_le_length
                rw [List.length_take] at h1
                omega⟩
              have HCB := Aside0.mk hcb
              have HC0 := Aside0.mk hc0
              obtain ⟨ks1, ks2⟩ := HS.out wr hBk.out
              clear hr2 hRD hcw hkc hcb hc0
              by_cases he : set[i] = all[k]
              · have HST := Aside0.mk (cntL_step hlt hlt3 he)
                have q0 : (cmpL set[i] all[k] == 0) = true := by rw [he, cmpL_refl]; rfl
                have HQ0 := Aside0.mk q0
                clear he q0
                generalize set[i] = ti at *
                generalize all[k] = tk at *
                generalize cmpL ti tk = cm at *
                have q0 := HQ0.out
                go_upto_if 86 with (go_region_held3 (fun W => W.cell? (ads.add i) = some (.slice Au ti.length cu) ∧ W.cell? (ada.add k) = some (.slice Aw tk.length cw)) (go_keep) ((go_at_call 76; (with_reducible refine (rhizomeref10_Cmp.calls kc Au cu ti Aw cw tk cm _ (Kd.C_below HRC.out ?side1) HCU.out (Kd.C_below HRD.out ?side2) HCW.out HKC.out).mono ?_); (case side1 => repeat (first | exact hBk.out | apply pw_below_drewN | apply below_drew)); (case side2 => repeat (first | exact hBk.out | apply pw_below_drewN | apply below_drew)); rintro e w5 ⟨rfl, n5, rfl⟩)))
                have HCT3 : Aside0 ((wr.drewN (1 + n5)).ownsRow w9.heap.size 3 1 (.slice (some ⟨w9.heap.size, 0, none⟩) set.length set.length) set.length (nums .i64 (cntL set all i k))) := ⟨hCT2.out⟩
                have HB3 : Aside0 (Below w9.heap.size w9 (wr.drewN (1 + n5))) := ⟨pw_below_drewN hBk.out _⟩
                clear ks1 ks2 hCT2 hBk q0
                generalize wr.drewN (1 + n5) = wd at *
                obtain ⟨kx, kf⟩ := own_at HCT3.out (i : Int) i0 i4
                rw [HC0.out] at kx
                rw [Int.toNat_natCast] at kx kf
                generalize (((all.take k).count ti : Nat) : Int) = c at *
                obtain ⟨cb1, cb2⟩ := HCB.out
                go_wp2_with fail
                go_roundg (all.length - (k + 1))
                case measure => omega
                case rel =>
                  refine ⟨k + 1, by omega, Nat.le_refl _, ?_, ⟨?_⟩, ⟨HB3.out.setCell (Nat.le_refl _) _⟩⟩
                  · first | exact congrArg (Value.int .i64) (wrap_succ k all.length hlt3 (by omega)) | exact congrArg (Value.int .i64) (by omega)
                  · have h := (own_store HCT3.out (i : Int) (c + 1)).1
                    rw [Int.toNat_natCast, HST.out] at h
                    exact h
              · have HST := Aside0.mk (cntL_same hlt hlt3 he)
                have q0 : (cmpL set[i] all[k] == 0) = false := beq_eq_false_iff_ne.2 (fun h => he (cmpL_eq h))
                have HQ0 := Aside0.mk q0
                clear he q0
                generalize set[i] = ti at *
                generalize all[k] = tk at *
                generalize cmpL ti tk = cm at *
                have q0 := HQ0.out
                go_upto_if 86 with (go_region_held3 (fun W => W.cell? (ads.add i) = some (.slice Au ti.length cu) ∧ W.cell? (ada.add k) = some (.slice Aw tk.length cw)) (go_keep) ((go_at_call 76; (with_reducible refine (rhizomeref10_Cmp.calls kc Au cu ti Aw cw tk cm _ (Kd.C_below HRC.out ?side1) HCU.out (Kd.C_below HRD.out ?side2) HCW.out HKC.out).mono ?_); (case side1 => repeat (first | exact hBk.out | apply pw_below_drewN | apply below_drew)); (case side2 => repeat (first | exact hBk.out | apply pw_below_drewN | apply below_drew)); rintro e w5 ⟨rfl, n5, rfl⟩)))
                go_wp2_with fail
                go_roundg (all.length - (k + 1))
                case measure => omega
                case rel =>
                  refine ⟨k + 1, by omega, Nat.le_refl _, ?_, ⟨?_⟩, ⟨pw_below_drewN hBk.out _⟩⟩
                  · first | exact congrArg (Value.int .i64) (wrap_succ k all.length hlt3 (by omega)) | exact congrArg (Value.int .i64) (by omega)
                  · rw [← HST.out]
                    exact hCT2.out
            · have hkk : k = all.length := by omega
              subst hkk
              go_wp2_with fail
              go_roundg (set.length - (i + 1))
              case measure => omega
              case rel =>
                refine ⟨i + 1, by omega, Nat.le_refl _, ?_, ⟨?_⟩, hBk⟩
                · first | exact congrArg (Value.int .i64) (wrap_succ i set.length hlt (by omega)) | exact congrArg (Value.int .i64) (by omega)
                · rw [← cntL_next]
                  exact hCT2.out
        · have hii : i = set.length := by omega
          subst hii
          go_wp2_with fail
          go_ret3
          refine ⟨⟨_, _, set, rfl, ⟨HUP.out, fun x => by rw [HMEM.out, HALL.out]⟩, ?_, ?_⟩, HW9.out.trans (hBr.out.mono HW9.out.size)⟩
          · exact Kd.V_mono (Kd.V_below HV9.out hBr.out) (fun k ho => ho.elim (fun h => Nat.le_trans HW3.out.size h) (fun h => Nat.le_trans HSZ0.out h))
          · rw [← HALL.out, ← cntL_full set all 0]
            have h := hCT.out
            have hl := cntL_length set all set.length 0
            exact tup_ofOwn (base := w9.heap.size) (by rw [hl]; exact h) (fun k hk => Nat.le_trans HW9.out.size (own_base h k hk))
end Go.Proofs.Ytcchcifcfcpjiaa.J
