/- join.Result where there are rows. -/
import Derived.Test.YtcchcifcfcpjiaaJY
set_option linter.unusedVariables false
set_option linter.unusedSimpArgs false
namespace Go.Proofs.Ytcchcifcfcpjiaa.J
open Go.RowKit Go.Proofs.YtcchcifcfcpjiaaW.PrintWords Go.Proofs.YtcchcifcfcpjiaaW.PrintLast Go.Proofs.YtcchcifcfcpjiaaW.PrintMore Go.Proofs.Ytcchcifcfcpjiaa.PJ

/-- A row's told variables. -/
def projR (vs out : List ByteArray) (r : List Int) : List Int := out.map fun o => r.getD (ixN vs o) 0
/-- A growing list of tuples of the call's own. -/
def AL (W : World) (base : Nat) (v : Value) (acc : List (List Int)) : Prop := ∃ us, W.ownsRow base 75 1 v us.length us ∧ TupsU W (fun _ => True) us acc
theorem AL.below {W W' : World} {base : Nat} {v : Value} {acc : List (List Int)} (h : AL W base v acc) (hb : Below W.heap.size W W') : AL W' base v acc := by
  obtain ⟨us, h1, h2⟩ := h
  exact ⟨us, pw_own_below h1 hb, h2.imp (fun _ _ hu => hu.below hb)⟩

set_option maxRecDepth 100000 in
set_option maxHeartbeats 4000000 in
theorem result_good (w : World) {nm lb : ByteArray} {kd : Int} {A2 A3 A1 : Option Addr} {c2 c3 c1 : Nat} {out : List ByteArray} {ats : List S118} {es : List S82} {rows ys : List (List Int)}
    (h2 : Kd.C Kd.string w A2 out.length out) (g2 : out.length ≤ c2) (h3 : Kd.C k118 w A3 ats.length ats) (g3 : ats.length ≤ c3) {k : Nat}
    (hr : ∀ W, Below w.heap.size w W → Calls Try.prog 27 #[.agg #[.string nm, .int .i64 kd, .slice A2 out.length c2, .slice A3 ats.length c3, .string lb], .slice A1 es.length c1] W (RowsPost W (some rows)))
    (hys : IsSet rows ys) (hyl : ys.length ≤ 100000) (hrl : ∀ r ∈ ys, r.length = (varsOf ats).length) (hol : out.length ≤ 1000) (hov : ∀ o ∈ out, o ∈ varsOf ats)
    (hv : query_Vars.f k nm kd out ats lb = some (varsOf ats)) (hix : ∀ x ∈ varsOf ats, ∃ q, slices_Index_string_string.f q (varsOf ats) x = some ((ixN (varsOf ats) x : Nat) : Int)) :
    Calls Try.prog 28 #[.agg #[.string nm, .int .i64 kd, .slice A2 out.length c2, .slice A3 ats.length c3, .string lb], .slice A1 es.length c1] w fun e w' =>
      (∃ v1 v2 set, e = .returned (.tuple #[v1, v2, .int .i64 0]) ∧ IsSet (ys.map (projR (varsOf ats) out)) set ∧ TupsAt w' (w.heap.size ≤ ·) v1 set ∧ TupAt w' (w.heap.size ≤ ·) v2 (set.map fun t => ((ys.map (projR (varsOf ats) out)).count t : Int))) ∧ Below w.heap.size w w' := by
  have H2 := Aside0.mk h2
  have H3 := Aside0.mk h3
  have HG2 := Aside0.mk g2
  have HG3 := Aside0.mk g3
  have HR := Aside0.mk hr
  have HV := Aside0.mk hv
  have HIX := Aside0.mk hix
  have HOV := Aside0.mk hov
  have HYS := Aside0.mk hys
  have HRL := Aside0.mk hrl
  clear h2 h3 g2 g3 hr hv hix hov hys hrl
  have hu59 := Try.underlying59
  go_enter Try.func28, Try.ntmps28
  go_upto_region 1 with fail
  have hB1 : Below w.heap.size w (w.alloc (.cells #[.string nm, .int .i64 kd, .slice A2 out.length c2, .slice A3 ats.length c3, .string lb] 59)) := below_alloc (Below.refl _ _) _
  have hbx : (w.alloc (.cells #[.string nm, .int .i64 kd, .slice A2 out.length c2, .slice A3 ats.length c3, .string lb] 59)).heap[w.heap.size]? = some (.cells #[.string nm, .int .i64 kd, .slice A2 out.length c2, .slice A3 ats.length c3, .string lb] 59 (0, 0)) := heap_alloc_new _ _
  have k0 := cell_at hbx 0
  have k1 := cell_at hbx 1
  have k2 := cell_at hbx 2
  have k3 := cell_at hbx 3
  have k4 := cell_at hbx 4
  have HB1 := Aside0.mk hB1
  have HBX := Aside0.mk hbx
  clear hB1 hbx
  generalize w.alloc (.cells #[.string nm, .int .i64 kd, .slice A2 out.length c2, .slice A3 ats.length c3, .string lb] 59) = w1 at *
  go_upto_region 4 with (go_at_call 27; (with_reducible refine (HR.out _ ?side1).mono ?_); (case side1 => exact HB1.out); rintro e w2 ⟨⟨v7, zs, rfl, hzs, hv7⟩, hb2⟩; obtain ⟨A7, c7, rfl, _⟩ := SlAt.shape hv7; (have HZS := Aside0.mk hzs); (have HV7 := Aside0.mk hv7); (have HB2 := Aside0.mk hb2); clear hzs hv7 hb2)
  obtain rfl : zs = ys := HZS.out.uniq HYS.out
  have Y1 := Aside0.mk ((HB2.out.block _ (Array.getElem?_eq_some_iff.1 HBX.out).1).trans HBX.out)
  have HW2 := Aside0.mk (HB1.out.trans (HB2.out.mono HB1.out.size))
  clear k0 k1 k2 k3 k4 HBX HB1
  have k0 := cell_at Y1.out 0
  have k1 := cell_at Y1.out 1
  have k2 := cell_at Y1.out 2
  have k3 := cell_at Y1.out 3
  have k4 := cell_at Y1.out 4
  go_upto_region 6 with (go_at_call 62; (with_reducible refine (query_Vars.calls k nm kd _ _ out _ _ ats lb (varsOf ats) _ (Kd.C_below H2.out HW2.out) HG2.out (Kd.C_below H3.out HW2.out) HG3.out HV.out).mono ?_); rintro e w3 ⟨v6, rfl, hv6, hb3⟩; obtain ⟨Av, cv, rfl⟩ := Kd.R_slice hv6; (have HV6 := Aside0.mk hv6); (have HB3 := Aside0.mk hb3); clear hv6 hb3)
  have Z1 := Aside0.mk ((HB3.out.block _ (Array.getElem?_eq_some_iff.1 Y1.out).1).trans Y1.out)
  have HW3 := Aside0.mk (HW2.out.trans (HB3.out.mono HW2.out.size))
  have HT := Aside0.mk (TupsAt.below HV7.out HB3.out)
  have HVC := Aside0.mk (Kd.R_reads' HV6.out).2
  have HO3 := Aside0.mk (Kd.C_below H2.out HW3.out)
  clear k0 k1 k2 k3 k4 HV6 HV7 HB2 HB3 HW2 Y1
  go_wp2_with fail
  go_loopg [10, 34] zs.length (fun gk s10 s34 wr => ∃ (i : Nat), i ≤ zs.length ∧ zs.length - i ≤ gk ∧ s34 = .int .i64 i ∧ Aside0 (AL wr w3.heap.size s10 ((zs.take i).map (projR (varsOf ats) out))) ∧ Aside0 (Below w3.heap.size w3 wr))
  case atStart => exact ⟨0, Nat.zero_le _, by omega, rfl, ⟨[], World.ownsRow_nil _ _ _ _, TupsU.nil _ _⟩, ⟨Below.refl _ _⟩⟩
  case round =>
    obtain ⟨i, hi, hgk, rfl, hAL, hBr⟩ := hrel
    by_cases hlt : i < zs.length
    · obtain ⟨g, off, u, rfl, hr1, _, hu, _⟩ := SlAt.at_ HT.out i hlt
      have hr2 := pw_cell_below hBr.out hr1
      have HU := Aside0.mk hu
      have i4 : (i : Int) < (zs.length : Int) := by omega
      obtain ⟨Au, cu, rfl, _⟩ := SlAt.shape hu
      clear hr1 hu
      have k2 := cell_at ((hBr.out.block _ (Array.getElem?_eq_some_iff.1 Z1.out).1).trans Z1.out) 2
      go_wp2_with fail
      clear k2 hr2
      generalize wr = wo at *
      obtain ⟨hRC1, hRC2⟩ : zs[i].length = (varsOf ats).length ∧ Kd.C (Kd.int .i64) w3 Au zs[i].length zs[i] := ⟨HRL.out _ (List.getElem_mem _), by
        obtain ⟨A', c', he, _, hC⟩ := TupAt.reads HU.out
        injection he with he1 _ _
        rw [he1]; exact hC⟩
      have HRC := Aside0.mk (Kd.C_below hRC2 hBr.out)
      have HRL2 := Aside0.mk hRC1
      clear hRC1 hRC2
      go_loopg [13, 41] out.length (fun gk2 s13 s41 ws => ∃ (j : Nat), j ≤ out.length ∧ out.length - j ≤ gk2 ∧ s41 = .int .i64 j ∧ Aside0 (ws.ownsRow wo.heap.size 3 1 s13 j (nums .i64 ((out.take j).map (fun o => zs[i].getD (ixN (varsOf ats) o) 0)))) ∧ Aside0 (Below wo.heap.size wo ws))
      case atStart => exact ⟨0, Nat.zero_le _, by omega, rfl, ⟨World.ownsRow_nil _ _ _ _⟩, ⟨Below.refl _ _⟩⟩
      case round =>
        obtain ⟨j, hj, hgk2, rfl, hO, hBs⟩ := hrel
        by_cases hlt2 : j < out.length
        · obtain ⟨ad, had, hcs⟩ := Kd.at_string (Kd.C_below HO3.out (hBr.out.trans (hBs.out.mono hBr.out.size))) (j : Int) (by omega) (by omega)
          have hrd : rdOf ByteArray.empty out (j : Int) = out[j] := by unfold rdOf; rw [Int.toNat_natCast, List.getD_eq_getElem?_getD, List.getElem?_eq_getElem hlt2]; rfl
          rw [hrd, Int.toNat_natCast] at hcs
          subst had
          have i5 : (j : Int) < (out.length : Int) := by omega
          have HM : Aside0 (out[j] ∈ varsOf ats) := ⟨HOV.out _ (List.getElem_mem _)⟩
          have HTK : Aside0 ((out.take (j + 1)).map (fun o => zs[i].getD (ixN (varsOf ats) o) 0) = (out.take j).map (fun o => zs[i].getD (ixN (varsOf ats) o) 0) ++ [zs[i].getD (ixN (varsOf ats) out[j]) 0]) := ⟨by
            rw [List.take_add_one, List.getElem?_eq_getElem hlt2, List.map_append]
            rfl⟩
          clear hrd
          generalize out[j] = o at *
          obtain ⟨qo, hqo⟩ := HIX.out o HM.out
          have HQO := Aside0.mk hqo
          have hil : ixN (varsOf ats) o < zs[i].length := by rw [HRL2.out]; exact ixN_lt HM.out
          obtain ⟨ad2, had2, hcr⟩ := Kd.at_int (Kd.C_below HRC.out hBs.out) ((ixN (varsOf ats) o : Nat) : Int) (by omega) (by omega)
          rw [Int.toNat_natCast] at hcr
          have e0 : rd zs[i] ((ixN (varsOf ats) o : Nat) : Int) = zs[i].getD (ixN (varsOf ats) o) 0 := by simp [rd]
          rw [e0] at hcr
          subst had2
          have i6 : ((ixN (varsOf ats) o : Nat) : Int) < (zs[i].length : Int) := by omega
          have HJ : Aside0 (((out.take j).map (fun o => zs[i].getD (ixN (varsOf ats) o) 0)).length = j) := ⟨by rw [List.length_map, List.length_take]; omega⟩
          obtain ⟨As, cs, rfl⟩ := own_slice hO.out
          clear hqo e0 hil
          have HOj := hO
          generalize zs[i].getD (ixN (varsOf ats) o) 0 = y at *
          generalize hLj : (out.take j).map (fun o => zs[i].getD (ixN (varsOf ats) o) 0) = Lj at *
          clear hLj
          go_wp2_with (first | (go_at_call 66; (with_reducible refine (slices_Index_string_string.calls qo Av cv (varsOf ats) o _ _ (Kd.C_below HVC.out.2 ?side1) HVC.out.1 HQO.out).mono ?_); (case side1 => exact hBr.out.trans (hBs.out.mono hBr.out.size)); rintro e w5 ⟨rfl, n5, rfl⟩) | (at_builtin; refine print_append (w0 := wo) wo.heap.size rfl (.tmp 45) (.tmp 52) 75 3 (.int .i64 0) 8 rfl Try.underlying75 info3 rfl (by decide) (.slice As j cs) (nums .i64 Lj) (.int .i64 y) rfl rfl ?c1 ?c2 ?c3 ?c4 ?c5 ?_))
          case c1 => rfl
          case c2 => rw [nums_length, HJ.out]; exact HOj.out
          case c3 => exact pw_below_drewN hBs.out _
          case c4 => exact hBs.out.size
          case c5 => rw [nums_length, HJ.out]; omega
          intro v6 w6 ho6 hb6 hg6 _
          have HO6 : Aside0 (w6.ownsRow wo.heap.size 3 1 v6 (j + 1) (nums .i64 ((out.take (j + 1)).map (fun o => zs[i].getD (ixN (varsOf ats) o) 0)))) := ⟨by
            rw [HTK.out, nums_append]
            have := ho6
            simp only [List.length_append, nums_length, HJ.out, List.length_singleton] at this
            exact this⟩
          have HB6 := Aside0.mk hb6
          obtain ⟨A6, c6, rfl⟩ := own_slice HO6.out
          clear ho6 hb6 hg6 hcs hcr
          go_wp2_with fail
          go_roundg (out.length - (j + 1))
          case measure => omega
          case rel =>
            refine ⟨j + 1, by omega, Nat.le_refl _, ?_, HO6, HB6⟩
            first | exact congrArg (Value.int .i64) (wrap_succ j out.length hlt2 (by omega)) | exact congrArg (Value.int .i64) (by omega)
        · have hjj : j = out.length := by omega
          subst hjj
          obtain ⟨us, hus, huT⟩ := hAL.out
          obtain ⟨At, ct, rfl⟩ := own_slice hO.out
          obtain ⟨A10, c10, rfl⟩ := own_slice hus
          have HUS := Aside0.mk hus
          have HUT := Aside0.mk huT
          have HUL : Aside0 (us.length = i) := ⟨by have := huT.1; simpa [Nat.min_eq_left (Nat.le_of_lt hlt)] using this⟩
          clear hus huT
          have HP : Aside0 ((zs.take (i + 1)).map (projR (varsOf ats) out) = (zs.take i).map (projR (varsOf ats) out) ++ [projR (varsOf ats) out zs[i]]) := ⟨by
            rw [List.take_add_one, List.getElem?_eq_getElem hlt, List.map_append]
            rfl⟩
          have HT9 : Aside0 (TupAt wr (fun _ => True) (.slice At out.length ct) (projR (varsOf ats) out zs[i])) := ⟨tup_ofOwn (by
            have := hO.out
            rw [List.take_length] at this
            rw [show (projR (varsOf ats) out zs[i]).length = out.length by simp [projR]]
            exact this) (fun _ _ => trivial)⟩
          have HUS2 : Aside0 (wr.ownsRow w3.heap.size 75 1 (.slice A10 us.length c10) us.length us) := ⟨pw_own_below HUS.out hBs.out⟩
          have HBr2 : Aside0 (Below w3.heap.size w3 wr) := ⟨hBr.out.trans (hBs.out.mono hBr.out.size)⟩
          go_wp2_with (at_builtin; refine print_append (w0 := w3) w3.heap.size rfl (.tmp 55) (.tmp 57) 63 75 (.slice none 0 0) 24 rfl Try.underlying63 info75 rfl (by decide) (.slice A10 us.length c10) us (.slice At out.length ct) rfl rfl rfl ?c2 ?c3 ?c4 ?c5 ?_)
          case c2 => exact HUS2.out
          case c3 => exact HBr2.out
          case c4 => exact HBr2.out.size
          case c5 => rw [HUL.out]; omega
          intro v6 w6 ho6 hb6 hg6 _
          have HAL6 : Aside0 (AL w6 w3.heap.size v6 ((zs.take (i + 1)).map (projR (varsOf ats) out))) := ⟨by
            refine ⟨us ++ [.slice At out.length ct], by rw [List.length_append, List.length_singleton]; exact ho6, ?_⟩
            rw [HP.out]
            exact TupsU.snoc ((HUT.out.imp (fun _ _ hu => hu.below hBs.out)).imp (fun _ _ hu => hu.grown75 HUS2.out hg6)) (HT9.out.grown75 HUS2.out hg6)⟩
          have HB6 := Aside0.mk hb6
          obtain ⟨A11, c11, rfl⟩ := own_slice ho6
          clear ho6 hb6 hg6
          go_wp2_with fail
          go_roundg (zs.length - (i + 1))
          case measure => omega
          case rel =>
            refine ⟨i + 1, by omega, Nat.le_refl _, ?_, HAL6, HB6⟩
            first | exact congrArg (Value.int .i64) (wrap_succ i zs.length hlt (by omega)) | exact congrArg (Value.int .i64) (by omega)
    · have hii : i = zs.length := by omega
      subst hii
      have hAL' := hAL.out
      rw [List.take_length] at hAL'
      obtain ⟨us, hus, huT⟩ := hAL'
      have HUL : Aside0 (us.length = zs.length) := ⟨by have := huT.1; simpa using this⟩
      generalize hall : zs.map (projR (varsOf ats) out) = all at *
      have HAll : Aside0 (all.length = zs.length ∧ ∀ xs ∈ all, xs.length = out.length) := ⟨by
        subst hall
        refine ⟨by simp, fun xs hx => ?_⟩
        obtain ⟨z, _, rfl⟩ := List.mem_map.1 hx
        simp [projR]⟩
      have HPM := Aside0.mk hall
      clear hall hAL
      have hlen : us.length = all.length := huT.1
      rw [hlen] at hus
      have HUT := Aside0.mk huT
      have HUS := Aside0.mk hus
      obtain ⟨A10, c10, rfl⟩ := own_slice hus
      clear hus huT hlen
      have hal1 : all.length ≤ 100000 := by rw [HAll.out.1]; exact hyl
      have HIN : Aside0 (∀ xs ∈ all, xs.length ≤ 1000000) := ⟨fun xs hx => by rw [HAll.out.2 xs hx]; omega⟩
      have HUT2 : Aside0 (TupsU wr (fun k => k < wr.heap.size) us all) := ⟨HUT.out.imp (fun _ _ hu => hu.bound.okmono (fun k hk _ => hk.2))⟩
      go_upto_region 18 with (go_at_call 68; (with_reducible refine (sort_calls _ HUS.out HUT2.out (by omega) HIN.out).mono ?_); rintro e w6 ⟨rfl, us', sl, hperm, hris, ho6, hT6, hg6⟩; (have HPerm := Aside0.mk hperm); (have HRis := Aside0.mk hris); (have HO6 := Aside0.mk ho6); (have HT6 := Aside0.mk hT6); (have HG6 := Aside0.mk hg6); clear hperm hris ho6 hT6 hg6)
      have hsl : all.length = sl.length := HPerm.out.length_eq.symm
      have hsw : wr.heap.size ≤ w6.heap.size := HG6.out.size
      have HS : Aside0 (TupsAt w6 (fun k => k < w6.heap.size) (.slice A10 all.length c10) sl) := ⟨(HT6.out.imp (fun _ _ hu => hu.okmono (fun k hk _ => by omega))).ofOwn HO6.out (fun k hk => own_block_lt HO6.out hk)⟩
      have HB6 : Aside0 (Below w3.heap.size w3 w6) := ⟨pw_below_grown hBr.out _ hBr.out.size HG6.out (fun k hk => own_base HUS.out k hk)⟩
      have HSIN : Aside0 (∀ xs ∈ sl, xs.length ≤ 1000000) := ⟨fun xs hx => HIN.out xs (HPerm.out.mem_iff.1 hx)⟩
      rw [hsl] at HS
      rw [hsl]
      clear HO6 HT6 HG6 hsw HUS HUT HUT2
      go_wp2_with fail
      have hsl1 : sl.length ≤ 100000 := by omega
      go_loopg [16, 17, 64] sl.length (fun gk s16 s17 s64 ws => ∃ (i : Nat) (uo : List Value) (gs : List (List Int) × List Int), i ≤ sl.length ∧ sl.length - i ≤ gk ∧ s64 = .int .i64 i ∧ Aside0 (grp (sl.take i) = gs) ∧ Aside0 (ws.ownsRow w6.heap.size 75 1 s16 uo.length uo) ∧ Aside0 (TupsU ws (fun k => k < w6.heap.size) uo gs.1) ∧ Aside0 (ws.ownsRow w6.heap.size 3 1 s17 gs.2.length (nums .i64 gs.2)) ∧ Aside0 (Below w6.heap.size w6 ws))
      case atStart => exact ⟨0, [], ([], []), Nat.zero_le _, by omega, rfl, ⟨rfl⟩, ⟨World.ownsRow_nil _ _ _ _⟩, ⟨TupsU.nil _ _⟩, ⟨World.ownsRow_nil _ _ _ _⟩, ⟨Below.refl _ _⟩⟩
      case round =>
        obtain ⟨j, uo, gs, hj, hgk2, rfl, hgs, hO, hU, hN, hBs⟩ := hrel
        by_cases hlt : j < sl.length
        · obtain ⟨g, off, u, rfl, hr1, _, hu, _⟩ := SlAt.at_ HS.out j hlt
          have hr2 := pw_cell_below hBs.out hr1
          have HUu : Aside0 (TupAt wr (fun k => k < w6.heap.size) u sl[j]) := ⟨TupAt.below hu hBs.out⟩
          obtain ⟨Au, cu, rfl, _⟩ := SlAt.shape hu
          have hg2 : gs.2.length = gs.1.length := by rw [← hgs.out]; exact grp_len _
          have hul : uo.length = gs.1.length := hU.out.1
          have hgle : gs.1.length ≤ j := by
            rw [← hgs.out]
            refine Nat.le_trans (grp_le _) ?_
            rw [List.length_take]
            omega
          have HTK : Aside0 (grp (sl.take (j + 1)) = grpStep gs sl[j]) := ⟨by rw [grp_take sl hlt, hgs.out]⟩
          have HLt : Aside0 (sl[j].length ≤ 1000000) := ⟨HSIN.out _ (List.getElem_mem _)⟩
          have i4 : (j : Int) < (sl.length : Int) := by omega
          clear hr1 hu
          have hg2' := hg2
          rw [hg2] at hN
          rw [hul] at hO
          have hlu := hul
          clear hul
          have hj9 : j ≤ 100000 := by omega
          cases hgl : gs.1.getLast? with
          | none =>
            have he : gs.1 = [] := List.getLast?_eq_none_iff.1 hgl
            have hnew := grpStep_new gs sl[j] (fun u hu => by rw [hgl] at hu; cases hu)
            have he0 : gs.1.length = 0 := by rw [he]; rfl
            rw [he0] at hN hO hlu hg2
            obtain ⟨Ao, co, rfl⟩ := own_slice hO.out
            obtain ⟨An, cn, rfl⟩ := own_slice hN.out
            go_upto_if 81 with fail
            have HNk : Aside0 (∀ W2, (wr).grownBy W2 (Value.slice Ao 0 co).ownBlock → W2.ownsRow w6.heap.size 3 1 (.slice An 0 cn) 0 (nums .i64 gs.2)) := ⟨fun W2 hg => World.ownsRow.kept (w := wr) hN.out hg (by
              cases hb : (Value.slice An 0 cn).ownBlock with
              | none => exact .inl rfl
              | some kb => exact .inr (own_apart hN.out hO.out (by decide) hb))⟩
            have HO2 : Aside0 ((wr).ownsRow w6.heap.size 75 1 (.slice Ao 0 co) uo.length uo) := ⟨by rw [hlu]; exact hO.out⟩
            have HB2 : Aside0 (Below w6.heap.size w6 (wr)) := ⟨hBs.out⟩
            have hul9 : (uo.length + 1) * 24 ≤ 140737488355328 := by omega
            have hnl9 : (gs.2.length + 1) * 8 ≤ 140737488355328 := by omega
            have hN2 : gs.2.length = 0 := by omega
            go_wp2_with (first | (at_builtin; refine print_append (w0 := w6) w6.heap.size rfl (.tmp 89) (.tmp 91) 63 75 (.slice none 0 0) 24 rfl Try.underlying63 info75 rfl (by decide) (.slice Ao 0 co) uo (.slice Au sl[j].length cu) rfl rfl rfl HO2.out HB2.out HB2.out.size hul9 ?_; intro v8 w8 ho8 hb8 hg8 _; rw [List.length_append, List.length_singleton, hlu] at ho8; obtain ⟨A8, c8, rfl⟩ := own_slice ho8; (have HO8 := Aside0.mk ho8); (have HB8 := Aside0.mk hb8); (have HG8 := Aside0.mk hg8); clear ho8 hb8 hg8) | (at_builtin; refine print_append (w0 := w6) w6.heap.size rfl (.tmp 93) (.tmp 94) 66 3 (.int .i64 0) 8 rfl Try.underlying66 info3 rfl (by decide) (.slice An 0 cn) (nums .i64 gs.2) (.int .i64 1) rfl rfl rfl (by rw [nums_length, hN2]; exact HNk.out _ HG8.out) HB8.out HB8.out.size (by rw [nums_length]; exact hnl9) ?_; intro v9 w9 ho9 hb9 hg9 _; rw [List.length_append, List.length_singleton, nums_length, hN2] at ho9; obtain ⟨A9, c9, rfl⟩ := own_slice ho9; (have HO9 := Aside0.mk ho9); (have HB9 := Aside0.mk hb9); (have HG9 := Aside0.mk hg9); clear ho9 hb9 hg9))
            go_roundg (sl.length - (j + 1))
            case measure => omega
            case rel =>
              have h89 : ∀ k, k < w8.heap.size → some k ≠ (Value.slice An 0 cn).ownBlock → w9.heap[k]? = w8.heap[k]? := fun k hk hne => HG9.out.block k hk hne
              refine ⟨j + 1, uo ++ [.slice Au sl[j].length cu], (gs.1 ++ [sl[j]], gs.2 ++ [1]), by omega, Nat.le_refl _, ?_, ⟨by rw [HTK.out, hnew]⟩, ⟨?_⟩, ⟨?_⟩, ⟨?_⟩, HB9⟩
              · first | exact congrArg (Value.int .i64) (wrap_succ j sl.length hlt (by omega)) | exact congrArg (Value.int .i64) (by omega)
              · rw [List.length_append, List.length_singleton, hlu]
                exact own_move HO8.out (fun k hk => h89 k (own_block_lt HO8.out hk) (fun e => own_apart HO8.out (HNk.out _ HG8.out) (by decide) hk e))
              · have hbase : ∀ k, k < w6.heap.size → w9.heap[k]? = (wr).heap[k]? := fun k hk => (HB9.out.block k hk).trans (HB2.out.block k hk).symm
                exact TupsU.snoc (hU.out.imp (fun _ _ hu => hu.step (fun k hk _ => hbase k hk))) (HUu.out.step (fun k hk _ => hbase k hk))
              · rw [nums_append, List.length_append, List.length_singleton, hN2]
                exact HO9.out
          | some lt =>
            obtain ⟨m, hm⟩ : ∃ m, gs.1.length = m + 1 := ⟨gs.1.length - 1, by
              have : gs.1 ≠ [] := fun h => by rw [h] at hgl; cases hgl
              have := List.length_pos_iff.2 this
              omega⟩
            have hm1 : gs.1.length - 1 = m := by omega
            rw [hm] at hN hO hlu hg2
            obtain ⟨Ao, co, rfl⟩ := own_slice hO.out
            obtain ⟨gn, cn, rfl, _, _⟩ := hN.out.form (by omega)
            have hlast : gs.1[m]? = some lt := by rw [List.getLast?_eq_getElem?, hm1] at hgl; exact hgl
            have hTo : TupsAt wr (fun k => k < wr.heap.size) (.slice Ao (m + 1) co) gs.1 := (hU.out.imp (fun _ _ hu => hu.okmono (fun k hk _ => Nat.lt_of_lt_of_le hk hBs.out.size))).ofOwn hO.out (fun k hk => own_block_lt hO.out hk)
            have hTo2 := hTo
            rw [← hm] at hTo2
            obtain ⟨go, oo, uo2, rfl, hro, _, huo, _⟩ := SlAt.at_ hTo2 m (by omega)
            have hel : gs.1[m]'(by omega) = lt := by
              have := List.getElem?_eq_some_iff.1 hlast
              exact this.2
            rw [hel] at huo
            obtain ⟨Al, cl, rfl, _⟩ := SlAt.shape huo
            have hris : Rising (sl.take j) := Rising.ofApp (b := sl.drop j) (by rw [List.take_append_drop]; exact HRis.out)
            have hspec := grp_spec _ _ rfl hris
            rw [hgs.out] at hspec
            have hll : lt.length ≤ 1000000 := HSIN.out _ (List.mem_of_mem_take ((hspec.2.1 lt).1 (List.mem_of_getElem? hlast)))
            have hcmp := cmp_calls wr huo (HUu.out.okmono (fun k hk _ => Nat.lt_of_lt_of_le hk hBs.out.size)) (by omega)
            have HCM := Aside0.mk hcmp
            have hw1 : IntKind.i64.wrap (m : Int) = (m : Int) := IntWalk.i64_in _ (by omega)
            clear hcmp hTo hTo2
            by_cases hc : cmpL lt sl[j] = 0
            · have hold := grpStep_old gs sl[j] lt hgl hc
              rw [hm1] at hold
              rw [hc] at HCM
              have hx : gs.2.getD m 0 = ((sl.take j).count lt : Int) := by
                rw [hspec.1, List.getD_eq_getElem?_getD, List.getElem?_map, hlast]
                rfl
              have hxl : (sl.take j).count lt ≤ j := Nat.le_trans List.count_le_length (by rw [List.length_take]; omega)
              have hmc : m < gs.2.length := by omega
              have hcell : wr.cell? ⟨gn, m, none⟩ = some (.int .i64 (gs.2.getD m 0)) := by
                rw [hN.out.cellAt m (by omega)]
                simp [nums, List.getD_eq_getElem?_getD, List.getElem?_eq_getElem hmc]
              have hfr : wr.frozen? ⟨gn, m, none⟩ = false := hN.out.frozenAt m
              have hst := own_store hN.out (m : Int) (gs.2.getD m 0 + 1)
              rw [Int.toNat_natCast] at hst
              have HST := Aside0.mk hst
              have HOLD := Aside0.mk hold
              generalize hxx : gs.2.getD m 0 = x at *
              have hxr : 0 ≤ x ∧ x ≤ (j : Int) := by omega
              clear hx hxx hxl
              have hw2 : IntKind.i64.wrap (x + 1) = x + 1 := IntWalk.i64_in _ (by omega)
              clear hst hold
              go_upto_if 81 with (go_at_call 69; (with_reducible refine HCM.out.mono ?_); rintro e w9 ⟨rfl, n9, rfl⟩)
              go_wp2_with fail
              go_roundg (sl.length - (j + 1))
              case measure => omega
              case rel =>
                have hoth : ∀ k, k ≠ gn → (wr.setCell ⟨gn, m, none⟩ (.int .i64 (x + 1))).heap[k]? = wr.heap[k]? := fun k hk => set_other wr gn m k _ hk
                have hgb : w6.heap.size ≤ gn := own_base hN.out gn rfl
                refine ⟨j + 1, uo, (gs.1, gs.2.set m (x + 1)), by omega, Nat.le_refl _, ?_, ⟨by rw [HTK.out, HOLD.out]⟩, ⟨?_⟩, ⟨?_⟩, ⟨?_⟩, ⟨?_⟩⟩
                · first | exact congrArg (Value.int .i64) (wrap_succ j sl.length hlt (by omega)) | exact congrArg (Value.int .i64) (by omega)
                · rw [hlu]
                  exact own_move (w := wr) hO.out (fun k hk => hoth k (fun e => own_apart hO.out hN.out (by decide) hk (by rw [e]; rfl)))
                · exact (hU.out.imp (fun _ _ hu => hu.step (fun k hk _ => hoth k (by omega))) : TupsU (wr.setCell ⟨gn, m, none⟩ (.int .i64 (x + 1))) _ uo gs.1)
                · rw [show (gs.2.set m (x + 1)).length = m + 1 by rw [List.length_set]; omega]
                  exact HST.out.1
                · exact (pw_below_drewN hBs.out n9).setCell hgb _
            · have hnew := grpStep_new gs sl[j] (fun u hu => by rw [hgl] at hu; injection hu with hu; rw [← hu]; exact hc)
              have hcb : (cmpL lt sl[j] == 0) = false := beq_eq_false_iff_ne.2 hc
              generalize cmpL lt sl[j] = cm at *
              clear hc
              go_upto_if 81 with (go_at_call 69; (with_reducible refine HCM.out.mono ?_); rintro e w10 ⟨rfl, n9, rfl⟩)
              have HNk : Aside0 (∀ W2, (wr.drewN n9).grownBy W2 (Value.slice (some ⟨go, oo, none⟩) (m + 1) co).ownBlock → W2.ownsRow w6.heap.size 3 1 (.slice (some ⟨gn, 0, none⟩) (m + 1) cn) (m + 1) (nums .i64 gs.2)) := ⟨fun W2 hg => World.ownsRow.kept (w := wr.drewN n9) hN.out hg (by
                cases hb : (Value.slice (some ⟨gn, 0, none⟩) (m + 1) cn).ownBlock with
                | none => exact .inl rfl
                | some kb => exact .inr (own_apart hN.out hO.out (by decide) hb))⟩
              have HO2 : Aside0 ((wr.drewN n9).ownsRow w6.heap.size 75 1 (.slice (some ⟨go, oo, none⟩) (m + 1) co) uo.length uo) := ⟨by rw [hlu]; exact hO.out⟩
              have HB2 : Aside0 (Below w6.heap.size w6 (wr.drewN n9)) := ⟨pw_below_drewN hBs.out _⟩
              have hul9 : (uo.length + 1) * 24 ≤ 140737488355328 := by omega
              have hnl9 : (gs.2.length + 1) * 8 ≤ 140737488355328 := by omega
              have hN2 : gs.2.length = (m + 1) := by omega
              go_wp2_with (first | (at_builtin; refine print_append (w0 := w6) w6.heap.size rfl (.tmp 89) (.tmp 91) 63 75 (.slice none 0 0) 24 rfl Try.underlying63 info75 rfl (by decide) (.slice (some ⟨go, oo, none⟩) (m + 1) co) uo (.slice Au sl[j].length cu) rfl rfl rfl HO2.out HB2.out HB2.out.size hul9 ?_; intro v8 w8 ho8 hb8 hg8 _; rw [List.length_append, List.length_singleton, hlu] at ho8; obtain ⟨A8, c8, rfl⟩ := own_slice ho8; (have HO8 := Aside0.mk ho8); (have HB8 := Aside0.mk hb8); (have HG8 := Aside0.mk hg8); clear ho8 hb8 hg8) | (at_builtin; refine print_append (w0 := w6) w6.heap.size rfl (.tmp 93) (.tmp 94) 66 3 (.int .i64 0) 8 rfl Try.underlying66 info3 rfl (by decide) (.slice (some ⟨gn, 0, none⟩) (m + 1) cn) (nums .i64 gs.2) (.int .i64 1) rfl rfl rfl (by rw [nums_length, hN2]; exact HNk.out _ HG8.out) HB8.out HB8.out.size (by rw [nums_length]; exact hnl9) ?_; intro v9 w9 ho9 hb9 hg9 _; rw [List.length_append, List.length_singleton, nums_length, hN2] at ho9; obtain ⟨A9, c9, rfl⟩ := own_slice ho9; (have HO9 := Aside0.mk ho9); (have HB9 := Aside0.mk hb9); (have HG9 := Aside0.mk hg9); clear ho9 hb9 hg9))
              go_roundg (sl.length - (j + 1))
              case measure => omega
              case rel =>
                have h89 : ∀ k, k < w8.heap.size → some k ≠ (Value.slice (some ⟨gn, 0, none⟩) (m + 1) cn).ownBlock → w9.heap[k]? = w8.heap[k]? := fun k hk hne => HG9.out.block k hk hne
                refine ⟨j + 1, uo ++ [.slice Au sl[j].length cu], (gs.1 ++ [sl[j]], gs.2 ++ [1]), by omega, Nat.le_refl _, ?_, ⟨by rw [HTK.out, hnew]⟩, ⟨?_⟩, ⟨?_⟩, ⟨?_⟩, HB9⟩
                · first | exact congrArg (Value.int .i64) (wrap_succ j sl.length hlt (by omega)) | exact congrArg (Value.int .i64) (by omega)
                · rw [List.length_append, List.length_singleton, hlu]
                  exact own_move HO8.out (fun k hk => h89 k (own_block_lt HO8.out hk) (fun e => own_apart HO8.out (HNk.out _ HG8.out) (by decide) hk e))
                · have hbase : ∀ k, k < w6.heap.size → w9.heap[k]? = (wr.drewN n9).heap[k]? := fun k hk => (HB9.out.block k hk).trans (HB2.out.block k hk).symm
                  exact TupsU.snoc (hU.out.imp (fun _ _ hu => hu.step (fun k hk _ => hbase k hk))) (HUu.out.step (fun k hk _ => hbase k hk))
                · rw [nums_append, List.length_append, List.length_singleton, hN2]
                  exact HO9.out
        · have hjj : j = sl.length := by omega
          subst hjj
          have hg := hgs.out
          rw [List.take_length] at hg
          obtain ⟨p1, p2, p3, p4⟩ := grp_spec _ sl rfl HRis.out
          rw [hg] at p1 p2 p3
          have hset : IsSet all gs.1 := ⟨p3, fun x => (p2 x).trans HPerm.out.mem_iff⟩
          have hcnt : gs.2 = gs.1.map (fun t => (all.count t : Int)) := by
            rw [p1]
            refine List.map_congr_left (fun t _ => ?_)
            rw [HPerm.out.count_eq]
          have hul : uo.length = gs.1.length := hU.out.1
          rw [hul] at hO
          obtain ⟨Ao, co, rfl⟩ := own_slice hO.out
          obtain ⟨An, cn, rfl⟩ := own_slice hN.out
          have hg2 : gs.2.length = gs.1.length := by rw [← hg]; exact grp_len _
          have hTo : Aside0 (TupsAt wr (fun _ => True) (.slice Ao gs.1.length co) gs.1) := ⟨(hU.out.imp (fun _ _ hu => hu.okmono (fun k hk _ => trivial))).ofOwn hO.out (fun k hk => trivial)⟩
          have hTn : Aside0 (TupAt wr (fun k => w6.heap.size ≤ k) (.slice An gs.2.length cn) gs.2) := ⟨tup_ofOwn hN.out (fun k hk => own_base hN.out k hk)⟩
          have HSET := Aside0.mk hset
          have HCNT := Aside0.mk hcnt
          have HP3 := Aside0.mk p3
          have hgl : gs.1.length ≤ 1000000 := by
            rw [← hg]
            exact Nat.le_trans (grp_le _) (by omega)
          have HGI : Aside0 (∀ xs ∈ gs.1, xs.length ≤ 1000000) := ⟨fun xs hx => HSIN.out xs ((p2 xs).1 hx)⟩
          have HW6 : Aside0 (Below w.heap.size w wr) := ⟨HW3.out.trans ((HB6.out.trans (hBs.out.mono HB6.out.size)).mono HW3.out.size)⟩
          clear hset hcnt p1 p2 p3 p4 hg hul hg2
          go_wp2_with (first | (go_at_call 67; (with_reducible refine (set_calls _ hTo.out hgl HGI.out).mono ?_); rintro e w7 ⟨⟨v1, s1, rfl, hs1, hv1⟩, hb7⟩; (have HS1 := Aside0.mk hs1); (have HV1 := Aside0.mk hv1); (have HB7 := Aside0.mk hb7); clear hs1 hv1 hb7) | (go_at_call 70; (with_reducible refine (clip70_calls _ (TupAt.below hTn.out HB7.out)).mono ?_); rintro e w8 ⟨⟨v2, rfl, hv2⟩, rfl⟩; (have HV2 := Aside0.mk hv2); clear hv2))
          go_ret3
          have hs2 : s1 = gs.1 := HS1.out.uniq ⟨HP3.out, fun x => Iff.rfl⟩
          refine ⟨⟨_, _, gs.1, rfl, by rw [HPM.out]; exact HSET.out, ?_, ?_⟩, HW6.out.trans (HB7.out.mono HW6.out.size)⟩
          · rw [← hs2]
            exact HV1.out.okmono (fun k hk _ => Nat.le_trans HW6.out.size hk)
          · rw [HPM.out, ← HCNT.out]
            exact HV2.out.okmono (fun k hk _ => Nat.le_trans (Nat.le_trans HW3.out.size HB6.out.size) hk)
end Go.Proofs.Ytcchcifcfcpjiaa.J
