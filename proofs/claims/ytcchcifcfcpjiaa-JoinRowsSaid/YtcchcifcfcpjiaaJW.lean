/- join.Rows. -/
import Derived.Test.YtcchcifcfcpjiaaJV
import Derived.Test.YtcchcifcfcpjiaaJL2
import Derived.Test.YtcchcifcfcpjiaaJX4
import Derived.Test.YtcchcifcfcpjiaaPKx10
set_option linter.unusedVariables false
set_option linter.unusedSimpArgs false
namespace Go.Proofs.Ytcchcifcfcpjiaa.J
open Go.RowKit Go.Proofs.YtcchcifcfcpjiaaW.PrintWords Go.Proofs.YtcchcifcfcpjiaaW.PrintLast Go.Proofs.YtcchcifcfcpjiaaW.PrintMore Go.Proofs.Ytcchcifcfcpjiaa.PJ

theorem rows_bad (w : World) {nm lb : ByteArray} {kd : Int} {A2 A3 A1 : Option Addr} {c2 c3 c1 : Nat} {out : List ByteArray} {ats : List S118} {es : List S82}
    (h2 : Kd.C Kd.string w A2 out.length out) (g2 : out.length ≤ c2) (h3 : Kd.C k118 w A3 ats.length ats) (g3 : ats.length ≤ c3) {k : Nat} (hb : join_bad.f k nm kd out ats lb = some true) :
    Calls Try.prog 27 #[.agg #[.string nm, .int .i64 kd, .slice A2 out.length c2, .slice A3 ats.length c3, .string lb], .slice A1 es.length c1] w fun e w' => e = .returned (.tuple #[.slice none 0 0, .int .i64 1]) ∧ Below w.heap.size w w' := by
  have H2 := Aside0.mk h2
  have H3 := Aside0.mk h3
  have HG2 := Aside0.mk g2
  have HG3 := Aside0.mk g3
  have HBd := Aside0.mk hb
  clear h2 h3 hb g2 g3
  have hu59 := Try.underlying59
  go_enter Try.func27, Try.ntmps27
  go_upto_region 1 with fail
  have hB1 : Below w.heap.size w (w.alloc (.cells #[.string nm, .int .i64 kd, .slice A2 out.length c2, .slice A3 ats.length c3, .string lb] 59)) := below_alloc (Below.refl _ _) _
  have hbx : (w.alloc (.cells #[.string nm, .int .i64 kd, .slice A2 out.length c2, .slice A3 ats.length c3, .string lb] 59)).heap[w.heap.size]? = some (.cells #[.string nm, .int .i64 kd, .slice A2 out.length c2, .slice A3 ats.length c3, .string lb] 59 (0, 0)) := heap_alloc_new _ _
  have k0 := cell_at hbx 0
  have k1 := cell_at hbx 1
  have k2 := cell_at hbx 2
  have k3 := cell_at hbx 3
  have k4 := cell_at hbx 4
  have HB1 := Aside0.mk hB1
  clear hB1 hbx
  generalize w.alloc (.cells #[.string nm, .int .i64 kd, .slice A2 out.length c2, .slice A3 ats.length c3, .string lb] 59) = w1 at *
  go_wp2_with (go_at_call 61; refine (join_bad.calls k nm kd _ _ out _ _ ats lb true _ (Kd.C_below H2.out HB1.out) HG2.out (Kd.C_below H3.out HB1.out) HG3.out HBd.out).mono ?_; rintro e w2 ⟨rfl, hb2⟩)
  go_ret2
  exact ⟨rfl, HB1.out.trans (hb2.mono HB1.out.size)⟩

/-- What join.Rows says of a pattern. -/
def RowsPost (w : World) : Option (List (List Int)) → Ending → World → Prop
  | none, e, w' => e = .returned (.tuple #[.slice none 0 0, .int .i64 5]) ∧ Below w.heap.size w w'
  | some rows, e, w' => (∃ v' ys, e = .returned (.tuple #[v', .int .i64 0]) ∧ IsSet rows ys ∧ TupsAt w' (w.heap.size ≤ ·) v' ys) ∧ Below w.heap.size w w'
theorem zero63 : ∀ w, (zeroValue 63).run Try.prog w = .ok (.slice none 0 0) w := fun w => Try.zeroValue63 w

set_option maxRecDepth 100000 in
set_option maxHeartbeats 4000000 in
theorem rows_good (w : World) {nm lb : ByteArray} {kd : Int} {A2 A3 A1 : Option Addr} {c2 c3 c1 : Nat} {out : List ByteArray} {ats : List S118} {es : List S82}
    (h2 : Kd.C Kd.string w A2 out.length out) (g2 : out.length ≤ c2) (h3 : Kd.C k118 w A3 ats.length ats) (g3 : ats.length ≤ c3) (hE : Kd.C k82 w A1 es.length es) {k : Nat} (hb : join_bad.f k nm kd out ats lb = some false)
    (hv : query_Vars.f k nm kd out ats lb = some (varsOf ats)) (hix : ∀ x ∈ varsOf ats, ∃ q, slices_Index_string_string.f q (varsOf ats) x = some ((ixN (varsOf ats) x : Nat) : Int)) (hel : es.length ≤ 1000) (hal : ats.length ≤ 1000) :
    Calls Try.prog 27 #[.agg #[.string nm, .int .i64 kd, .slice A2 out.length c2, .slice A3 ats.length c3, .string lb], .slice A1 es.length c1] w (RowsPost w (allRows (varsOf ats) es ats [[]])) := by
  have H2 := Aside0.mk h2
  have H3 := Aside0.mk h3
  have HE := Aside0.mk hE
  have HG2 := Aside0.mk g2
  have HG3 := Aside0.mk g3
  have HBd := Aside0.mk hb
  have HV := Aside0.mk hv
  have HIX := Aside0.mk hix
  clear h2 h3 hb g2 g3 hv hix hE
  have hu59 := Try.underlying59
  go_enter Try.func27, Try.ntmps27
  go_upto_region 1 with fail
  have hB1 : Below w.heap.size w (w.alloc (.cells #[.string nm, .int .i64 kd, .slice A2 out.length c2, .slice A3 ats.length c3, .string lb] 59)) := below_alloc (Below.refl _ _) _
  have hbx : (w.alloc (.cells #[.string nm, .int .i64 kd, .slice A2 out.length c2, .slice A3 ats.length c3, .string lb] 59)).heap[w.heap.size]? = some (.cells #[.string nm, .int .i64 kd, .slice A2 out.length c2, .slice A3 ats.length c3, .string lb] 59 (0, 0)) := heap_alloc_new _ _
  have k0 := cell_at hbx 0
  have k1 := cell_at hbx 1
  have k2 := cell_at hbx 2
  have k3 := cell_at hbx 3
  have k4 := cell_at hbx 4
  have HB1 := Aside0.mk hB1
  have HBX := Aside0.mk hbx
  clear hB1 hbx
  generalize w.alloc (.cells #[.string nm, .int .i64 kd, .slice A2 out.length c2, .slice A3 ats.length c3, .string lb] 59) = w1 at *
  go_upto_if 16 with (go_at_call 61; refine (join_bad.calls k nm kd _ _ out _ _ ats lb false _ (Kd.C_below H2.out HB1.out) HG2.out (Kd.C_below H3.out HB1.out) HG3.out HBd.out).mono ?_; rintro e w2 ⟨rfl, hb2⟩)
  have HBX2 := Aside0.mk ((hb2.block _ (Array.getElem?_eq_some_iff.1 HBX.out).1).trans HBX.out)
  have HB2 := Aside0.mk (HB1.out.trans (hb2.mono HB1.out.size))
  clear k0 k1 k2 k3 k4 hb2 HBX HB1
  have k0 := cell_at HBX2.out 0
  have k1 := cell_at HBX2.out 1
  have k2 := cell_at HBX2.out 2
  have k3 := cell_at HBX2.out 3
  have k4 := cell_at HBX2.out 4
  go_upto_region 4 with (first | (go_at_call 62; refine (query_Vars.calls k nm kd _ _ out _ _ ats lb (varsOf ats) _ (Kd.C_below H2.out HB2.out) HG2.out (Kd.C_below H3.out HB2.out) HG3.out HV.out).mono ?_; rintro e w3 ⟨v6, rfl, hv6, hb3⟩; (have HV6 := Aside0.mk hv6); (have HB3 := Aside0.mk hb3); clear hv6 hb3) | (go_at_call 63; refine (byLabel_calls _ (Kd.C_below HE.out (HB2.out.trans (HB3.out.mono HB2.out.size))) (by omega)).mono ?_; rintro e w4 ⟨M, lM, cM, tg, rfl, hls⟩; (have HLS := Aside0.mk hls); clear hls))
  have HB4 : Aside0 (Below w.heap.size w w4) := ⟨(HB2.out.trans (HB3.out.mono HB2.out.size)).trans (HLS.out.1.mono (HB2.out.trans (HB3.out.mono HB2.out.size)).size)⟩
  have HBX4 : Aside0 (w4.heap[w.heap.size]? = _) := ⟨((HB3.out.trans (HLS.out.1.mono HB3.out.size)).block _ (Array.getElem?_eq_some_iff.1 HBX2.out).1).trans HBX2.out⟩
  have hvr : Kd.R Kd.string 9 w4 w2.heap.size (fun _ => True) v6 (varsOf ats) := Kd.R_below HV6.out HLS.out.1
  obtain ⟨Av, cv, rfl⟩ := Kd.R_slice hvr
  have HVC := Aside0.mk (Kd.R_reads' hvr).2
  clear k0 k1 k2 k3 k4 hvr
  go_upto_region 5 with fail
  have HB5 : Aside0 (Below w4.heap.size w4 (w4.alloc (.cells #[.slice none 0 0] 75))) := ⟨below_alloc (Below.refl _ _) _⟩
  have HT5 : Aside0 (TupsAt (w4.alloc (.cells #[.slice none 0 0] 75)) (fun _ => True) (.slice (some ⟨w4.heap.size, 0, none⟩) 1 1) [[]]) := ⟨.inr ⟨w4.heap.size, 0, 1, _, rfl, trivial, heap_alloc_new _ _, by simp, by decide, by simp, fun j x hx => by
    cases j with
    | zero =>
      have : x = [] := by simpa using hx.symm
      subst this
      exact ⟨_, rfl, SlAt.nil _ _ _ _⟩
    | succ j => simp at hx⟩⟩
  have HBX5 : Aside0 ((w4.alloc (.cells #[.slice none 0 0] 75)).heap[w.heap.size]? = _) := ⟨(HB5.out.block _ (Array.getElem?_eq_some_iff.1 HBX4.out).1).trans HBX4.out⟩
  have HVC5 : Aside0 ((varsOf ats).length ≤ cv ∧ Kd.C Kd.string (w4.alloc (.cells #[.slice none 0 0] 75)) Av (varsOf ats).length (varsOf ats)) := ⟨HVC.out.1, Kd.C_below HVC.out.2 HB5.out⟩
  have HLS5 := Aside0.mk (HLS.out.below HB5.out)
  have HBW : Aside0 (Below w.heap.size w (w4.alloc (.cells #[.slice none 0 0] 75))) := ⟨HB4.out.trans (HB5.out.mono HB4.out.size)⟩
  have HC5 : Aside0 (Kd.C k118 (w4.alloc (.cells #[.slice none 0 0] 75)) A3 ats.length ats) := ⟨Kd.C_below H3.out HBW.out⟩
  clear HBX2 HB2 HBX4 HB5 HVC HLS HB4 HV6 HB3
  generalize w4.alloc (.cells #[.slice none 0 0] 75) = w5 at *
  have kx := cell_at HBX5.out 3
  go_wp2_with fail
  clear kx
  go_loopg [8, 25] ats.length (fun gk s8 s25 wr => ∃ (i : Nat) (rows : List (List Int)), i ≤ ats.length ∧ ats.length - i ≤ gk ∧ s25 = .int .i64 i ∧ Aside0 (allRows (varsOf ats) es (ats.take i) [[]] = some rows) ∧ Aside0 (TupsAt wr (fun _ => True) s8 rows) ∧ Aside0 (rows.length ≤ 3000) ∧ Aside0 (Below w5.heap.size w5 wr))
  case atStart => exact ⟨0, [[]], Nat.zero_le _, by omega, rfl, ⟨rfl⟩, HT5, ⟨by simp⟩, ⟨Below.refl _ _⟩⟩
  case round =>
    obtain ⟨i, rows, hi, hgk, rfl, hrows, hT, hrl, hBr⟩ := hrel
    by_cases hlt : i < ats.length
    · obtain ⟨ad, had, hd0, hd1, hd2⟩ := at_T118 (Kd.C_below HC5.out hBr.out) (i : Int) (by omega) (by omega)
      have hrd : rd_T118 ats (i : Int) = ats[i] := by unfold rd_T118; rw [Int.toNat_natCast, List.getD_eq_getElem?_getD, List.getElem?_eq_getElem hlt]; rfl
      rw [hrd] at hd0 hd1 hd2
      rw [Int.toNat_natCast] at hd0 hd1 hd2
      subst had
      have i3 : (i : Int) < (ats.length : Int) := by omega
      generalize hek : ats[i] = ed at hd0 hd1 hd2
      have HEK := Aside0.mk hek
      clear hek hrd
      obtain ⟨a0, a1, a2⟩ := ed
      simp only at hd0 hd1 hd2
      go_upto_region 8 with fail
      have HB7 : Aside0 (Below w5.heap.size w5 (wr.alloc (.cells #[.string a0, .string a1, .string a2] 118))) := ⟨hBr.out.trans ((below_alloc (Below.refl _ _) _).mono hBr.out.size)⟩
      have hq : (wr.alloc (.cells #[.string a0, .string a1, .string a2] 118)).heap[wr.heap.size]? = some (.cells #[.string a0, .string a1, .string a2] 118 (0, 0)) := heap_alloc_new _ _
      have HT7 : Aside0 (TupsAt (wr.alloc (.cells #[.string a0, .string a1, .string a2] 118)) (fun _ => True) u8 rows) := ⟨hT.out.below (below_alloc (Below.refl _ _) _)⟩
      have HLS7 := Aside0.mk (HLS5.out.below HB7.out)
      have HVC7 : Aside0 ((varsOf ats).length ≤ cv ∧ Kd.C Kd.string (wr.alloc (.cells #[.string a0, .string a1, .string a2] 118)) Av (varsOf ats).length (varsOf ats)) := ⟨HVC5.out.1, Kd.C_below HVC5.out.2 HB7.out⟩
      have HQ := Aside0.mk hq
      clear hq hT hBr hd0 hd1 hd2
      generalize wr.alloc (.cells #[.string a0, .string a1, .string a2] 118) = w7 at *
      generalize wr.heap.size = q10 at *
      go_upto_region 9 with fail
      have HA8 : Aside0 (AccAt (w7.alloc (.cells #[.slice none 0 0] 63)) w7.heap.size w7.heap.size []) := ⟨Nat.le_refl _, .slice none 0 0, [], heap_alloc_new _ _, World.ownsRow_nil _ _ _ _, TupsU.nil _ _⟩
      have HB8 : Aside0 (Below w7.heap.size w7 (w7.alloc (.cells #[.slice none 0 0] 63))) := ⟨below_alloc (Below.refl _ _) _⟩
      generalize w7.alloc (.cells #[.slice none 0 0] 63) = w8 at *
      obtain ⟨Ar, cr, rfl, _, _⟩ := TupsAt.reads HT7.out
      go_wp2_with fail
      go_loopg [32] rows.length (fun gk2 s32 ws => ∃ (j : Nat) (acc : List (List Int)), j ≤ rows.length ∧ rows.length - j ≤ gk2 ∧ s32 = .int .i64 j ∧ Aside0 (acc = (rows.take j).flatMap fun r => extM (pairsOf es a1) r (ixN (varsOf ats) a0) (ixN (varsOf ats) a2)) ∧ acc.length ≤ 3000 ∧ Aside0 (AccAt ws w7.heap.size w7.heap.size acc) ∧ Aside0 (Below w7.heap.size w7 ws))
      case atStart => exact ⟨0, [], Nat.zero_le _, by omega, rfl, ⟨rfl⟩, by simp, HA8, HB8⟩
      case round =>
        obtain ⟨j, acc, hj, hgk2, rfl, hacc, hal2, hA, hBs⟩ := hrel
        clear HA8 HB8
        by_cases hlt2 : j < rows.length
        · obtain ⟨g, off, u, rfl, hr1, _, hu, _⟩ := SlAt.at_ HT7.out j hlt2
          have hr2 := pw_cell_below hBs.out hr1
          have HU := Aside0.mk hu
          have i4 : (j : Int) < (rows.length : Int) := by omega
          clear hr1 hu
          obtain ⟨hm0, hm2⟩ := vars_mem ats hlt
          rw [HEK.out] at hm0 hm2
          obtain ⟨qa, hqa⟩ := HIX.out a0 hm0
          obtain ⟨qc, hqc⟩ := HIX.out a2 hm2
          have HQA := Aside0.mk hqa
          have HQC := Aside0.mk hqc
          obtain ⟨x, hx, hX⟩ : ∃ x, (getA a1 lM).getD (.pointer none) = x ∧ XAt w7 x (pairsOf es a1) := by
            have h6 := HLS7.out.2.2.2.2.2 a1
            rw [List.take_length] at h6
            rcases h6 with ⟨h1, h2⟩ | ⟨p, h1, h2⟩
            · exact ⟨.pointer none, by rw [h1]; rfl, .inl ⟨rfl, h2⟩⟩
            · exact ⟨.pointer (some ⟨p, 0, none⟩), by rw [h1]; rfl, .inr ⟨p, rfl, h2.ix⟩⟩
          have HS : Aside0 (∀ W, Below w7.heap.size w7 W → W.cell? ⟨q10, 0, none⟩ = some (.string a0) ∧ W.cell? ⟨q10, 1, none⟩ = some (.string a1) ∧ W.cell? ⟨q10, 2, none⟩ = some (.string a2) ∧ (Instr.lookup 121 (.map (some M)) (.string a1) false).run Try.prog W = .ok x W) := ⟨fun W hb => by
            have hqw := (hb.block q10 (Array.getElem?_eq_some_iff.1 HQ.out).1).trans HQ.out
            refine ⟨cell_at hqw 0, cell_at hqw 1, cell_at hqw 2, ?_⟩
            have hlk := run_lookup_my key_string Try.underlying121 (.pointer none) zero125 (HLS7.out.2.2.2.1.step (hb.block M (Array.getElem?_eq_some_iff.1 HLS7.out.2.2.2.1.1).1)) a1
            rw [hx] at hlk
            exact hlk⟩
          have hrl2 : rows[j].length = (varsOf (ats.take i)).length := rows_length es ats i (by omega) rows hrows.out _ (List.getElem_mem _)
          have htl : ixN (varsOf ats) a2 ≤ rows[j].length + 1 := by
            have := (ix_at ats hlt).2.1
            rw [HEK.out] at this
            dsimp only at this
            omega
          have hrl3 : rows[j].length ≤ 100000 := by
            have h1 := varsOf_length (ats.take i)
            rw [List.length_take] at h1
            omega
          have hpl : (pairsOf es a1).length ≤ 100000 := Nat.le_trans (pairsOf_length _ _) (by omega)
          have hcall : ∀ W, Below w7.heap.size w7 W → AccAt W w7.heap.size w7.heap.size acc → _ := fun W hb hac => extend_calls (f := ixN (varsOf ats) a0) w7 W hb hX HU.out hac hal2 htl hrl3 hpl
          have htk : (rows.take (j + 1)).flatMap (fun r => extM (pairsOf es a1) r (ixN (varsOf ats) a0) (ixN (varsOf ats) a2)) = acc ++ extM (pairsOf es a1) rows[j] (ixN (varsOf ats) a0) (ixN (varsOf ats) a2) := by
            rw [hacc.out, List.take_add_one, List.getElem?_eq_getElem hlt2, List.flatMap_append]
            simp
          have HTK := Aside0.mk htk
          have HCA := Aside0.mk hcall
          have HHX := Aside0.mk hX
          clear htk hcall hX hx hqa hqc hm0 hm2 htl hrl2 hrl3 hpl
          have hdec : acc.length + (extM (pairsOf es a1) rows[j] (ixN (varsOf ats) a0) (ixN (varsOf ats) a2)).length ≤ 3000 ∨ ¬ acc.length + (extM (pairsOf es a1) rows[j] (ixN (varsOf ats) a0) (ixN (varsOf ats) a2)).length ≤ 3000 := Decidable.em _
          generalize extM (pairsOf es a1) rows[j] (ixN (varsOf ats) a0) (ixN (varsOf ats) a2) = ext at *
          rcases hdec with hd | hd
          · have HCC : Aside0 (∀ W, Below w7.heap.size w7 W → AccAt W w7.heap.size w7.heap.size acc → Calls Try.prog 65 #[x, u, .int .i64 (ixN (varsOf ats) a0 : Nat), .int .i64 (ixN (varsOf ats) a2 : Nat), .func (.func 64) #[] #[.pointer (some ⟨w7.heap.size, 0, none⟩)]] W fun e w' => e = .returned (.bool true) ∧ AccAt w' w7.heap.size w7.heap.size (acc ++ ext) ∧ Below w7.heap.size w7 w') := ⟨fun W hb hac => (HCA.out W hb hac).mono (fun e w' h => ⟨by rw [h.1, decide_eq_true hd], h.2.1 hd, h.2.2⟩)⟩
            have HD := Aside0.mk hd
            clear hd HCA
            go_upto_region 13 with fail
            go_region_held3 (fun W => W.cell? ⟨q10, 0, none⟩ = some (.string a0) ∧ W.cell? ⟨q10, 1, none⟩ = some (.string a1) ∧ W.cell? ⟨q10, 2, none⟩ = some (.string a2) ∧ (Instr.lookup 121 (.map (some M)) (.string a1) false).run Try.prog W = .ok x W) ((first | exact HS.out _ (by assumption) | exact HS.out _ (below_drew hBs.out) | exact HS.out _ (pw_below_drewN hBs.out _))) ((first | (go_at_call 66; (with_reducible refine (slices_Index_string_string.calls qa Av cv (varsOf ats) a0 _ _ (Kd.C_below HVC7.out.2 ?side1) HVC7.out.1 HQA.out).mono ?_); (case side1 => first | exact below_drew hBs.out | exact pw_below_drewN hBs.out _); rintro e w9 ⟨rfl, n9, rfl⟩) | (go_at_call 66; (with_reducible refine (slices_Index_string_string.calls qc Av cv (varsOf ats) a2 _ _ (Kd.C_below HVC7.out.2 ?side1) HVC7.out.1 HQC.out).mono ?_); (case side1 => first | exact below_drew hBs.out | exact pw_below_drewN hBs.out _); rintro e w9 ⟨rfl, n9, rfl⟩) | (go_at_call 65; (with_reducible refine (HCC.out _ ?side1 ?side2).mono ?_); (case side1 => exact pw_below_drewN hBs.out _); (case side2 => exact hA.out); rintro e w10 ⟨rfl, hA10, hB10⟩)))
            all_goals
              go_wp2_with fail
              have hrl9 := hrl.out
              go_roundg (rows.length - (j + 1))
              case measure => omega
              case rel =>
                refine ⟨j + 1, acc ++ ext, by omega, Nat.le_refl _, ?_, ⟨HTK.out.symm⟩, by rw [List.length_append]; exact HD.out, ⟨hA10⟩, ⟨hB10⟩⟩
                exact congrArg (Value.int .i64) (wrap_succ j rows.length hlt2 (by omega))
          · have HCC : Aside0 (∀ W, Below w7.heap.size w7 W → AccAt W w7.heap.size w7.heap.size acc → Calls Try.prog 65 #[x, u, .int .i64 (ixN (varsOf ats) a0 : Nat), .int .i64 (ixN (varsOf ats) a2 : Nat), .func (.func 64) #[] #[.pointer (some ⟨w7.heap.size, 0, none⟩)]] W fun e w' => e = .returned (.bool false) ∧ True ∧ Below w7.heap.size w7 w') := ⟨fun W hb hac => (HCA.out W hb hac).mono (fun e w' h => ⟨by rw [h.1, decide_eq_false hd], trivial, h.2.2⟩)⟩
            have HD := Aside0.mk hd
            clear hd HCA
            go_upto_region 13 with fail
            go_region_held3 (fun W => W.cell? ⟨q10, 0, none⟩ = some (.string a0) ∧ W.cell? ⟨q10, 1, none⟩ = some (.string a1) ∧ W.cell? ⟨q10, 2, none⟩ = some (.string a2) ∧ (Instr.lookup 121 (.map (some M)) (.string a1) false).run Try.prog W = .ok x W) ((first | exact HS.out _ (by assumption) | exact HS.out _ (below_drew hBs.out) | exact HS.out _ (pw_below_drewN hBs.out _))) ((first | (go_at_call 66; (with_reducible refine (slices_Index_string_string.calls qa Av cv (varsOf ats) a0 _ _ (Kd.C_below HVC7.out.2 ?side1) HVC7.out.1 HQA.out).mono ?_); (case side1 => first | exact below_drew hBs.out | exact pw_below_drewN hBs.out _); rintro e w9 ⟨rfl, n9, rfl⟩) | (go_at_call 66; (with_reducible refine (slices_Index_string_string.calls qc Av cv (varsOf ats) a2 _ _ (Kd.C_below HVC7.out.2 ?side1) HVC7.out.1 HQC.out).mono ?_); (case side1 => first | exact below_drew hBs.out | exact pw_below_drewN hBs.out _); rintro e w9 ⟨rfl, n9, rfl⟩) | (go_at_call 65; (with_reducible refine (HCC.out _ ?side1 ?side2).mono ?_); (case side1 => exact pw_below_drewN hBs.out _); (case side2 => exact hA.out); rintro e w10 ⟨rfl, hA10, hB10⟩)))
            all_goals
              go_wp2_with fail
              go_ret2
              have hnone : allRows (varsOf ats) es ats [[]] = none := by
                refine allRows_none (k := i + 1) _ _ _ ?_
                rw [allRows_succ _ _ _ hlt hrows.out, HEK.out]
                refine if_neg (fun hle => HD.out ?_)
                have h5 : ((rows.take (j + 1)).flatMap (fun r => extM (pairsOf es a1) r (ixN (varsOf ats) a0) (ixN (varsOf ats) a2))).length ≤ (nextRows (varsOf ats) es ⟨a0, a1, a2⟩ rows).length := by
                  have e : nextRows (varsOf ats) es ⟨a0, a1, a2⟩ rows = (rows.take (j + 1)).flatMap (fun r => extM (pairsOf es a1) r (ixN (varsOf ats) a0) (ixN (varsOf ats) a2)) ++ (rows.drop (j + 1)).flatMap (fun r => extM (pairsOf es a1) r (ixN (varsOf ats) a0) (ixN (varsOf ats) a2)) := by
                    rw [← List.flatMap_append, List.take_append_drop]
                    rfl
                  rw [e, List.length_append]
                  omega
                rw [HTK.out, List.length_append] at h5
                omega
              show RowsPost w _ _ _
              rw [hnone]
              exact ⟨rfl, (HBW.out.trans (HB7.out.mono HBW.out.size)).trans (hB10.mono (HBW.out.trans (HB7.out.mono HBW.out.size)).size)⟩
        · have hjj : j = rows.length := by omega
          subst hjj
          obtain ⟨hb0, vn, us, hBc, hown, hTu⟩ := hA.out
          have hcn : wr.cell? ⟨w7.heap.size, 0, none⟩ = some vn := cell_at hBc 0
          have HTU : Aside0 (TupsAt wr (fun _ => True) vn acc) := ⟨hTu.ofOwn hown (fun _ _ => trivial)⟩
          clear hBc hown hTu hb0
          go_wp2_with fail
          go_roundg (ats.length - (i + 1))
          case measure => omega
          case rel =>
            have hnx : acc = nextRows (varsOf ats) es ⟨a0, a1, a2⟩ rows := by rw [hacc.out, List.take_length]; rfl
            refine ⟨i + 1, acc, by omega, Nat.le_refl _, by go_num, ⟨?_⟩, HTU, ⟨hal2⟩, ⟨HB7.out.trans (hBs.out.mono HB7.out.size)⟩⟩
            rw [allRows_succ _ _ _ hlt hrows.out, HEK.out, ← hnx, if_pos hal2]
    · have hii : i = ats.length := by omega
      subst hii
      have hall := hrows.out
      rw [List.take_length] at hall
      have hrw : ∀ xs ∈ rows, xs.length ≤ 1000000 := fun xs hxs => by
        have h1 := rows_length es ats ats.length (Nat.le_refl _) rows hrows.out xs hxs
        have h2 := varsOf_length (ats.take ats.length)
        rw [List.length_take] at h2
        omega
      have HRW := Aside0.mk hrw
      clear hrw
      go_wp2_with (go_at_call 67; (with_reducible refine (set_calls _ hT.out (by have := hrl.out; omega) HRW.out).mono ?_); rintro e w6 ⟨⟨v', ys, rfl, hys, hty⟩, hb6⟩)
      go_ret2
      show RowsPost w _ _ _
      rw [hall]
      refine ⟨⟨v', ys, rfl, hys, hty.okmono (fun k hk _ => ?_)⟩, (HBW.out.trans (hBr.out.mono HBW.out.size)).trans (hb6.mono (HBW.out.trans (hBr.out.mono HBW.out.size)).size)⟩
      exact Nat.le_trans (HBW.out.trans (hBr.out.mono HBW.out.size)).size hk
end Go.Proofs.Ytcchcifcfcpjiaa.J
