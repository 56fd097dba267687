/- span.next: the walk. -/
import Derived.Test.YtcchcifcfcpjiaaSN
import Derived.Test.YtcchcifcfcpjiaaSQ
import Derived.Test.YtcchcifcfcpjiaaJR
import Derived.Test.YtcchcifcfcpjiaaJL2
import Derived.Test.YtcchcifcfcpjiaaJK
set_option linter.unusedVariables false
set_option linter.unusedSimpArgs false
namespace Go.Proofs.Ytcchcifcfcpjiaa.J
open Go.RowKit Go.Proofs.YtcchcifcfcpjiaaW.PrintWords Go.Proofs.YtcchcifcfcpjiaaW.PrintLast Go.Proofs.YtcchcifcfcpjiaaW.PrintMore Go.Proofs.Ytcchcifcfcpjiaa.PJ

set_option maxRecDepth 100000 in
set_option maxHeartbeats 4000000 in
theorem next_calls (w : World) {lab : ByteArray} {A : Option Addr} {c : Nat} {es : List S82} (hC : Kd.C k82 w A es.length es) (hl : es.length ≤ 1000) :
    Calls Try.prog 82 #[.string lab, .slice A es.length c] w fun e w' => ∃ l cM, e = .returned (.map (some w.heap.size)) ∧ Adj w.heap.size w' w.heap.size l cM (fun a => norm (outs lab es a)) ∧ Below w.heap.size w w' := by
  have HC := Aside0.mk hC
  clear hC
  have hmm := @run_makeMap Try.prog
  go_enter Try.func82, Try.ntmps82
  go_wp2_with fail
  clear hmm
  go_loopg [13] es.length (fun gk s13 wr => ∃ (k : Nat) (l : List (Int × Value × Nat)) (cM : Nat), k ≤ es.length ∧ es.length - k ≤ gk ∧ s13 = .int .i64 k ∧ Aside0 (Adj w.heap.size wr w.heap.size l cM (outs lab (es.take k))) ∧ Aside0 (Below w.heap.size w wr))
  case atStart => exact ⟨0, [], 0, Nat.zero_le _, by omega, rfl, ⟨Adj.new w⟩, ⟨below_alloc (Below.refl _ _) _⟩⟩
  case round =>
    obtain ⟨k, l, cM, hk, hgk, rfl, hA, hB⟩ := hrel
    by_cases hlt : k < es.length
    · obtain ⟨ad, had, hd0, hd1, hd2⟩ := at_T82 (Kd.C_below HC.out hB.out) (k : Int) (by omega) (by omega)
      rw [rd82_at es k hlt] at hd0 hd1 hd2
      rw [Int.toNat_natCast] at hd0 hd1 hd2
      subst had
      have i3 : (k : Int) < (es.length : Int) := by omega
      have i0 : (0 : Int) ≤ (k : Int) := by omega
      have HTK : Aside0 (∀ a, outs lab (es.take (k + 1)) a = outs lab (es.take k) a ++ (if es[k].f1 = lab ∧ es[k].f0 = a then [es[k].f2] else [])) := ⟨fun a => outs_take lab es a hlt⟩
      generalize es[k] = ed at *
      obtain ⟨f0, f1, f2⟩ := ed
      simp only at hd0 hd1 hd2
      go_upto_region 5 with fail
      have HA5 : Aside0 (Adj w.heap.size (wr.alloc (.cells #[Value.int .i64 f0, .string f1, .int .i64 f2] 82)) w.heap.size l cM (outs lab (es.take k))) := ⟨hA.out.below (below_alloc (Below.refl _ _) _)⟩
      have HB5 : Aside0 (Below w.heap.size w (wr.alloc (.cells #[Value.int .i64 f0, .string f1, .int .i64 f2] 82))) := ⟨below_alloc hB.out _⟩
      have hq5 : (wr.alloc (.cells #[Value.int .i64 f0, .string f1, .int .i64 f2] 82)).heap[wr.heap.size]? = some (.cells #[Value.int .i64 f0, .string f1, .int .i64 f2] 82 (0, 0)) := heap_alloc_new _ _
      have HQ5 := Aside0.mk hq5
      have hsz5 : w.heap.size ≤ wr.heap.size := hB.out.size
      have HSZ5 := Aside0.mk hsz5
      clear hd0 hd1 hd2 hA hB hsz5 hq5
      generalize wr.alloc (.cells #[Value.int .i64 f0, .string f1, .int .i64 f2] 82) = w1 at *
      generalize wr.heap.size = q5 at *
      have hq1 : w1.cell? ⟨q5, 1, none⟩ = some (.string f1) := cell_at HQ5.out 1
      by_cases hlab : f1 = lab
      · have b0 : (f1.toList == lab.toList) = true := by rw [hlab]; simp
        have b1 : (f1.toList != lab.toList) = false := by rw [hlab]; simp
        have HTE : Aside0 (∀ a, outs lab (es.take (k + 1)) a = if a = f0 then outs lab (es.take k) f0 ++ [f2] else outs lab (es.take k) a) := ⟨fun a => by
          rw [HTK.out a]
          by_cases h : a = f0
          · rw [if_pos h, if_pos ⟨hlab, h.symm⟩, h]
          · rw [if_neg h, if_neg (fun h2 => h h2.2.symm), List.append_nil]⟩
        clear hlab
        go_upto_region 6 with fail
        clear hq1 b0 b1
        have hs0 : w1.cell? ⟨q5, 0, none⟩ = some (.int .i64 f0) := cell_at HQ5.out 0
        have hs2 : w1.cell? ⟨q5, 2, none⟩ = some (.int .i64 f2) := cell_at HQ5.out 2
        have hown := HA5.out.2.2.2.2.1 f0
        obtain ⟨Au, cu, hu⟩ : ∃ A c, valOf f0 l = .slice A (outs lab (es.take k) f0).length c := own_slice hown
        have HU := Aside0.mk hu
        have HN0 : Aside0 ((outs lab (es.take k) f0).length ≤ 1000) := ⟨Nat.le_trans (outs_length _ _ _) (by rw [List.length_take]; omega)⟩
        have hlk := run_lookup_my (w := w1.drew) key_int Try.underlying137 (.slice none 0 0) zero66 (HA5.out.1.step rfl) f0
        change (Instr.lookup 137 (.map (some w.heap.size)) (.int .i64 f0) false).run Try.prog w1.drew = .ok (valOf f0 l) w1.drew at hlk
        rw [hu] at hlk hown
        have HOWN := Aside0.mk hown
        clear hown hu
        refine wp_region_pop (S := fun W => W.cell? ⟨q5, 0, none⟩ = some (.int .i64 f0) ∧ W.cell? ⟨q5, 2, none⟩ = some (.int .i64 f2) ∧ (Instr.lookup 137 (.map (some w.heap.size)) (.int .i64 f0) false).run Try.prog W = .ok (.slice Au (outs lab (es.take k) f0).length cu) W) (by dsimp only [List.dropLast]) (by dsimp only [List.getLast?, List.getLast]) (by kernel_rfl) (by kernel_rfl) ⟨hs0, hs2, hlk⟩ (fun hHeld => ?_)
        simp only [List.size_toArray, List.length_cons, List.length_nil]
        refine wpAnyH_take (i := 0) (v := (.map (some w.heap.size))) rfl (by kernel_rfl) (by kernel_rfl) (by kernel_rfl) (fun _ _ _ h => h) (Or.inl ⟨by rfl, ?hy0⟩) hHeld ?_
        case hy0 =>
          intro W hW
          obtain ⟨e1, e2, e3⟩ := hW
          go_simp
        simp only [Act.put, List.setIfInBounds_toArray, List.set_cons_zero, List.set_cons_succ]
        refine wpAnyH_take (i := 1) (v := (.pointer (some ⟨q5, 0, none⟩))) rfl (by kernel_rfl) (by kernel_rfl) (by kernel_rfl) (fun _ _ _ h => h) (Or.inl ⟨by rfl, ?hy1⟩) hHeld ?_
        case hy1 =>
          intro W hW
          obtain ⟨e1, e2, e3⟩ := hW
          go_simp
        simp only [Act.put, List.setIfInBounds_toArray, List.set_cons_zero, List.set_cons_succ]
        refine wpAnyH_take (i := 2) (v := (.int .i64 f0)) rfl (by kernel_rfl) (by kernel_rfl) (by kernel_rfl) (fun _ _ _ h => h) (Or.inl ⟨by rfl, ?hy2⟩) hHeld ?_
        case hy2 =>
          intro W hW
          obtain ⟨e1, e2, e3⟩ := hW
          go_simp
        simp only [Act.put, List.setIfInBounds_toArray, List.set_cons_zero, List.set_cons_succ]
        refine wpAnyH_take (i := 3) (v := (.map (some w.heap.size))) rfl (by kernel_rfl) (by kernel_rfl) (by kernel_rfl) (fun _ _ _ h => h) (Or.inl ⟨by rfl, ?hy3⟩) hHeld ?_
        case hy3 =>
          intro W hW
          obtain ⟨e1, e2, e3⟩ := hW
          go_simp
        simp only [Act.put, List.setIfInBounds_toArray, List.set_cons_zero, List.set_cons_succ]
        refine wpAnyH_take (i := 4) (v := (.pointer (some ⟨q5, 0, none⟩))) rfl (by kernel_rfl) (by kernel_rfl) (by kernel_rfl) (fun _ _ _ h => h) (Or.inl ⟨by rfl, ?hy4⟩) hHeld ?_
        case hy4 =>
          intro W hW
          obtain ⟨e1, e2, e3⟩ := hW
          go_simp
        simp only [Act.put, List.setIfInBounds_toArray, List.set_cons_zero, List.set_cons_succ]
        refine wpAnyH_take (i := 5) (v := (.int .i64 f0)) rfl (by kernel_rfl) (by kernel_rfl) (by kernel_rfl) (fun _ _ _ h => h) (Or.inl ⟨by rfl, ?hy5⟩) hHeld ?_
        case hy5 =>
          intro W hW
          obtain ⟨e1, e2, e3⟩ := hW
          go_simp
        simp only [Act.put, List.setIfInBounds_toArray, List.set_cons_zero, List.set_cons_succ]
        refine wpAnyH_take (i := 6) (v := (.slice Au (outs lab (es.take k) f0).length cu)) rfl (by kernel_rfl) (by kernel_rfl) (by kernel_rfl) (fun _ _ _ h => h) (Or.inl ⟨by rfl, ?hy6⟩) hHeld ?_
        case hy6 =>
          intro W hW
          obtain ⟨e1, e2, e3⟩ := hW
          go_simp
        simp only [Act.put, List.setIfInBounds_toArray, List.set_cons_zero, List.set_cons_succ]
        refine wpAnyH_take (i := 7) (v := (.pointer (some ⟨q5, 2, none⟩))) rfl (by kernel_rfl) (by kernel_rfl) (by kernel_rfl) (fun _ _ _ h => h) (Or.inl ⟨by rfl, ?hy7⟩) hHeld ?_
        case hy7 =>
          intro W hW
          obtain ⟨e1, e2, e3⟩ := hW
          go_simp
        simp only [Act.put, List.setIfInBounds_toArray, List.set_cons_zero, List.set_cons_succ]
        refine wpAnyH_take (i := 8) (v := (.int .i64 f2)) rfl (by kernel_rfl) (by kernel_rfl) (by kernel_rfl) (fun _ _ _ h => h) (Or.inl ⟨by rfl, ?hy8⟩) hHeld ?_
        case hy8 =>
          intro W hW
          obtain ⟨e1, e2, e3⟩ := hW
          go_simp
        simp only [Act.put, List.setIfInBounds_toArray, List.set_cons_zero, List.set_cons_succ]
        refine wpAnyH_ready (rs := [9]) (by kernel_rfl) (by simp) (AllReadyH.cons rfl (fun K hK => ?_) AllReadyH.nil)
        go_simp
        have hB9 : Below w1.heap.size w1 (w1.alloc (.cells #[Value.int .i64 f2] 3)).drew := (below_alloc (Below.refl _ _) _).drew
        have hq9 : (w1.alloc (.cells #[Value.int .i64 f2] 3)).drew.heap[w1.heap.size]? = some (.cells #[Value.int .i64 f2] 3 (0, 0)) := heap_alloc_new _ _
        generalize (w1.alloc (.cells #[Value.int .i64 f2] 3)).drew = w9 at *
        have HA9 : Aside0 (Adj w.heap.size w9 w.heap.size l cM (outs lab (es.take k))) := ⟨HA5.out.below hB9⟩
        have HB9 : Aside0 (Below w.heap.size w w9) := ⟨HB5.out.trans (hB9.mono HB5.out.size)⟩
        have hlk9 := run_lookup_my (w := w9) key_int Try.underlying137 (.slice none 0 0) zero66 HA9.out.1 f0
        change (Instr.lookup 137 (.map (some w.heap.size)) (.int .i64 f0) false).run Try.prog w9 = .ok (valOf f0 l) w9 at hlk9
        rw [HU.out] at hlk9
        refine hK.out _ _ ⟨pw_cell_below hB9 hs0, pw_cell_below hB9 hs2, hlk9⟩ (fun hHeld => ?_)
        clear hK K
        have HU9 := Aside0.mk (pw_own_below HOWN.out hB9)
        have HQ9 : Aside0 (w9.heap[q5]? = _) := ⟨(hB9.block _ (Array.getElem?_eq_some_iff.1 HQ5.out).1).trans HQ5.out⟩
        refine wpAnyH_ready (rs := [10]) (by kernel_rfl) (by simp) (AllReadyH.cons rfl (fun K hK => ?_) AllReadyH.nil)
        obtain ⟨i3_, hi0_, hi1_, hi2_, hi3_⟩ := info_parts info3
        refine step_append_lies _ (by rfl) _ _ _ (by rfl) w.heap.size 3 i3_ _ 1 8 Try.underlying66 hi0_ hi1_ hi2_ hi3_ rfl (by omega) _ _ _ (by rfl) HU9.out ⟨w1.heap.size, 0, none⟩ 1 1 [.int .i64 f2] (by rfl) (by rfl) (World.news_of_block hq9) (by simp [Value.oneCell']) (by omega) (by have := HN0.out; simp only [maxLen]; omega) (by have := HN0.out; omega) HB9.out.size w9.heap.size rfl ?_
        intro g10 c10 w10 ho10 hg10 hat10 hlt10
        have lt9 := fun {j : Nat} {o : Obj} (hk : w9.heap[j]? = some o) => (Array.getElem?_eq_some_iff.1 hk).1
        have HQ10 : Aside0 (w10.heap[q5]? = _) := ⟨(hg10.block _ (lt9 HQ9.out) (own_ne_ty HU9.out HQ9.out (by decide))).trans HQ9.out⟩
        have HM10 : Aside0 (MapIs (.int .i64) w10 w.heap.size l cM) := ⟨HA9.out.1.step (hg10.block w.heap.size (lt9 HA9.out.1.1) (own_ne_map HU9.out HA9.out.1.1))⟩
        have hlk10 := run_lookup_my (w := w10) key_int Try.underlying137 (.slice none 0 0) zero66 HM10.out f0
        change (Instr.lookup 137 (.map (some w.heap.size)) (.int .i64 f0) false).run Try.prog w10 = .ok (valOf f0 l) w10 at hlk10
        rw [HU.out] at hlk10
        refine hK.out _ _ ⟨cell_at HQ10.out 0, cell_at HQ10.out 2, hlk10⟩ (fun hHeld => ?_)
        clear hK K
        (try simp only [Act.put, List.setIfInBounds_toArray, List.set_cons_zero, List.set_cons_succ])
        have hupd := run_mapUpdate_my key_int Try.underlying137 HM10.out f0 (.slice (some ⟨g10, 0, none⟩) ((outs lab (es.take k) f0).length + 1) c10)
        have HM11 := Aside0.mk (mapIs_put HM10.out f0 (.slice (some ⟨g10, 0, none⟩) ((outs lab (es.take k) f0).length + 1) c10))
        have HG11 : Aside0 (w10.grownBy (setB w10 w.heap.size (.map ((putA f0 (.slice (some ⟨g10, 0, none⟩) ((outs lab (es.take k) f0).length + 1) c10) cM l).map (mkE (.int .i64))).toArray (tick f0 cM l))) (some w.heap.size)) := ⟨setB_grown _⟩
        generalize setB w10 w.heap.size (.map ((putA f0 (.slice (some ⟨g10, 0, none⟩) ((outs lab (es.take k) f0).length + 1) c10) cM l).map (mkE (.int .i64))).toArray (tick f0 cM l)) = w11 at *
        refine wpAnyH_done (by kernel_rfl) ?_ _
        show Oper.wp _ _ _ _ _ _
        (try simp only [Act.put, List.setIfInBounds_toArray, List.set_cons_zero, List.set_cons_succ])
        go_simp
        clear hupd hlk10 hlk9 hlk hHeld hs0 hs2 hi0_
        have HA11 : Aside0 (Adj w.heap.size w11 w.heap.size _ _ (fun a => if a = f0 then outs lab (es.take k) f0 ++ [f2] else outs lab (es.take k) a)) := ⟨Adj.put (u' := .slice (some ⟨g10, 0, none⟩) ((outs lab (es.take k) f0).length + 1) c10) HA9.out (by simp) (by
          rw [nums_append, List.length_append, List.length_singleton]
          exact ho10) (by rw [HU.out]; exact hg10) (by
          rw [HU.out]
          rcases hat10 with h | h
          · exact .inl h.symm
          · exact .inr ⟨g10, rfl, by omega⟩) HM11.out HG11.out⟩
        have HB11 : Aside0 (Below w.heap.size w w11) := ⟨pw_below_grown (pw_below_grown HB9.out _ HB9.out.size hg10 (fun j hj => own_base HU9.out j hj)) _ (Nat.le_trans HB9.out.size hg10.size) HG11.out (fun j hj => by injection hj with hj; omega)⟩
        go_wp2_with fail
        go_roundg (es.length - (k + 1))
        case measure => omega
        case rel =>
          refine ⟨k + 1, _, _, by omega, Nat.le_refl _, ?_, ⟨HA11.out.congr (fun a => (HTE.out a).symm)⟩, HB11⟩
          first | exact congrArg (Value.int .i64) (wrap_succ k es.length hlt (by omega)) | exact congrArg (Value.int .i64) (by omega)
      · have b0 : (f1.toList == lab.toList) = false := beq_eq_false_iff_ne.2 (fun h => hlab (bytes_eq.1 h))
        have b1 : (f1.toList != lab.toList) = true := bne_iff_ne.2 (fun h => hlab (bytes_eq.1 h))
        go_wp2_with fail
        go_roundg (es.length - (k + 1))
        case measure => omega
        case rel =>
          refine ⟨k + 1, l, cM, by omega, Nat.le_refl _, ?_, ⟨HA5.out.congr (fun a => ?_)⟩, HB5⟩
          · first | exact congrArg (Value.int .i64) (wrap_succ k es.length hlt (by omega)) | exact congrArg (Value.int .i64) (by omega)
          · rw [HTK.out a, if_neg (fun h => hlab h.1), List.append_nil]
    · have hkk : k = es.length := by omega
      subst hkk
      rw [List.take_length] at hA
      have HLen : Aside0 (∀ a, (outs lab es a).length ≤ 1000000) := ⟨fun a => Nat.le_trans (outs_length lab es a) (by omega)⟩
      obtain ⟨w2, hrun, hRG, hB2, hsz2⟩ := run_range_my (P := Try.prog) Try.underlying137 hA.out.1
      have hH := Aside0.mk (Half.start (hA.out.below hB2) hRG)
      have hB := Aside0.mk (hB.out.trans (hB2.mono hB.out.size))
      have hRl : w.heap.size ≤ wr.heap.size := by have := hA.out.1; have := (Array.getElem?_eq_some_iff.1 this.1).1; omega
      clear hRG hA hB2 hsz2 hk
      go_wp2_with fail
      clear hrun
      generalize wr.heap.size = R at *
      go_loopg [35] l.length (fun gk s35 w3 => Aside0 (Half w.heap.size w3 w.heap.size R (outs lab es) gk) ∧ Aside0 (Below w.heap.size w w3))
      case atStart => exact ⟨hH, hB⟩
      case round =>
        obtain ⟨hH3, hB3⟩ := hrel
        rcases half_round (P := Try.prog) hH3.out HLen.out 0 with ⟨hrun, l2, c2, hA2⟩ | ⟨a, v, w1, hpos, hrun, hg1, hent, ho1, hK1⟩
        · have HA2 := Aside0.mk hA2
          clear hA2 hH3
          go_wp2_with fail
          go_ret
          exact ⟨l2, c2, rfl, HA2.out, hB3.out⟩
        · have HK1 := Aside0.mk hK1
          have hB1 := Aside0.mk (pw_below_grown hB3.out _ hB3.out.size hg1 (fun j hj => by injection hj with hj; omega))
          have HRun := Aside0.mk hrun
          have HO1 := Aside0.mk ho1
          clear hK1 hg1 hH3 hB3 ho1
          go_wp2_with fail
          refine (sortI_calls w1 HO1.out (HLen.out a)).mono ?_
          rintro e w2 ⟨rfl, ho2, hg2⟩
          have HO2 := Aside0.mk ho2
          have HG2 := Aside0.mk hg2
          have hB2 := Aside0.mk (pw_below_grown hB1.out _ hB1.out.size hg2 (fun j hj => own_base HO1.out j hj))
          clear ho2 hg2 HO1 hrun hent
          go_wp2_with fail
          have hsl : (outs lab es a).length = (sortI (outs lab es a)).length := by simp [sortI]
          refine (compactI_calls w2 (hsl ▸ HO2.out) (by rw [← hsl]; exact HLen.out a)).mono ?_
          rintro e w3 ⟨v3, rfl, ho3, hv3, hg3⟩
          have hB3 := Aside0.mk (pw_below_grown hB2.out _ hB2.out.size hg3 (fun j hj => own_base HO2.out j hj))
          obtain ⟨l3, c3, hM3, hH3⟩ := HK1.out w3 (HG2.out.trans hg3) v3 ho3 hv3
          have hupd := run_mapUpdate_my key_int Try.underlying137 hM3 a v3
          have HH3 := Aside0.mk hH3
          clear hH3 HG2 ho3 hg3 HO2
          have hB4 : Aside0 (Below w.heap.size w (setB w3 w.heap.size (.map ((putA a v3 c3 l3).map (mkE (.int .i64))).toArray (tick a c3 l3)))) := ⟨pw_below_grown hB3.out (some w.heap.size) hB3.out.size (setB_grown _) (fun j hj => by injection hj with hj; omega)⟩
          go_wp2_with fail
          go_roundg (gk - 1)
          case measure => omega
          case rel => exact ⟨HH3, hB4⟩
end Go.Proofs.Ytcchcifcfcpjiaa.J
