/- join.byLabel. -/
import Derived.Test.YtcchcifcfcpjiaaJL
import Derived.Test.YtcchcifcfcpjiaaJR
import Derived.Test.YtcchcifcfcpjiaaJX3
set_option linter.unusedVariables false
set_option linter.unusedSimpArgs false
namespace Go.Proofs.Ytcchcifcfcpjiaa.J
open Go.RowKit Go.Proofs.YtcchcifcfcpjiaaW.PrintWords Go.Proofs.YtcchcifcfcpjiaaW.PrintLast Go.Proofs.YtcchcifcfcpjiaaW.PrintMore Go.Proofs.Ytcchcifcfcpjiaa.PJ

theorem zero125 : ∀ w, (zeroValue 125).run Try.prog w = .ok (.pointer none) w := fun w => Try.zeroValue125 w

/-- A map is turned; what is no map is as it was. -/
theorem grown_cells {w w' : World} {b : Nat} {es : Array MapEntry} {cl : Nat} (hg : w.grownBy w' (some b)) (hb : w.heap[b]? = some (.map es cl)) {j t : Nat} {c : Array Value} {f : Nat × Nat} (hj : w.heap[j]? = some (.cells c t f)) : w'.heap[j]? = some (.cells c t f) :=
  (hg.block j (Array.getElem?_eq_some_iff.1 hj).1 (fun e => by injection e with e; rw [e, hb] at hj; cases hj)).trans hj
theorem cell_at {w : World} {j t : Nat} {c : Array Value} {f : Nat × Nat} (hj : w.heap[j]? = some (.cells c t f)) (i : Nat) : w.cell? ⟨j, i, none⟩ = c[i]? := by simp only [World.cell?, hj]; rfl
theorem own_ne_ty {w : World} {base n e B t size : Nat} {v : Value} {us : List Value} {cells : Array Value} {fr : Nat × Nat} (h : w.ownsRow base e size v n us) (hB : w.heap[B]? = some (.cells cells t fr)) (ht : t ≠ e) : some B ≠ v.ownBlock := fun h2 => by
  obtain ⟨cells', hc⟩ := own_typed h B h2.symm
  rw [hB] at hc
  injection hc with hc
  injection hc with _ hc
  exact ht hc
theorem own_ne_map {w : World} {base n e B size : Nat} {v : Value} {us : List Value} {es : Array MapEntry} {cl : Nat} (h : w.ownsRow base e size v n us) (hB : w.heap[B]? = some (.map es cl)) : some B ≠ v.ownBlock := fun h2 => by
  obtain ⟨cells', hc⟩ := own_typed h B h2.symm
  rw [hB] at hc
  cases hc
theorem set_other (w : World) (B o j : Nat) (u : Value) (h : j ≠ B) : (w.setCell ⟨B, o, none⟩ u).heap[j]? = w.heap[j]? := Below.heap_setCell w ⟨B, o, none⟩ u j h
theorem set_three {w : World} {B t : Nat} {a b c : Value} {fr : Nat × Nat} (h : w.heap[B]? = some (.cells #[a, b, c] t fr)) (u : Value) : (w.setCell ⟨B, 1, none⟩ u).heap[B]? = some (.cells #[a, u, c] t fr) := by
  simp [World.setCell, Array.getElem?_modify, h]
theorem own_apart {w : World} {base base' e e' size size' n n' : Nat} {v v' : Value} {xs xs' : List Value} (h : w.ownsRow base e size v n xs) (h' : w.ownsRow base' e' size' v' n' xs') (hne : e ≠ e') {k : Nat} (hk : v.ownBlock = some k) : some k ≠ v'.ownBlock := by
  obtain ⟨cs, hc⟩ := own_typed h k hk
  exact own_ne_ty h' hc hne
theorem flatP_append (a b : List (Int × Int)) : flatP (a ++ b) = flatP a ++ flatP b := by simp [flatP]
theorem froms_snoc (ps : List (Int × Int)) (x y : Int) : froms (ps ++ [(x, y)]) x = froms ps x ++ [y] := by simp [froms]
theorem froms_other (ps : List (Int × Int)) (x y a : Int) (h : a ≠ x) : froms (ps ++ [(x, y)]) a = froms ps a := by simp [froms, Ne.symm h]
theorem alloc3 (w : World) (o1 o2 o3 : Obj) : (((w.alloc o1).alloc o2).alloc o3).heap[w.heap.size]? = some o1 ∧ (((w.alloc o1).alloc o2).alloc o3).heap[w.heap.size + 1]? = some o2 ∧ (((w.alloc o1).alloc o2).alloc o3).heap[w.heap.size + 1 + 1]? = some o3 ∧ Below w.heap.size w (((w.alloc o1).alloc o2).alloc o3) := by
  refine ⟨?_, ?_, ?_, below_alloc (below_alloc (below_alloc (Below.refl _ _) _) _) _⟩
  · rw [Below.heap_alloc _ _ _ (by simp; omega), Below.heap_alloc _ _ _ (by simp)]
    exact heap_alloc_new w o1
  · rw [Below.heap_alloc _ _ _ (by simp)]
    have := heap_alloc_new (w.alloc o1) o2
    simpa using this
  · have := heap_alloc_new ((w.alloc o1).alloc o2) o3
    simpa using this

theorem info162 : (Try.prog.info? 162).map (fun i => (i.zero, i.size, i.bytes)) = some (some (.agg #[.int .i64 0, .int .i64 0]), 2, 16) := by kernel_rfl

set_option maxRecDepth 100000 in
set_option maxHeartbeats 2000000 in
theorem byLabel_calls (w : World) {A : Option Addr} {c : Nat} {es : List S82} (hC : Kd.C k82 w A es.length es) (hl : es.length ≤ 100000) :
    Calls Try.prog 63 #[.slice A es.length c] w fun e w' => ∃ M lM cM tg, e = .returned (.map (some M)) ∧ LS w w' M es es.length lM cM tg := by
  have HC := Aside0.mk hC
  clear hC
  have hm121 : ∀ w : World, (Instr.makeMap 121 none).run Try.prog w = .ok (.map (some w.heap.size)) (w.alloc (.map #[] 0)) := fun w => run_makeMap (P := Try.prog) _ w
  have hm137 : ∀ w : World, (Instr.makeMap 137 none).run Try.prog w = .ok (.map (some w.heap.size)) (w.alloc (.map #[] 0)) := fun w => run_makeMap (P := Try.prog) _ w
  have hm158 : ∀ w : World, (Instr.makeMap 158 none).run Try.prog w = .ok (.map (some w.heap.size)) (w.alloc (.map #[] 0)) := fun w => run_makeMap (P := Try.prog) _ w
  go_enter Try.func63, Try.ntmps63
  go_wp2_with fail
  go_loopg [6, 11] es.length (fun gk s6 s11 wr => ∃ (k : Nat) (lM : List (ByteArray × Value × Nat)) (cM : Nat) (tg : Nat → Option Role), k ≤ es.length ∧ es.length - k ≤ gk ∧ s11 = .int .i64 k ∧ Aside0 (LS w wr w.heap.size es k lM cM tg))
  case atStart =>
    refine ⟨0, [], 0, fun _ => none, Nat.zero_le _, by omega, rfl, ⟨below_alloc (Below.refl _ _) _, Nat.le_refl _, rfl, mapIs_new w _, (fun j r h => nomatch h), (fun l => .inl ⟨rfl, rfl⟩)⟩⟩
  case round =>
    obtain ⟨k, lM, cM, tg, hk, hgk, rfl, hL⟩ := hrel
    by_cases hlt : k < es.length
    · obtain ⟨ad, had, hd0, hd1, hd2⟩ := at_T82 (Kd.C_below HC.out (hL.out.1)) (k : Int) (by omega) (by omega)
      have hrd : rd_T82 es (k : Int) = es[k] := by unfold rd_T82; rw [Int.toNat_natCast, List.getD_eq_getElem?_getD, List.getElem?_eq_getElem hlt]; rfl
      rw [hrd] at hd0 hd1 hd2
      rw [Int.toNat_natCast] at hd0 hd1 hd2
      subst had
      have HK : Aside0 (∃ e, es[k] = e) := ⟨_, rfl⟩
      have i3 : (k : Int) < (es.length : Int) := by omega
      generalize hek : es[k] = ed at hd0 hd1 hd2
      obtain ⟨f0, f1, f2⟩ := ed
      simp only at hd0 hd1 hd2
      go_upto_region 5 with fail
      have HL2 : Aside0 (LS w (wr.alloc (.cells #[Value.int .i64 f0, .string f1, .int .i64 f2] 82)) w.heap.size es k lM cM tg) := ⟨hL.out.below (below_alloc (Below.refl _ _) _)⟩
      have hq5 : (wr.alloc (.cells #[Value.int .i64 f0, .string f1, .int .i64 f2] 82)).heap[wr.heap.size]? = some (.cells #[Value.int .i64 f0, .string f1, .int .i64 f2] 82 (0, 0)) := heap_alloc_new _ _
      generalize wr.alloc (.cells #[Value.int .i64 f0, .string f1, .int .i64 f2] 82) = wq at *
      generalize wr.heap.size = q5 at *
      have hq1 : wq.cell? ⟨q5, 1, none⟩ = some (.string f1) := by simp [World.cell?, hq5]
      have hlk := run_lookup_my key_string Try.underlying121 (.pointer none) zero125 HL2.out.2.2.2.1 f1
      have hx : ∃ xo : Option Addr, (getA f1 lM).getD (.pointer none) = .pointer xo ∧ ((xo = none ∧ getA f1 lM = none) ∨ ∃ p, xo = some ⟨p, 0, none⟩ ∧ getA f1 lM = some (.pointer (some ⟨p, 0, none⟩))) := by
        rcases HL2.out.2.2.2.2.2 f1 with ⟨h1, _⟩ | ⟨p, h1, _⟩
        · exact ⟨none, by rw [h1]; rfl, .inl ⟨rfl, h1⟩⟩
        · exact ⟨some ⟨p, 0, none⟩, by rw [h1]; rfl, .inr ⟨p, rfl, h1⟩⟩
      obtain ⟨xo, hx1, hx2⟩ := hx
      rw [hx1] at hlk
      have HX := Aside0.mk hx2
      have HQ5 := Aside0.mk hq5
      have hbx : ∀ W : World, (binOp .eql 125 (.pointer xo) (.pointer none)).run Try.prog W = .ok (.bool xo.isNone) W := fun W => by
        cases xo <;> simp [binOp, Op.equal, Op.equalIn, run_underlying Try.underlying125] <;> rfl
      clear hx1 hx2 hq5 hd0 hd1 hd2 hL
      go_upto_if 20 with fail
      clear hlk
      go_cut [6] (fun s6 wx => ∃ (p : Nat) (lM' : List (ByteArray × Value × Nat)) (cM' : Nat) (tg' : Nat → Option Role), s6 = .pointer (some ⟨p, 0, none⟩) ∧ Aside0 (LS w wx w.heap.size es k lM' cM' tg') ∧ Aside0 (getA f1 lM' = some (.pointer (some ⟨p, 0, none⟩))) ∧ Aside0 (wx.heap[q5]? = some (.cells #[Value.int .i64 f0, .string f1, .int .i64 f2] 82 (0, 0))))
      case first => 
        rcases HX.out with ⟨rfl, hno⟩ | ⟨p, rfl, hyes⟩
        · go_upto_region 8 with fail
          obtain ⟨a1, a2, a3, ab⟩ := alloc3 wq (.map #[] 0) (.map #[] 0) (.cells #[.map (some wq.heap.size), .slice none 0 0, .map (some (wq.heap.size + 1))] 161)
          have hq1' := pw_cell_below ab hq1
          have HQ6 : Aside0 _ := ⟨(ab.block q5 (Array.getElem?_eq_some_iff.1 HQ5.out).1).trans HQ5.out⟩
          have hMM : MapIs .string _ w.heap.size lM cM := HL2.out.2.2.2.1.step (ab.block w.heap.size (Array.getElem?_eq_some_iff.1 HL2.out.2.2.2.1.1).1)
          have HMM := Aside0.mk hMM
          have HA1 := Aside0.mk a1
          have HA2 := Aside0.mk a2
          have HA3 := Aside0.mk a3
          have HAB := Aside0.mk ab
          clear a1 a2 a3 ab hMM hq1
          generalize ((wq.alloc (.map #[] 0)).alloc (.map #[] 0)).alloc (.cells #[.map (some wq.heap.size), .slice none 0 0, .map (some (wq.heap.size + 1))] 161) = w3 at *
          go_wp2_with (refine wpList_mapUpdate_my rfl (.tmp 25) (.tmp 27) (.tmp 28) rfl key_string Try.underlying121 rfl HMM.out f1 _ rfl rfl ?_; intro w4 hM4 hg4 _)
          go_meet
          obtain ⟨tg', h1, h2⟩ := LS.fresh HL2.out hno (bf := wq.heap.size) (bh := wq.heap.size + 1) (p := wq.heap.size + 1 + 1) HAB.out (Nat.le_refl _) (by omega) (by omega) (by omega) (by omega) (by omega) ⟨HA1.out, by simp, List.Pairwise.nil⟩ ⟨HA2.out, by simp, List.Pairwise.nil⟩ HA3.out hM4 hg4
          refine ⟨wq.heap.size + 1 + 1, _, _, tg', rfl, ⟨h1⟩, ⟨by rw [getA_put, if_pos rfl]⟩, ⟨?_⟩⟩
          rw [hg4.block q5 (Array.getElem?_eq_some_iff.1 HQ6.out).1 (fun e => by
            injection e with e
            have := HMM.out.1
            rw [← e, HQ6.out] at this
            cases this)]
          exact HQ6.out
        · go_wp2_with fail
          go_meet
          exact ⟨p, lM, cM, tg, rfl, HL2, ⟨hyes⟩, HQ5⟩
      case rest =>
        obtain ⟨p, lM', cM', tg', rfl, hLS, hget, hq5⟩ := hcut
        have hlab : Lab wc tg' f1 p (pairsOf (es.take k) f1) k := by
          rcases hLS.out.2.2.2.2.2 f1 with ⟨h1, _⟩ | ⟨p', h1, h2⟩
          · rw [hget.out] at h1; cases h1
          · rw [hget.out] at h1
            injection h1 with h1
            injection h1 with h1
            injection h1 with h1
            injection h1 with h1
            subst h1
            exact h2
        have HPS : Aside0 (∃ ps, pairsOf (es.take k) f1 = ps) := ⟨_, rfl⟩
        have HLab := Aside0.mk hlab
        obtain ⟨bf, v, bh, lf, cf, lh, ch, t1, t2, t3, t4, t5, t6, t7, t8, t9, t10⟩ := hlab
        obtain ⟨cq, hcq, hcq2, hcq3⟩ := t10 (f0, f2)
        have HT4 := Aside0.mk t4
        have HT7 := Aside0.mk t7
        have HT3 := Aside0.mk t3
        have HT10 := Aside0.mk t10
        have HCQ2 := Aside0.mk hcq2
        have hp0 : wc.cell? ⟨p, 0, none⟩ = some (.map (some bf)) := by simp [World.cell?, t2]
        have hp1 : wc.cell? ⟨p, 1, none⟩ = some v := by simp [World.cell?, t2]
        have hp2 : wc.cell? ⟨p, 2, none⟩ = some (.map (some bh)) := by simp [World.cell?, t2]
        have hc0 : wc.cell? ⟨q5, 0, none⟩ = some (.int .i64 f0) := by simp [World.cell?, hq5.out]
        have hc2 : wc.cell? ⟨q5, 2, none⟩ = some (.int .i64 f2) := by simp [World.cell?, hq5.out]
        have HT2 := Aside0.mk t2
        have HT6 := Aside0.mk t6
        have HT9 := Aside0.mk t9
        have HTG := Aside0.mk (And.intro t1 (And.intro t5 t8))
        clear t1 t2 t3 t4 t5 t6 t7 t8 t9 t10 hcq2 HL2 HX HQ5 hq1 HLab
        go_upto_region 10 with fail
        have hB1 : Below wc.heap.size wc (wc.alloc (.cells #[Value.int .i64 f0, .int .i64 f2] 162)) := below_alloc (Below.refl _ _) _
        have hq7 : (wc.alloc (.cells #[Value.int .i64 f0, .int .i64 f2] 162)).heap[wc.heap.size]? = some (.cells #[Value.int .i64 f0, .int .i64 f2] 162 (0, 0)) := heap_alloc_new _ _
        replace hp0 := pw_cell_below hB1 hp0
        replace hp1 := pw_cell_below hB1 hp1
        replace hp2 := pw_cell_below hB1 hp2
        replace hc0 := pw_cell_below hB1 hc0
        replace hc2 := pw_cell_below hB1 hc2
        have HM1 : Aside0 (MapIs encP _ bh lh ch) := ⟨HT9.out.step (hB1.block bh (Array.getElem?_eq_some_iff.1 HT9.out.1).1)⟩
        have HB1 := Aside0.mk hB1
        have HQ7 := Aside0.mk hq7
        have hs0 : (wc.alloc (.cells #[Value.int .i64 f0, .int .i64 f2] 162)).cell? ⟨wc.heap.size, 0, none⟩ = some (.int .i64 f0) := by simp only [World.cell?, hq7]; rfl
        have hs1 : (wc.alloc (.cells #[Value.int .i64 f0, .int .i64 f2] 162)).cell? ⟨wc.heap.size, 1, none⟩ = some (.int .i64 f2) := by simp only [World.cell?, hq7]; rfl
        clear hB1 hq7
        generalize wc.alloc (.cells #[Value.int .i64 f0, .int .i64 f2] 162) = w1 at *
        obtain ⟨st, w3, hE, hM3, hg3, hsz3, hEs⟩ := run_mapEntry_my (w := w1.drew) key_pair Try.underlying158 (.int .i64 0) zero3 (HM1.out.step rfl) (f0, f2)
        obtain ⟨w4, hE2, hM4, hg4, hsz4⟩ := hEs (.int .i64 ((cq : Int) + 1))
        have hlk := run_lookup_my (w := w1.drew) key_pair Try.underlying158 (.int .i64 0) zero3 (HM1.out.step rfl) (f0, f2)
        have hlk3 := run_lookup_my (w := w3) key_pair Try.underlying158 (.int .i64 0) zero3 hM3 (f0, f2)
        rw [getA_put, if_pos rfl] at hlk3
        rw [hcq] at hlk hlk3 hE
        change (Instr.mapEntry 158 (.map (some bh)) (.agg #[.int .i64 f0, .int .i64 f2])).run Try.prog w1.drew = _ at hE
        have hwc : IntKind.i64.wrap ((cq : Int) + 1) = (cq : Int) + 1 := IntWalk.i64_in _ (by omega)
        refine wp_region_pop (S := fun W => W.cell? ⟨p, 2, none⟩ = some (.map (some bh)) ∧ W.cell? ⟨wc.heap.size, 0, none⟩ = some (.int .i64 f0) ∧ W.cell? ⟨wc.heap.size, 1, none⟩ = some (.int .i64 f2) ∧ (Instr.lookup 158 (.map (some bh)) (.agg #[.int .i64 f0, .int .i64 f2]) false).run Try.prog W = .ok (.int .i64 cq) W) (by dsimp only [List.dropLast]) (by dsimp only [List.getLast?, List.getLast]) (by kernel_rfl) (by kernel_rfl) ⟨hp2, hs0, hs1, hlk⟩ (fun hHeld => ?_)
        simp only [List.size_toArray, List.length_cons, List.length_nil]
        refine wpAnyH_take (i := 0) (v := (.pointer (some ⟨p, 0, none⟩))) rfl (by kernel_rfl) (by kernel_rfl) (by kernel_rfl) (fun _ _ _ h => h) (Or.inl ⟨by rfl, ?hy0⟩) hHeld ?_
        case hy0 =>
          intro W hW
          obtain ⟨e1, e2, e3, e4⟩ := hW
          go_simp
        simp only [Act.put, List.setIfInBounds_toArray, List.set_cons_zero, List.set_cons_succ]
        refine wpAnyH_take (i := 1) (v := (.pointer (some ⟨p, 0, none⟩))) rfl (by kernel_rfl) (by kernel_rfl) (by kernel_rfl) (fun _ _ _ h => h) (Or.inl ⟨by rfl, ?hy1⟩) hHeld ?_
        case hy1 =>
          intro W hW
          obtain ⟨e1, e2, e3, e4⟩ := hW
          go_simp
        simp only [Act.put, List.setIfInBounds_toArray, List.set_cons_zero, List.set_cons_succ]
        refine wpAnyH_take (i := 2) (v := (.pointer (some ⟨p, 2, none⟩))) rfl (by kernel_rfl) (by kernel_rfl) (by kernel_rfl) (fun _ _ _ h => h) (Or.inl ⟨by rfl, ?hy2⟩) hHeld ?_
        case hy2 =>
          intro W hW
          obtain ⟨e1, e2, e3, e4⟩ := hW
          go_simp
        simp only [Act.put, List.setIfInBounds_toArray, List.set_cons_zero, List.set_cons_succ]
        refine wpAnyH_take (i := 3) (v := (.map (some bh))) rfl (by kernel_rfl) (by kernel_rfl) (by kernel_rfl) (fun _ _ _ h => h) (Or.inl ⟨by rfl, ?hy3⟩) hHeld ?_
        case hy3 =>
          intro W hW
          obtain ⟨e1, e2, e3, e4⟩ := hW
          go_simp
        simp only [Act.put, List.setIfInBounds_toArray, List.set_cons_zero, List.set_cons_succ]
        refine wpAnyH_take (i := 4) (v := (.agg #[.int .i64 f0, .int .i64 f2])) rfl (by kernel_rfl) (by kernel_rfl) (by kernel_rfl) (fun _ _ _ h => h) (Or.inl ⟨by rfl, ?hy4⟩) hHeld ?_
        case hy4 =>
          intro W hW
          obtain ⟨e1, e2, e3, e4⟩ := hW
          go_simp
        simp only [Act.put, List.setIfInBounds_toArray, List.set_cons_zero, List.set_cons_succ]
        refine wpAnyH_take (i := 5) (v := (.int .i64 cq)) rfl (by kernel_rfl) (by kernel_rfl) (by kernel_rfl) (fun _ _ _ h => h) (Or.inl ⟨by rfl, ?hy5⟩) hHeld ?_
        case hy5 =>
          intro W hW
          obtain ⟨e1, e2, e3, e4⟩ := hW
          go_simp
        simp only [Act.put, List.setIfInBounds_toArray, List.set_cons_zero, List.set_cons_succ]
        refine wpAnyH_take (i := 6) (v := (.int .i64 ((cq : Int) + 1))) rfl (by kernel_rfl) (by kernel_rfl) (by kernel_rfl) (fun _ _ _ h => h) (Or.inl ⟨by rfl, ?hy6⟩) hHeld ?_
        case hy6 =>
          intro W hW
          obtain ⟨e1, e2, e3, e4⟩ := hW
          go_simp
        simp only [Act.put, List.setIfInBounds_toArray, List.set_cons_zero, List.set_cons_succ]
        have HP1 : Aside0 _ := ⟨(HB1.out.block p (Array.getElem?_eq_some_iff.1 HT2.out).1).trans HT2.out⟩
        have HP3 := Aside0.mk (grown_cells hg3 HM1.out.1 HP1.out)
        have HQ73 := Aside0.mk (grown_cells hg3 HM1.out.1 HQ7.out)
        refine wpAnyH_ready (rs := [7]) (by kernel_rfl) (by simp) (AllReadyH.cons rfl (fun K hK => ?_) AllReadyH.nil)
        go_simp
        refine hK.out _ _ ⟨cell_at HP3.out 2, cell_at HQ73.out 0, cell_at HQ73.out 1, hlk3⟩ (fun hHeld => ?_)
        clear hK K
        try simp only [Act.put, List.setIfInBounds_toArray, List.set_cons_zero, List.set_cons_succ]
        refine wpAnyH_take (i := 8) (v := (.int .i64 st)) rfl (by kernel_rfl) (by kernel_rfl) (by kernel_rfl) (fun _ _ _ h => h) (Or.inl ⟨by rfl, ?hy8⟩) hHeld ?_
        case hy8 =>
          intro W hW
          obtain ⟨e1, e2, e3, e4⟩ := hW
          go_simp
        simp only [Act.put, List.setIfInBounds_toArray, List.set_cons_zero, List.set_cons_succ]
        refine wpAnyH_done (by kernel_rfl) ?_ _
        show Oper.wp _ _ _ _ _ _
        (try simp only [Act.put, List.setIfInBounds_toArray, List.set_cons_zero, List.set_cons_succ])
        go_simp
        have HP4 := Aside0.mk (grown_cells hg4 HM1.out.1 HP1.out)
        have HQ74 := Aside0.mk (grown_cells hg4 HM1.out.1 HQ7.out)
        have HQ54 : Aside0 _ := ⟨grown_cells hg4 HM1.out.1 ((HB1.out.block q5 (Array.getElem?_eq_some_iff.1 hq5.out).1).trans hq5.out)⟩
        have hlk4 := fun n => run_lookup_my (w := w4.drewN n) key_pair Try.underlying158 (.int .i64 0) zero3 (hM4.step rfl) (f0, f2)
        rw [getA_put, if_pos rfl] at hlk4
        have HM4 := Aside0.mk hM4
        have HG4 := Aside0.mk hg4
        have HSZ4 := Aside0.mk hsz4
        have hp4 : w4.cell? ⟨p, 2, none⟩ = some (.map (some bh)) := cell_at HP4.out 2
        have hs40 : w4.cell? ⟨wc.heap.size, 0, none⟩ = some (.int .i64 f0) := cell_at HQ74.out 0
        have hs41 : w4.cell? ⟨wc.heap.size, 1, none⟩ = some (.int .i64 f2) := cell_at HQ74.out 1
        have HCH : Aside0 (∀ j, j < wc.heap.size → j ≠ bh → w4.heap[j]? = wc.heap[j]?) := ⟨fun j hj hne => (hg4.block j (by have := HB1.out.size; show j < w1.heap.size; omega) (fun e => by injection e with e; exact hne e)).trans (HB1.out.block j hj)⟩
        have HSZ : Aside0 (w4.heap.size = w1.heap.size) := ⟨hsz4⟩
        have HBW : Aside0 (Below w.heap.size w w4) := ⟨(hLS.out.1.trans (HB1.out.mono hLS.out.1.size)).trans ⟨hg4.os, hg4.tape, hg4.output, hg4.size, fun j hj => hg4.block j (by have := hLS.out.1.size; have := HB1.out.size; show j < w1.heap.size; omega) (fun e => by
          injection e with e
          have h1 := hLS.out.2.2.2.2.1 bh _ HTG.out.2.2
          omega)⟩⟩
        clear hE hE2 hEs hM3 hg3 hsz3 hM4 hg4 hsz4 hlk hlk3 HP3 HQ73 hHeld hp0 hp1 hp2 hc0 hc2 hs0 hs1 HG4 HSZ4
        have hkey : encP (f0, f2) = .agg #[.int .i64 f0, .int .i64 f2] := rfl
        rw [hkey] at hlk4
        by_cases hz : cq = 0
        · skip
          have h11 : (cq : Int) + 1 = 1 := by omega
          rw [h11] at hlk4
          have hnm : (f0, f2) ∉ pairsOf (es.take k) f1 := HCQ2.out.1 hz
          have HNM := Aside0.mk hnm
          clear h11 hnm
          go_wp2_with fail
          go_quiet (fail)
          obtain ⟨Av, cv, rfl⟩ := own_slice HT4.out
          have HP5 : Aside0 ((w4.drewN nq).heap[p]? = _) := ⟨HP4.out⟩
          have HQ75 : Aside0 ((w4.drewN nq).heap[wc.heap.size]? = _) := ⟨HQ74.out⟩
          have HQ55 : Aside0 ((w4.drewN nq).heap[q5]? = _) := ⟨HQ54.out⟩
          have HM5 : Aside0 (MapIs encP (w4.drewN nq) bh _ _) := ⟨HM4.out.step rfl⟩
          have HCH5 : Aside0 (∀ j, j < wc.heap.size → j ≠ bh → (w4.drewN nq).heap[j]? = wc.heap[j]?) := ⟨HCH.out⟩
          have HSZ5 : Aside0 ((w4.drewN nq).heap.size = w1.heap.size) := ⟨HSZ.out⟩
          have HBW5 : Aside0 (Below w.heap.size w (w4.drewN nq)) := ⟨pw_below_drewN HBW.out _⟩
          clear HP4 HQ74 HQ54 HM4 HCH HSZ HBW hp4 hs40 hs41 hlk4 hkey
          generalize w4.drewN nq = w5 at *
          have hp51 : w5.cell? ⟨p, 1, none⟩ = some (.slice Av (pairsOf (es.take k) f1).length cv) := cell_at HP5.out 1
          have hs50 : w5.cell? ⟨wc.heap.size, 0, none⟩ = some (.int .i64 f0) := cell_at HQ75.out 0
          have hs51 : w5.cell? ⟨wc.heap.size, 1, none⟩ = some (.int .i64 f2) := cell_at HQ75.out 1
          go_upto_region 12 with fail
          refine wp_region_pop (S := fun W => W.cell? ⟨p, 1, none⟩ = some (.slice Av (pairsOf (es.take k) f1).length cv) ∧ W.cell? ⟨wc.heap.size, 0, none⟩ = some (.int .i64 f0) ∧ W.cell? ⟨wc.heap.size, 1, none⟩ = some (.int .i64 f2)) (by dsimp only [List.dropLast]) (by dsimp only [List.getLast?, List.getLast]) (by kernel_rfl) (by kernel_rfl) ⟨hp51, hs50, hs51⟩ (fun hHeld => ?_)
          simp only [List.size_toArray, List.length_cons, List.length_nil]
          refine wpAnyH_take (i := 0) (v := (.pointer (some ⟨p, 0, none⟩))) rfl (by kernel_rfl) (by kernel_rfl) (by kernel_rfl) (fun _ _ _ h => h) (Or.inl ⟨by rfl, ?hy0⟩) hHeld ?_
          case hy0 =>
            intro W hW
            obtain ⟨e1, e2, e3⟩ := hW
            go_simp
          simp only [Act.put, List.setIfInBounds_toArray, List.set_cons_zero, List.set_cons_succ]
          refine wpAnyH_take (i := 1) (v := (.pointer (some ⟨p, 0, none⟩))) rfl (by kernel_rfl) (by kernel_rfl) (by kernel_rfl) (fun _ _ _ h => h) (Or.inl ⟨by rfl, ?hy1⟩) hHeld ?_
          case hy1 =>
            intro W hW
            obtain ⟨e1, e2, e3⟩ := hW
            go_simp
          simp only [Act.put, List.setIfInBounds_toArray, List.set_cons_zero, List.set_cons_succ]
          refine wpAnyH_take (i := 2) (v := (.pointer (some ⟨p, 0, none⟩))) rfl (by kernel_rfl) (by kernel_rfl) (by kernel_rfl) (fun _ _ _ h => h) (Or.inl ⟨by rfl, ?hy2⟩) hHeld ?_
          case hy2 =>
            intro W hW
            obtain ⟨e1, e2, e3⟩ := hW
            go_simp
          simp only [Act.put, List.setIfInBounds_toArray, List.set_cons_zero, List.set_cons_succ]
          refine wpAnyH_take (i := 3) (v := (.pointer (some ⟨p, 1, none⟩))) rfl (by kernel_rfl) (by kernel_rfl) (by kernel_rfl) (fun _ _ _ h => h) (Or.inl ⟨by rfl, ?hy3⟩) hHeld ?_
          case hy3 =>
            intro W hW
            obtain ⟨e1, e2, e3⟩ := hW
            go_simp
          simp only [Act.put, List.setIfInBounds_toArray, List.set_cons_zero, List.set_cons_succ]
          refine wpAnyH_take (i := 4) (v := (.slice Av (pairsOf (es.take k) f1).length cv)) rfl (by kernel_rfl) (by kernel_rfl) (by kernel_rfl) (fun _ _ _ h => h) (Or.inl ⟨by rfl, ?hy4⟩) hHeld ?_
          case hy4 =>
            intro W hW
            obtain ⟨e1, e2, e3⟩ := hW
            go_simp
          simp only [Act.put, List.setIfInBounds_toArray, List.set_cons_zero, List.set_cons_succ]
          refine wpAnyH_take (i := 5) (v := (.agg #[.int .i64 f0, .int .i64 f2])) rfl (by kernel_rfl) (by kernel_rfl) (by kernel_rfl) (fun _ _ _ h => h) (Or.inl ⟨by rfl, ?hy5⟩) hHeld ?_
          case hy5 =>
            intro W hW
            obtain ⟨e1, e2, e3⟩ := hW
            go_simp
          simp only [Act.put, List.setIfInBounds_toArray, List.set_cons_zero, List.set_cons_succ]
          refine wpAnyH_ready (rs := [6]) (by kernel_rfl) (by simp) (AllReadyH.cons rfl (fun K hK => ?_) AllReadyH.nil)
          go_simp
          have hB6 : Below w5.heap.size w5 (w5.alloc (.cells #[Value.int .i64 f0, .int .i64 f2] 162)).drew := (below_alloc (Below.refl _ _) _).drew
          have hq8 : (w5.alloc (.cells #[Value.int .i64 f0, .int .i64 f2] 162)).drew.heap[w5.heap.size]? = some (.cells #[Value.int .i64 f0, .int .i64 f2] 162 (0, 0)) := heap_alloc_new _ _
          have hs6 : (w5.alloc (.cells #[Value.int .i64 f0, .int .i64 f2] 162)).drew.heap.size = w5.heap.size + 1 := by show (w5.alloc _).heap.size = _; simp
          generalize (w5.alloc (.cells #[Value.int .i64 f0, .int .i64 f2] 162)).drew = w6 at *
          have hp61 := pw_cell_below hB6 hp51
          have hs60 := pw_cell_below hB6 hs50
          have hs61 := pw_cell_below hB6 hs51
          refine hK.out _ _ ⟨hp61, hs60, hs61⟩ (fun hHeld => ?_)
          clear hK K
          have HO5 : Aside0 (w5.ownsRow 0 162 2 (.slice Av (pairsOf (es.take k) f1).length cv) (pairsOf (es.take k) f1).length (flatP (pairsOf (es.take k) f1))) := ⟨own_move HT4.out (fun j hj => HCH5.out j (own_block_lt HT4.out hj) (fun e => by
            have h1 := HT3.out j hj
            rw [e, HTG.out.2.2] at h1
            cases h1))⟩
          have HO6 := Aside0.mk (pw_own_below HO5.out hB6)
          have HPL : Aside0 ((pairsOf (es.take k) f1).length ≤ 100000) := ⟨Nat.le_trans (pairsOf_length _ _) (by rw [List.length_take]; omega)⟩
          refine wpAnyH_ready (rs := [7]) (by kernel_rfl) (by simp) (AllReadyH.cons rfl (fun K hK => ?_) AllReadyH.nil)
          obtain ⟨i0, hi0, hi1, hi2, hi3⟩ := info_parts info162
          refine step_append_lies _ (by rfl) _ _ _ (by rfl) 0 162 i0 _ 2 16 Try.underlying159 hi0 hi1 hi2 hi3 rfl (by omega) _ _ _ (by rfl) HO6.out ⟨w5.heap.size, 0, none⟩ 1 1 [.int .i64 f0, .int .i64 f2] (by rfl) (by rfl) (World.news_of_block hq8) (by simp [Value.oneCell']) (by omega) (by have := HPL.out; simp only [maxLen]; omega) (by have := HPL.out; omega) (by omega) w6.heap.size rfl ?_
          intro g7 c7 w7 ho7 hg7 hat7 hlt7
          have HP6 : Aside0 (w6.heap[p]? = _) := ⟨(hB6.block p (Array.getElem?_eq_some_iff.1 HP5.out).1).trans HP5.out⟩
          have HQ76 : Aside0 (w6.heap[wc.heap.size]? = _) := ⟨(hB6.block _ (Array.getElem?_eq_some_iff.1 HQ75.out).1).trans HQ75.out⟩
          have HQ56 : Aside0 (w6.heap[q5]? = _) := ⟨(hB6.block _ (Array.getElem?_eq_some_iff.1 HQ55.out).1).trans HQ55.out⟩
          have lt6 := fun {j : Nat} {o : Obj} (hk : w6.heap[j]? = some o) => (Array.getElem?_eq_some_iff.1 hk).1
          have HP7 : Aside0 (w7.heap[p]? = _) := ⟨(hg7.block p (lt6 HP6.out) (own_ne_ty HO6.out HP6.out (by decide))).trans HP6.out⟩
          have HQ77 : Aside0 (w7.heap[wc.heap.size]? = _) := ⟨(hg7.block _ (lt6 HQ76.out) (fun e => by
            have := own_block_lt HT4.out e.symm
            omega)).trans HQ76.out⟩
          have HQ57 : Aside0 (w7.heap[q5]? = _) := ⟨(hg7.block _ (lt6 HQ56.out) (own_ne_ty HO6.out HQ56.out (by decide))).trans HQ56.out⟩
          have hp71 : w7.cell? ⟨p, 1, none⟩ = some (.slice Av (pairsOf (es.take k) f1).length cv) := cell_at HP7.out 1
          have hf71 : w7.frozen? ⟨p, 1, none⟩ = false := by simp [World.frozen?, HP7.out]
          refine hK.out _ _ ⟨hp71, cell_at HQ77.out 0, cell_at HQ77.out 1⟩ (fun hHeld => ?_)
          clear hK K
          (try simp only [Act.put, List.setIfInBounds_toArray, List.set_cons_zero, List.set_cons_succ])
          refine wpAnyH_take (i := 8) (v := (.pointer (some ⟨p, 0, none⟩))) rfl (by kernel_rfl) (by kernel_rfl) (by kernel_rfl) (fun _ _ _ h => h) (Or.inl ⟨by rfl, ?hy8⟩) hHeld ?_
          case hy8 =>
            intro W hW
            obtain ⟨e1, e2, e3⟩ := hW
            go_simp
          simp only [Act.put, List.setIfInBounds_toArray, List.set_cons_zero, List.set_cons_succ]
          refine wpAnyH_take (i := 9) (v := (.pointer (some ⟨p, 1, none⟩))) rfl (by kernel_rfl) (by kernel_rfl) (by kernel_rfl) (fun _ _ _ h => h) (Or.inl ⟨by rfl, ?hy9⟩) hHeld ?_
          case hy9 =>
            intro W hW
            obtain ⟨e1, e2, e3⟩ := hW
            go_simp
          simp only [Act.put, List.setIfInBounds_toArray, List.set_cons_zero, List.set_cons_succ]
          refine wpAnyH_done (by kernel_rfl) ?_ _
          show Oper.wp _ _ _ _ _ _
          (try simp only [Act.put, List.setIfInBounds_toArray, List.set_cons_zero, List.set_cons_succ])
          go_simp
          have hne_p : ∀ j, tg' j = some (f1, 0, 0) ∨ j = p → j < wc.heap.size → True := fun _ _ _ => trivial
          have HP8 : Aside0 _ := ⟨set_three HP7.out (.slice (some ⟨g7, 0, none⟩) ((pairsOf (es.take k) f1).length + 1) c7)⟩
          have HQ58 : Aside0 _ := ⟨(set_other w7 p 1 q5 (.slice (some ⟨g7, 0, none⟩) ((pairsOf (es.take k) f1).length + 1) c7) (fun e => by
            have h1 := HP7.out
            rw [← e, HQ57.out] at h1
            injection h1 with h1
            injection h1 with _ h1
            cases h1)).trans HQ57.out⟩
          have HO8 : Aside0 ((w7.setCell ⟨p, 1, none⟩ (.slice (some ⟨g7, 0, none⟩) ((pairsOf (es.take k) f1).length + 1) c7)).ownsRow 0 162 2 _ _ _) := ⟨own_move ho7 (fun j hj => set_other w7 p 1 j _ (fun e => own_ne_ty ho7 HP7.out (by decide) (by rw [hj, e])))⟩
          have HX8 : Aside0 (∀ j, j < wc.heap.size → j ≠ bh → j ≠ p → some j ≠ (Value.slice Av (pairsOf (es.take k) f1).length cv).ownBlock → (w7.setCell ⟨p, 1, none⟩ (.slice (some ⟨g7, 0, none⟩) ((pairsOf (es.take k) f1).length + 1) c7)).heap[j]? = wc.heap[j]?) := ⟨fun j hj h1 h2 h3 => by
            have hs1 := HB1.out.size
            have hz5 := HSZ5.out
            rw [set_other w7 p 1 j _ h2, hg7.block j (by omega) h3, hB6.block j (by omega)]
            exact HCH5.out j hj h1⟩
          have HMF : Aside0 (MapIs encP (w7.setCell ⟨p, 1, none⟩ (.slice (some ⟨g7, 0, none⟩) ((pairsOf (es.take k) f1).length + 1) c7)) bh _ _) := ⟨HM5.out.step (by
            have h1 := (hB6.block bh (Array.getElem?_eq_some_iff.1 HM5.out.1).1).trans HM5.out.1
            rw [set_other w7 p 1 bh _ (fun e => by
              have h2 := HP6.out
              rw [← e, h1] at h2
              cases h2), hg7.block bh (lt6 h1) (own_ne_map HO6.out h1), h1, HM5.out.1])⟩
          have HB8 : Aside0 (Below w.heap.size w (w7.setCell ⟨p, 1, none⟩ (.slice (some ⟨g7, 0, none⟩) ((pairsOf (es.take k) f1).length + 1) c7))) := ⟨by
            have hws := HBW5.out.size
            refine (pw_below_grown (HBW5.out.trans (hB6.mono hws)) _ (by omega) hg7 (fun j hj => ?_)).setCell ?_ _
            · exact (hLS.out.2.2.2.2.1 j _ (HT3.out j hj)).1
            · exact (hLS.out.2.2.2.2.1 p _ HTG.out.1).1⟩
          have HZ8 : Aside0 (w1.heap.size ≤ (w7.setCell ⟨p, 1, none⟩ (.slice (some ⟨g7, 0, none⟩) ((pairsOf (es.take k) f1).length + 1) c7)).heap.size ∧ g7 < (w7.setCell ⟨p, 1, none⟩ (.slice (some ⟨g7, 0, none⟩) ((pairsOf (es.take k) f1).length + 1) c7)).heap.size) := ⟨by
            have := hg7.size
            have hz5 := HSZ5.out
            simp only [World.setCell, Array.size_modify]
            omega⟩
          have HAT : Aside0 ((Value.slice Av (pairsOf (es.take k) f1).length cv).ownBlock = some g7 ∨ wc.heap.size < g7) := ⟨by
            have := HB1.out.size
            have hz5 := HSZ5.out
            have h5 := HQ7.out
            have h6 := (Array.getElem?_eq_some_iff.1 h5).1
            rcases hat7 with h | h
            · exact .inl h
            · exact .inr (by omega)⟩
          clear hne_p hHeld hp71 hf71 hg7 hat7 hlt7 ho7 hp61 hs60 hs61 hq8 hs6 hB6 hp51 hs50 hs51 HP7 HQ57 HQ77 HP6 HQ76 HQ56 lt6 HM5 HP5 HQ75 HQ55 HCH5 HBW5
          generalize w7.setCell ⟨p, 1, none⟩ (.slice (some ⟨g7, 0, none⟩) ((pairsOf (es.take k) f1).length + 1) c7) = w8 at *
          obtain ⟨u, hu1, hu2, hu3⟩ := HT7.out f0
          obtain ⟨Au, cu, rfl⟩ := own_slice hu3
          have lt := fun {j : Nat} {o : Obj} (hk : wc.heap[j]? = some o) => (Array.getElem?_eq_some_iff.1 hk).1
          have HK8 : Aside0 (∀ j r, tg' j = some r → r ≠ (f1, 2, 0) → r ≠ (f1, 0, 0) → r ≠ (f1, 3, 0) → j < wc.heap.size → w8.heap[j]? = wc.heap[j]?) := ⟨fun j r hj h1 h2 h3 hjl => HX8.out j hjl (fun e => by
              rw [e, HTG.out.2.2] at hj; injection hj with hj; exact h1 hj.symm) (fun e => by
              rw [e, HTG.out.1] at hj; injection hj with hj; exact h2 hj.symm) (fun e => by
              rw [HT3.out j e.symm] at hj; injection hj with hj; exact h3 hj.symm)⟩
          have HU8 : Aside0 (w8.ownsRow 0 3 1 (.slice Au (froms (pairsOf (es.take k) f1) f0).length cu) _ _) := ⟨own_move hu3 (fun j hj => HK8.out j _ (hu2 j hj) (by simp) (by simp) (by simp) (own_block_lt hu3 hj))⟩
          have HF8 : Aside0 (MapIs (.int .i64) w8 bf lf cf) := ⟨HT6.out.step (HK8.out bf _ HTG.out.2.1 (by simp) (by simp) (by simp) (lt HT6.out.1))⟩
          have hp80 : w8.cell? ⟨p, 0, none⟩ = some (.map (some bf)) := cell_at HP8.out 0
          have hc80 : w8.cell? ⟨q5, 0, none⟩ = some (.int .i64 f0) := cell_at HQ58.out 0
          have hc82 : w8.cell? ⟨q5, 2, none⟩ = some (.int .i64 f2) := cell_at HQ58.out 2
          have hlk8 := run_lookup_my (w := w8.drew) key_int Try.underlying137 (.slice none 0 0) zero66 (HF8.out.step rfl) f0
          rw [hu1] at hlk8
          have HU2 := Aside0.mk hu2
          have HU1 := Aside0.mk hu1
          clear hu1 hu2 hu3
          go_upto_region 13 with fail
          refine wp_region_pop (S := fun W => W.cell? ⟨p, 0, none⟩ = some (.map (some bf)) ∧ W.cell? ⟨q5, 0, none⟩ = some (.int .i64 f0) ∧ W.cell? ⟨q5, 2, none⟩ = some (.int .i64 f2) ∧ (Instr.lookup 137 (.map (some bf)) (.int .i64 f0) false).run Try.prog W = .ok (.slice Au (froms (pairsOf (es.take k) f1) f0).length cu) W) (by dsimp only [List.dropLast]) (by dsimp only [List.getLast?, List.getLast]) (by kernel_rfl) (by kernel_rfl) ⟨hp80, hc80, hc82, hlk8⟩ (fun hHeld => ?_)
          simp only [List.size_toArray, List.length_cons, List.length_nil]
          refine wpAnyH_take (i := 0) (v := (.pointer (some ⟨p, 0, none⟩))) rfl (by kernel_rfl) (by kernel_rfl) (by kernel_rfl) (fun _ _ _ h => h) (Or.inl ⟨by rfl, ?hy0⟩) hHeld ?_
          case hy0 =>
            intro W hW
            obtain ⟨e1, e2, e3, e4⟩ := hW
            go_simp
          simp only [Act.put, List.setIfInBounds_toArray, List.set_cons_zero, List.set_cons_succ]
          refine wpAnyH_take (i := 1) (v := (.pointer (some ⟨p, 0, none⟩))) rfl (by kernel_rfl) (by kernel_rfl) (by kernel_rfl) (fun _ _ _ h => h) (Or.inl ⟨by rfl, ?hy1⟩) hHeld ?_
          case hy1 =>
            intro W hW
            obtain ⟨e1, e2, e3, e4⟩ := hW
            go_simp
          simp only [Act.put, List.setIfInBounds_toArray, List.set_cons_zero, List.set_cons_succ]
          refine wpAnyH_take (i := 2) (v := (.pointer (some ⟨p, 0, none⟩))) rfl (by kernel_rfl) (by kernel_rfl) (by kernel_rfl) (fun _ _ _ h => h) (Or.inl ⟨by rfl, ?hy2⟩) hHeld ?_
          case hy2 =>
            intro W hW
            obtain ⟨e1, e2, e3, e4⟩ := hW
            go_simp
          simp only [Act.put, List.setIfInBounds_toArray, List.set_cons_zero, List.set_cons_succ]
          refine wpAnyH_take (i := 3) (v := (.map (some bf))) rfl (by kernel_rfl) (by kernel_rfl) (by kernel_rfl) (fun _ _ _ h => h) (Or.inl ⟨by rfl, ?hy3⟩) hHeld ?_
          case hy3 =>
            intro W hW
            obtain ⟨e1, e2, e3, e4⟩ := hW
            go_simp
          simp only [Act.put, List.setIfInBounds_toArray, List.set_cons_zero, List.set_cons_succ]
          refine wpAnyH_take (i := 4) (v := (.pointer (some ⟨q5, 0, none⟩))) rfl (by kernel_rfl) (by kernel_rfl) (by kernel_rfl) (fun _ _ _ h => h) (Or.inl ⟨by rfl, ?hy4⟩) hHeld ?_
          case hy4 =>
            intro W hW
            obtain ⟨e1, e2, e3, e4⟩ := hW
            go_simp
          simp only [Act.put, List.setIfInBounds_toArray, List.set_cons_zero, List.set_cons_succ]
          refine wpAnyH_take (i := 5) (v := (.int .i64 f0)) rfl (by kernel_rfl) (by kernel_rfl) (by kernel_rfl) (fun _ _ _ h => h) (Or.inl ⟨by rfl, ?hy5⟩) hHeld ?_
          case hy5 =>
            intro W hW
            obtain ⟨e1, e2, e3, e4⟩ := hW
            go_simp
          simp only [Act.put, List.setIfInBounds_toArray, List.set_cons_zero, List.set_cons_succ]
          refine wpAnyH_take (i := 6) (v := (.pointer (some ⟨p, 0, none⟩))) rfl (by kernel_rfl) (by kernel_rfl) (by kernel_rfl) (fun _ _ _ h => h) (Or.inl ⟨by rfl, ?hy6⟩) hHeld ?_
          case hy6 =>
            intro W hW
            obtain ⟨e1, e2, e3, e4⟩ := hW
            go_simp
          simp only [Act.put, List.setIfInBounds_toArray, List.set_cons_zero, List.set_cons_succ]
          refine wpAnyH_take (i := 7) (v := (.pointer (some ⟨p, 0, none⟩))) rfl (by kernel_rfl) (by kernel_rfl) (by kernel_rfl) (fun _ _ _ h => h) (Or.inl ⟨by rfl, ?hy7⟩) hHeld ?_
          case hy7 =>
            intro W hW
            obtain ⟨e1, e2, e3, e4⟩ := hW
            go_simp
          simp only [Act.put, List.setIfInBounds_toArray, List.set_cons_zero, List.set_cons_succ]
          refine wpAnyH_take (i := 8) (v := (.pointer (some ⟨p, 0, none⟩))) rfl (by kernel_rfl) (by kernel_rfl) (by kernel_rfl) (fun _ _ _ h => h) (Or.inl ⟨by rfl, ?hy8⟩) hHeld ?_
          case hy8 =>
            intro W hW
            obtain ⟨e1, e2, e3, e4⟩ := hW
            go_simp
          simp only [Act.put, List.setIfInBounds_toArray, List.set_cons_zero, List.set_cons_succ]
          refine wpAnyH_take (i := 9) (v := (.map (some bf))) rfl (by kernel_rfl) (by kernel_rfl) (by kernel_rfl) (fun _ _ _ h => h) (Or.inl ⟨by rfl, ?hy9⟩) hHeld ?_
          case hy9 =>
            intro W hW
            obtain ⟨e1, e2, e3, e4⟩ := hW
            go_simp
          simp only [Act.put, List.setIfInBounds_toArray, List.set_cons_zero, List.set_cons_succ]
          refine wpAnyH_take (i := 10) (v := (.pointer (some ⟨q5, 0, none⟩))) rfl (by kernel_rfl) (by kernel_rfl) (by kernel_rfl) (fun _ _ _ h => h) (Or.inl ⟨by rfl, ?hy10⟩) hHeld ?_
          case hy10 =>
            intro W hW
            obtain ⟨e1, e2, e3, e4⟩ := hW
            go_simp
          simp only [Act.put, List.setIfInBounds_toArray, List.set_cons_zero, List.set_cons_succ]
          refine wpAnyH_take (i := 11) (v := (.int .i64 f0)) rfl (by kernel_rfl) (by kernel_rfl) (by kernel_rfl) (fun _ _ _ h => h) (Or.inl ⟨by rfl, ?hy11⟩) hHeld ?_
          case hy11 =>
            intro W hW
            obtain ⟨e1, e2, e3, e4⟩ := hW
            go_simp
          simp only [Act.put, List.setIfInBounds_toArray, List.set_cons_zero, List.set_cons_succ]
          refine wpAnyH_take (i := 12) (v := (.slice Au (froms (pairsOf (es.take k) f1) f0).length cu)) rfl (by kernel_rfl) (by kernel_rfl) (by kernel_rfl) (fun _ _ _ h => h) (Or.inl ⟨by rfl, ?hy12⟩) hHeld ?_
          case hy12 =>
            intro W hW
            obtain ⟨e1, e2, e3, e4⟩ := hW
            go_simp
          simp only [Act.put, List.setIfInBounds_toArray, List.set_cons_zero, List.set_cons_succ]
          refine wpAnyH_take (i := 13) (v := (.pointer (some ⟨q5, 2, none⟩))) rfl (by kernel_rfl) (by kernel_rfl) (by kernel_rfl) (fun _ _ _ h => h) (Or.inl ⟨by rfl, ?hy13⟩) hHeld ?_
          case hy13 =>
            intro W hW
            obtain ⟨e1, e2, e3, e4⟩ := hW
            go_simp
          simp only [Act.put, List.setIfInBounds_toArray, List.set_cons_zero, List.set_cons_succ]
          refine wpAnyH_take (i := 14) (v := (.int .i64 f2)) rfl (by kernel_rfl) (by kernel_rfl) (by kernel_rfl) (fun _ _ _ h => h) (Or.inl ⟨by rfl, ?hy14⟩) hHeld ?_
          case hy14 =>
            intro W hW
            obtain ⟨e1, e2, e3, e4⟩ := hW
            go_simp
          simp only [Act.put, List.setIfInBounds_toArray, List.set_cons_zero, List.set_cons_succ]
          refine wpAnyH_ready (rs := [15]) (by kernel_rfl) (by simp) (AllReadyH.cons rfl (fun K hK => ?_) AllReadyH.nil)
          go_simp
          have hB9 : Below w8.heap.size w8 (w8.alloc (.cells #[Value.int .i64 f2] 3)).drew := (below_alloc (Below.refl _ _) _).drew
          have hq9 : (w8.alloc (.cells #[Value.int .i64 f2] 3)).drew.heap[w8.heap.size]? = some (.cells #[Value.int .i64 f2] 3 (0, 0)) := heap_alloc_new _ _
          have hs9 : (w8.alloc (.cells #[Value.int .i64 f2] 3)).drew.heap.size = w8.heap.size + 1 := by show (w8.alloc _).heap.size = _; simp
          generalize (w8.alloc (.cells #[Value.int .i64 f2] 3)).drew = w9 at *
          have lt8 := fun {j : Nat} {o : Obj} (hk : w8.heap[j]? = some o) => (Array.getElem?_eq_some_iff.1 hk).1
          have HF9 : Aside0 (MapIs (.int .i64) w9 bf lf cf) := ⟨HF8.out.step (hB9.block bf (lt8 HF8.out.1))⟩
          have hlk9 := run_lookup_my (w := w9) key_int Try.underlying137 (.slice none 0 0) zero66 HF9.out f0
          rw [HU1.out] at hlk9
          refine hK.out _ _ ⟨pw_cell_below hB9 hp80, pw_cell_below hB9 hc80, pw_cell_below hB9 hc82, hlk9⟩ (fun hHeld => ?_)
          clear hK K
          have HU9 := Aside0.mk (pw_own_below HU8.out hB9)
          have HFL : Aside0 ((froms (pairsOf (es.take k) f1) f0).length ≤ 100000) := ⟨by
            unfold froms
            rw [List.length_map]
            exact Nat.le_trans (List.length_filter_le _ _) HPL.out⟩
          refine wpAnyH_ready (rs := [16]) (by kernel_rfl) (by simp) (AllReadyH.cons rfl (fun K hK => ?_) AllReadyH.nil)
          obtain ⟨i3_, hi0_, hi1_, hi2_, hi3_⟩ := info_parts info3
          refine step_append_lies _ (by rfl) _ _ _ (by rfl) 0 3 i3_ _ 1 8 Try.underlying66 hi0_ hi1_ hi2_ hi3_ rfl (by omega) _ _ _ (by rfl) HU9.out ⟨w8.heap.size, 0, none⟩ 1 1 [.int .i64 f2] (by rfl) (by rfl) (World.news_of_block hq9) (by simp [Value.oneCell']) (by omega) (by have := HFL.out; simp only [maxLen]; omega) (by have := HFL.out; omega) (by omega) w9.heap.size rfl ?_
          intro g10 c10 w10 ho10 hg10 hat10 hlt10
          have HP9 : Aside0 (w9.heap[p]? = _) := ⟨(hB9.block p (lt8 HP8.out)).trans HP8.out⟩
          have HQ59 : Aside0 (w9.heap[q5]? = _) := ⟨(hB9.block _ (lt8 HQ58.out)).trans HQ58.out⟩
          have lt9 := fun {j : Nat} {o : Obj} (hk : w9.heap[j]? = some o) => (Array.getElem?_eq_some_iff.1 hk).1
          have HP10 : Aside0 (w10.heap[p]? = _) := ⟨(hg10.block p (lt9 HP9.out) (own_ne_ty HU9.out HP9.out (by decide))).trans HP9.out⟩
          have HQ510 : Aside0 (w10.heap[q5]? = _) := ⟨(hg10.block _ (lt9 HQ59.out) (own_ne_ty HU9.out HQ59.out (by decide))).trans HQ59.out⟩
          have HF10 : Aside0 (MapIs (.int .i64) w10 bf lf cf) := ⟨HF9.out.step (hg10.block bf (lt9 HF9.out.1) (own_ne_map HU9.out HF9.out.1))⟩
          have hlk10 := run_lookup_my (w := w10) key_int Try.underlying137 (.slice none 0 0) zero66 HF10.out f0
          rw [HU1.out] at hlk10
          refine hK.out _ _ ⟨cell_at HP10.out 0, cell_at HQ510.out 0, cell_at HQ510.out 2, hlk10⟩ (fun hHeld => ?_)
          clear hK K
          (try simp only [Act.put, List.setIfInBounds_toArray, List.set_cons_zero, List.set_cons_succ])
          have hupd := run_mapUpdate_my key_int Try.underlying137 HF10.out f0 (.slice (some ⟨g10, 0, none⟩) ((froms (pairsOf (es.take k) f1) f0).length + 1) c10)
          have HF11 := Aside0.mk (mapIs_put HF10.out f0 (.slice (some ⟨g10, 0, none⟩) ((froms (pairsOf (es.take k) f1) f0).length + 1) c10))
          have HG11 : Aside0 (w10.grownBy (setB w10 bf (.map ((putA f0 (.slice (some ⟨g10, 0, none⟩) ((froms (pairsOf (es.take k) f1) f0).length + 1) c10) cf lf).map (mkE (.int .i64))).toArray (tick f0 cf lf))) (some bf)) := ⟨setB_grown _⟩
          generalize setB w10 bf (.map ((putA f0 (.slice (some ⟨g10, 0, none⟩) ((froms (pairsOf (es.take k) f1) f0).length + 1) c10) cf lf).map (mkE (.int .i64))).toArray (tick f0 cf lf)) = w11 at *
          refine wpAnyH_done (by kernel_rfl) ?_ _
          show Oper.wp _ _ _ _ _ _
          (try simp only [Act.put, List.setIfInBounds_toArray, List.set_cons_zero, List.set_cons_succ])
          go_simp
          clear hupd hlk10 hlk9 hlk8 hHeld hp80 hc80 hc82 hq9 hi0 hi0_
          go_wp2_with fail
          go_roundg (es.length - (k + 1))
          case measure => omega
          case rel =>
            have hZ1 := HZ8.out
            have hZ2 := HB1.out.size
            have hZ10 := hg10.size
            have hZ11 := HG11.out.size
            have htb := hLS.out.2.2.2.2.1
            have hg7new : ∀ r, tg' g7 = some r → r = (f1, 3, 0) := fun r hr => by
              rcases HAT.out with h | h
              · rw [HT3.out g7 h] at hr; injection hr with hr; exact hr.symm
              · have := (htb g7 r hr).2; omega
            have hg10new : ∀ r, tg' g10 = some r → r = (f1, 4, f0) := fun r hr => by
              rcases hat10 with h | h
              · rw [HU2.out g10 h] at hr; injection hr with hr; exact hr.symm
              · have := (htb g10 r hr).2; omega
            have hne710 : g10 ≠ g7 := fun e => by
              have h1 := own_apart ho10 (pw_own_below HO8.out hB9 |>.kept hg10 (by
                right
                intro h2
                exact own_apart (pw_own_below HO8.out hB9) HU9.out (by decide) (k := g7) rfl h2)) (by decide) (k := g10) rfl
              exact h1 (by rw [e]; rfl)
            have hY : ∀ j, j < w8.heap.size → some j ≠ (Value.slice Au (froms (pairsOf (es.take k) f1) f0).length cu).ownBlock → j ≠ bf → w11.heap[j]? = w8.heap[j]? := fun j hj h1 h2 => by
              rw [HG11.out.block j (by omega) (fun e => by injection e with e; exact h2 e), hg10.block j (by omega) h1, hB9.block j hj]
            have hps : pairsOf (es.take (k + 1)) f1 = pairsOf (es.take k) f1 ++ [(f0, f2)] := by
              rw [pairsOf_take es f1 hlt, hek]
              simp only [pairStep, addP, if_true, if_neg HNM.out]
            have ht0 : ∀ j r, tg' j = some r → (if j = g7 then some (f1, 3, 0) else if j = g10 then some (f1, 4, f0) else tg' j) = some r := fun j r hj => by
              by_cases h7 : j = g7
              · subst h7
                rw [if_pos rfl, hg7new r hj]
              · rw [if_neg h7]
                by_cases h10 : j = g10
                · subst h10
                  rw [if_pos rfl, hg10new r hj]
                · rw [if_neg h10]; exact hj
            have hub : ∀ j, some j = (Value.slice Au (froms (pairsOf (es.take k) f1) f0).length cu).ownBlock → tg' j = some (f1, 4, f0) := fun j hj => HU2.out j hj.symm
            have hyt : ∀ j r, tg' j = some r → r ≠ (f1, 4, f0) → r ≠ (f1, 1, 0) → w11.heap[j]? = w8.heap[j]? := fun j r hj h1 h2 => hY j (by have := (htb j r hj).2; omega) (fun e => by
              rw [hub j e] at hj; injection hj with hj; exact h1 hj.symm) (fun e => by
              rw [e, HTG.out.2.1] at hj; injection hj with hj; exact h2 hj.symm)
            have h7own : some g7 ≠ (Value.slice Au (froms (pairsOf (es.take k) f1) f0).length cu).ownBlock := fun h2 => own_apart (pw_own_below HO8.out hB9) HU9.out (by decide) (k := g7) rfl h2
            have h7bf : g7 ≠ bf := fun e => by
              have h1 := own_ne_map HO8.out HF8.out.1
              exact h1 (by rw [← e]; rfl)
            have h10bf : g10 ≠ bf := fun e => by
              have h1 := own_ne_map ho10 HF10.out.1
              exact h1 (by rw [← e]; rfl)
            refine ⟨k + 1, lM', cM', (fun j => if j = g7 then some (f1, 3, 0) else if j = g10 then some (f1, 4, f0) else tg' j), by omega, Nat.le_refl _, by go_num, ⟨?_⟩⟩
            refine LS.next hLS.out hlt (by rw [hek]) hget.out ?_ (by omega) (fun j hj hr => ?_) ht0 (fun j r hj => ?_) ?_
            · have hws := HB8.out.size
              have h9 := HB8.out.trans (hB9.mono hws)
              have h9s := h9.size
              have h10 := pw_below_grown h9 _ (by omega) hg10 (fun j hj => (htb j _ (hub j hj.symm)).1)
              exact pw_below_grown h10 _ (by omega) HG11.out (fun j hj => by injection hj with hj; subst hj; exact (htb bf _ HTG.out.2.1).1)
            · rw [hY j (by omega) (fun e => hr _ (hub j e) rfl) (fun e => by subst e; exact hr _ HTG.out.2.1 rfl)]
              exact HX8.out j hj (fun e => by subst e; exact hr _ HTG.out.2.2 rfl) (fun e => by subst e; exact hr _ HTG.out.1 rfl) (fun e => hr _ (HT3.out j e.symm) rfl)
            · by_cases h7 : j = g7
              · subst h7
                rcases HAT.out with h | h
                · left
                  rw [HT3.out j h]
                  simpa using hj
                · right
                  omega
              · simp only [if_neg h7] at hj
                by_cases h10 : j = g10
                · subst h10
                  rcases hat10 with h | h
                  · left
                    rw [HU2.out j h]
                    simpa using hj
                  · right
                    omega
                · simp only [if_neg h10] at hj
                  exact .inl hj
            · rw [hps]
              have hO11 : w11.ownsRow 0 162 2 (.slice (some ⟨g7, 0, none⟩) ((pairsOf (es.take k) f1).length + 1) c7) ((pairsOf (es.take k) f1).length + 1) (flatP (pairsOf (es.take k) f1) ++ [.int .i64 f0, .int .i64 f2]) := own_move HO8.out (fun j hj => by
                have hj7 : g7 = j := by simpa [Value.ownBlock] using hj
                subst hj7
                exact hY _ hZ1.2 h7own h7bf)
              have hU11 : w11.ownsRow 0 3 1 (.slice (some ⟨g10, 0, none⟩) ((froms (pairsOf (es.take k) f1) f0).length + 1) c10) ((froms (pairsOf (es.take k) f1) f0).length + 1) (nums .i64 (froms (pairsOf (es.take k) f1) f0) ++ [.int .i64 f2]) := own_move ho10 (fun j hj => by
                have hj7 : g10 = j := by simpa [Value.ownBlock] using hj
                subst hj7
                exact HG11.out.block _ hlt10 (fun e => by injection e with e; exact h10bf e))
              refine ⟨bf, .slice (some ⟨g7, 0, none⟩) ((pairsOf (es.take k) f1).length + 1) c7, bh, _, _, _, _, ht0 p _ HTG.out.1, ?_, fun j hj => ?_, ?_, ht0 bf _ HTG.out.2.1, HF11.out, fun a => ?_, ht0 bh _ HTG.out.2.2, HMF.out.step (hyt bh _ HTG.out.2.2 (by simp) (by simp)), fun q => ?_⟩
              · rw [hyt p _ HTG.out.1 (by simp) (by simp)]
                exact HP8.out
              · have hj7 : g7 = j := by simpa [Value.ownBlock] using hj
                subst hj7
                simp
              · rw [flatP_append, List.length_append]
                exact hO11
              · rw [getA_put]
                by_cases ha : a = f0
                · subst ha
                  rw [if_pos rfl, froms_snoc, nums_append, List.length_append]
                  refine ⟨_, rfl, fun j hj => ?_, hU11⟩
                  have hj7 : g10 = j := by simpa [Value.ownBlock] using hj
                  subst hj7
                  simp [hne710]
                · rw [if_neg ha, froms_other _ _ _ _ ha]
                  obtain ⟨u, g1, g2, g3⟩ := HT7.out a
                  refine ⟨u, g1, fun j hj => ht0 j _ (g2 j hj), own_move g3 (fun j hj => ?_)⟩
                  rw [hyt j _ (g2 j hj) (by simp [ha]) (by simp)]
                  exact HK8.out j _ (g2 j hj) (by simp) (by simp) (by simp) (own_block_lt g3 hj)
              · rw [getA_put]
                by_cases hq : q = (f0, f2)
                · subst hq
                  rw [if_pos rfl]
                  refine ⟨1, ?_, by simp, by omega⟩
                  rw [Option.getD_some, hz]
                  rfl
                · rw [if_neg hq]
                  obtain ⟨c, g1, g2, g3⟩ := HT10.out q
                  exact ⟨c, g1, by rw [g2, List.mem_append, List.mem_singleton]; simp [hq], by omega⟩
        · generalize hn1 : (cq : Int) + 1 = n1 at hlk4
          have hn2 : (n1 == 1) = false := beq_eq_false_iff_ne.2 (by omega)
          have HN1 := Aside0.mk hn1
          clear hn1
          go_wp2_with fail
          go_quiet (fail)
          go_wp2
          go_roundg (es.length - (k + 1))
          case measure => omega
          case rel =>
            refine ⟨k + 1, lM', cM', tg', by omega, Nat.le_refl _, by go_num, ⟨?_⟩⟩
            have hmem : (f0, f2) ∈ pairsOf (es.take k) f1 := Classical.byContradiction fun h => hz (HCQ2.out.2 h)
            have hps : pairsOf (es.take (k + 1)) f1 = pairsOf (es.take k) f1 := by
              rw [pairsOf_take es f1 hlt, hek]
              simp only [pairStep, addP, if_true, if_pos hmem]
            refine LS.next (w' := w4.drewN nq) hLS.out hlt (by rw [hek]) hget.out (pw_below_drewN HBW.out _) (by have := HB1.out.size; show _ ≤ w4.heap.size; rw [HSZ.out]; exact this) (fun j hj hr => HCH.out j hj (fun e => by
              subst e
              exact hr _ HTG.out.2.2 rfl)) (fun _ _ h => h) (fun _ _ h => .inl h) ?_
            rw [hps]
            have hne : ∀ j r, tg' j = some r → r ≠ (f1, 2, 0) → j < wc.heap.size → w4.heap[j]? = wc.heap[j]? := fun j r hj hr hjl => HCH.out j hjl (fun e => by
              subst e
              rw [HTG.out.2.2] at hj
              injection hj with hj
              exact hr hj.symm)
            have lt := fun {j : Nat} {o : Obj} (hk : wc.heap[j]? = some o) => (Array.getElem?_eq_some_iff.1 hk).1
            refine ⟨bf, v, bh, lf, cf, _, _, HTG.out.1, HP4.out, HT3.out, own_move HT4.out (fun j hj => hne j _ (HT3.out j hj) (by simp) (own_block_lt HT4.out hj)), HTG.out.2.1, HT6.out.step (hne bf _ HTG.out.2.1 (by simp) (lt HT6.out.1)), fun a => ?_, HTG.out.2.2, HM4.out.step rfl, fun q => ?_⟩
            · obtain ⟨u, g1, g2, g3⟩ := HT7.out a
              exact ⟨u, g1, g2, own_move g3 (fun j hj => hne j _ (g2 j hj) (by simp) (own_block_lt g3 hj))⟩
            · rw [getA_put]
              by_cases hq : q = (f0, f2)
              · subst hq
                rw [if_pos rfl]
                exact ⟨cq + 1, by rw [Option.getD_some]; congr 1, by simp [hmem], by omega⟩
              · rw [if_neg hq]
                obtain ⟨c, g1, g2, g3⟩ := HT10.out q
                exact ⟨c, g1, g2, by omega⟩
    · have hkk : k = es.length := by omega
      subst hkk
      go_wp2
      go_ret
      exact ⟨_, _, _, _, rfl, hL.out⟩
end Go.Proofs.Ytcchcifcfcpjiaa.J
