/- The document's rows of a pattern: the walk. -/
import Derived.Test.YtcchcifcfcpjiaaKO
import Derived.Test.YtcchcifcfcpjiaaKS
import Derived.Test.YtcchcifcfcpjiaaJW
import Derived.Test.YtcchcifcfcpjiaaMX
set_option linter.unusedVariables false
set_option linter.unusedSimpArgs false
namespace Go.Proofs.Ytcchcifcfcpjiaa.J
open Go.RowKit Go.Proofs.YtcchcifcfcpjiaaW.PrintWords Go.Proofs.YtcchcifcfcpjiaaW.PrintLast Go.Proofs.YtcchcifcfcpjiaaW.PrintMore Go.Proofs.Ytcchcifcfcpjiaa.PJ

/-- A growing list of tuples, all from block base on. -/
def NL (W : World) (base : Nat) (v : Value) (acc : List (List Int)) : Prop := ∃ us, W.ownsRow base 75 1 v us.length us ∧ TupsU W (base ≤ ·) us acc
theorem NL.below {W W' : World} {base : Nat} {v : Value} {acc : List (List Int)} (h : NL W base v acc) (hb : Below W.heap.size W W') : NL W' base v acc := by
  obtain ⟨us, h1, h2⟩ := h
  exact ⟨us, pw_own_below h1 hb, h2.imp (fun _ _ hu => hu.below hb)⟩
theorem NL.tups {W : World} {base : Nat} {v : Value} {acc : List (List Int)} (h : NL W base v acc) : TupsAt W (base ≤ ·) v acc := by
  obtain ⟨us, h1, h2⟩ := h
  exact h2.ofOwn h1 (fun k hk => own_base h1 k hk)
theorem reads_tup {w : World} {ok : Nat → Prop} {v : Value} {xs : List Int} (h : TupAt w ok v xs) : ∃ A c, v = .slice A xs.length c ∧ ReadsInt w .i64 A xs.length xs := by
  have hl := SlAt.len_le h
  obtain ⟨A, c, rfl, hc⟩ := SlAt.shape h
  refine ⟨A, c, rfl, rfl, by simp only [maxLen] at hl; omega, fun hp => ?_⟩
  obtain ⟨g, off, u, rfl, _⟩ := SlAt.at_ h 0 hp
  refine ⟨_, rfl, fun j hj => ?_⟩
  obtain ⟨g2, off2, u2, he, hc2, _, rfl, _⟩ := SlAt.at_ h j hj
  injection he with he
  injection he with he1 he2
  subst he1 he2
  rw [add_at, List.getD_eq_getElem?_getD, List.getElem?_eq_getElem hj]
  exact hc2

theorem tups_V {w : World} {base : Nat} {ok : Nat → Prop} {v : Value} {xss : List (List Int)} (h : TupsAt w ok v xss) : Kd.V (Kd.slice 3 (Kd.int .i64)) 75 w base ok v xss := by
  obtain ⟨A, c, rfl, hc, hC⟩ := TupsAt.reads h
  refine ⟨A, c, rfl, hc, fun W2 hW => ?_⟩
  obtain ⟨A', c', he, _, hC'⟩ := TupsAt.reads (h.step (w' := W2) (fun k ho hk => hW k ho hk))
  injection he with he1 _ _
  rw [he1]
  exact hC'

/-- What the document's Rows says of a pattern. -/
def RefPost (w : World) : Option (List (List Int)) → Ending → World → Prop
  | none, e, w' => e = .returned (.tuple #[.slice none 0 0, .int .i64 5]) ∧ Below w.heap.size w w'
  | some rows, e, w' => (∃ v' ys, e = .returned (.tuple #[v', .int .i64 0]) ∧ IsSet rows ys ∧ ys.length ≤ rows.length ∧ Kd.V (Kd.slice 3 (Kd.int .i64)) 75 w' w.heap.size (fun k_ => (w.heap.size ≤ k_)) v' ys) ∧ Below w.heap.size w w'

theorem flatMap_same {α β : Type} (l : List α) (f g : α → List β) (h : ∀ x ∈ l, f x = g x) : l.flatMap f = l.flatMap g := by
  induction l with
  | nil => rfl
  | cons x l ih => rw [List.flatMap_cons, List.flatMap_cons, h x List.mem_cons_self, ih (fun y hy => h y (List.mem_cons_of_mem _ hy))]
def rowA (f : Nat) (r : List Int) (x : Int) : List Int := if f = r.length then r ++ [x] else r

set_option maxRecDepth 100000 in
set_option maxHeartbeats 4000000 in
theorem refrows_good (w : World) {nm lb : ByteArray} {A2 A3 A1 : Option Addr} {c2 c3 c1 : Nat} {out : List ByteArray} {ats : List S118} {es : List S82} {kg kv ko : Nat}
    (h2 : Kd.C Kd.string w A2 out.length out) (g2 : out.length ≤ c2) (h3 : Kd.C k118 w A3 ats.length ats) (g3 : ats.length ≤ c3) (hE : Kd.C k82 w A1 es.length es) (gE : es.length ≤ c1)
    (hg : rhizomeref09_Good.f kg nm 1 out ats lb = some true) (hv : rhizomeref09_Vars.f kv nm 1 out ats lb = some (varsOf ats)) (hon : rhizomeref11_Once.f ko es = some (onceL es))
    (hat : ∀ x ∈ varsOf ats, ∃ q, rhizomeref11_at.f q (varsOf ats) x = some ((ixN (varsOf ats) x : Nat) : Int)) (hel : es.length ≤ 1000) (hal : ats.length ≤ 1000) :
    Calls Try.prog 29 #[.agg #[.string nm, .int .i64 1, .slice A2 out.length c2, .slice A3 ats.length c3, .string lb], .slice A1 es.length c1] w (RefPost w (allRows (varsOf ats) es ats [[]])) := by
  have H2 := Aside0.mk h2
  have H3 := Aside0.mk h3
  have HE := Aside0.mk hE
  have HG2 := Aside0.mk g2
  have HG3 := Aside0.mk g3
  have HGE := Aside0.mk gE
  have HGd := Aside0.mk hg
  have HV := Aside0.mk hv
  have HON := Aside0.mk hon
  have HAT := Aside0.mk hat
  clear h2 h3 hg g2 g3 hv hat hE gE hon
  have hu59 := Try.underlying59
  go_enter Try.func29, Try.ntmps29
  go_upto_region 1 with fail
  have hB1 : Below w.heap.size w (w.alloc (.cells #[.string nm, .int .i64 1, .slice A2 out.length c2, .slice A3 ats.length c3, .string lb] 59)) := below_alloc (Below.refl _ _) _
  have hbx : (w.alloc (.cells #[.string nm, .int .i64 1, .slice A2 out.length c2, .slice A3 ats.length c3, .string lb] 59)).heap[w.heap.size]? = some (.cells #[.string nm, .int .i64 1, .slice A2 out.length c2, .slice A3 ats.length c3, .string lb] 59 (0, 0)) := heap_alloc_new _ _
  have k0 := cell_at hbx 0
  have k1 := cell_at hbx 1
  have k2 := cell_at hbx 2
  have k3 := cell_at hbx 3
  have k4 := cell_at hbx 4
  have HB1 := Aside0.mk hB1
  have HBX := Aside0.mk hbx
  clear hB1 hbx
  generalize w.alloc (.cells #[.string nm, .int .i64 1, .slice A2 out.length c2, .slice A3 ats.length c3, .string lb] 59) = w1 at *
  go_upto_if 23 with (go_at_call 71; refine (rhizomeref09_Good.calls kg nm 1 _ _ out _ _ ats lb true _ (Kd.C_below H2.out HB1.out) HG2.out (Kd.C_below H3.out HB1.out) HG3.out HGd.out).mono ?_; rintro e w2 ⟨rfl, hb2⟩)
  have HBX2 := Aside0.mk ((hb2.block _ (Array.getElem?_eq_some_iff.1 HBX.out).1).trans HBX.out)
  have HB2 := Aside0.mk (HB1.out.trans (hb2.mono HB1.out.size))
  clear k0 k1 k2 k3 k4 hb2 HBX HB1
  have k0 := cell_at HBX2.out 0
  have k1 := cell_at HBX2.out 1
  have k2 := cell_at HBX2.out 2
  have k3 := cell_at HBX2.out 3
  have k4 := cell_at HBX2.out 4
  go_upto_region 5 with (first | (go_at_call 72; refine (rhizomeref09_Vars.calls kv nm 1 _ _ out _ _ ats lb (varsOf ats) _ (Kd.C_below H2.out HB2.out) HG2.out (Kd.C_below H3.out HB2.out) HG3.out HV.out).mono ?_; rintro e w3 ⟨v6, rfl, hv6, hb3⟩; (have HV6 := Aside0.mk hv6); (have HB3 := Aside0.mk hb3); clear hv6 hb3) | (go_at_call 73; refine (rhizomeref11_Once.calls ko _ _ es (onceL es) _ (Kd.C_below HE.out (HB2.out.trans (HB3.out.mono HB2.out.size))) HGE.out HON.out).mono ?_; rintro e w4 ⟨v4, rfl, hv4, hb4⟩; (have HV4 := Aside0.mk hv4); (have HB4 := Aside0.mk hb4); clear hv4 hb4))
  have HW3 := Aside0.mk (HB2.out.trans (HB3.out.mono HB2.out.size))
  have HW4 := Aside0.mk (HW3.out.trans (HB4.out.mono HW3.out.size))
  have hvr : Kd.R Kd.string 9 w4 w2.heap.size (fun _ => True) v6 (varsOf ats) := Kd.R_below HV6.out HB4.out
  obtain ⟨Av, cv, rfl⟩ := Kd.R_slice hvr
  have HVC := Aside0.mk (Kd.R_reads' hvr).2
  obtain ⟨Ae, ce, rfl⟩ := Kd.R_slice HV4.out
  have HEC := Aside0.mk (Kd.R_reads' HV4.out).2
  have HBX4 : Aside0 (w4.heap[w.heap.size]? = _) := ⟨((HB3.out.trans (HB4.out.mono HB3.out.size)).block _ (Array.getElem?_eq_some_iff.1 HBX2.out).1).trans HBX2.out⟩
  clear k0 k1 k2 k3 k4 hvr HV6 HV4
  have hol := onceL_length es
  generalize heo : onceL es = eo at *
  have HEO := Aside0.mk heo
  clear heo
  go_upto_region 6 with fail
  have HB5 : Aside0 (Below w4.heap.size w4 ((w4.alloc (.cells #[] 3)).alloc (.cells #[.slice (some ⟨w4.heap.size, 0, none⟩) 0 0] 75))) := ⟨below_alloc (below_alloc (Below.refl _ _) _) _⟩
  have HT5 : Aside0 (TupsAt ((w4.alloc (.cells #[] 3)).alloc (.cells #[.slice (some ⟨w4.heap.size, 0, none⟩) 0 0] 75)) (w.heap.size ≤ ·) (.slice (some ⟨w4.heap.size + 1, 0, none⟩) 1 1) [[]]) := ⟨.inr ⟨w4.heap.size + 1, 0, 1, _, rfl, by have := HW4.out.size; omega, by have := heap_alloc_new (w4.alloc (.cells #[] 3)) (.cells #[.slice (some ⟨w4.heap.size, 0, none⟩) 0 0] 75); simpa using this, by simp, by decide, by simp, fun j x hx => by
    cases j with
    | zero =>
      have : x = [] := by simpa using hx.symm
      subst this
      refine ⟨_, rfl, .inr ⟨w4.heap.size, 0, 0, #[], rfl, HW4.out.size, ?_, Nat.le_refl _, by decide, by simp, fun j x hx => by simp at hx⟩⟩
      rw [Below.heap_alloc _ _ _ (by simp)]
      exact heap_alloc_new _ _
    | succ j => simp at hx⟩⟩
  have HBX5 : Aside0 (((w4.alloc (.cells #[] 3)).alloc (.cells #[.slice (some ⟨w4.heap.size, 0, none⟩) 0 0] 75)).heap[w.heap.size]? = _) := ⟨(HB5.out.block _ (Array.getElem?_eq_some_iff.1 HBX4.out).1).trans HBX4.out⟩
  have HVC5 : Aside0 ((varsOf ats).length ≤ cv ∧ Kd.C Kd.string ((w4.alloc (.cells #[] 3)).alloc (.cells #[.slice (some ⟨w4.heap.size, 0, none⟩) 0 0] 75)) Av (varsOf ats).length (varsOf ats)) := ⟨HVC.out.1, Kd.C_below HVC.out.2 HB5.out⟩
  have HEC5 : Aside0 (eo.length ≤ ce ∧ Kd.C k82 ((w4.alloc (.cells #[] 3)).alloc (.cells #[.slice (some ⟨w4.heap.size, 0, none⟩) 0 0] 75)) Ae eo.length eo) := ⟨HEC.out.1, Kd.C_below HEC.out.2 HB5.out⟩
  have HBW : Aside0 (Below w.heap.size w ((w4.alloc (.cells #[] 3)).alloc (.cells #[.slice (some ⟨w4.heap.size, 0, none⟩) 0 0] 75))) := ⟨HW4.out.trans (HB5.out.mono HW4.out.size)⟩
  have HC5 : Aside0 (Kd.C k118 ((w4.alloc (.cells #[] 3)).alloc (.cells #[.slice (some ⟨w4.heap.size, 0, none⟩) 0 0] 75)) A3 ats.length ats) := ⟨Kd.C_below H3.out HBW.out⟩
  clear HBX2 HB2 HBX4 HB5 HVC HW4 HW3 HB4 HB3 HEC
  generalize ((w4.alloc (.cells #[] 3)).alloc (.cells #[.slice (some ⟨w4.heap.size, 0, none⟩) 0 0] 75)) = w5 at *
  have kx := cell_at HBX5.out 3
  go_wp2_with fail
  clear kx
  go_loopg [7, 33] ats.length (fun gk s7 s33 wr => ∃ (i : Nat) (rows : List (List Int)), i ≤ ats.length ∧ ats.length - i ≤ gk ∧ s33 = .int .i64 i ∧ Aside0 (allRows (varsOf ats) es (ats.take i) [[]] = some rows) ∧ Aside0 (TupsAt wr (w.heap.size ≤ ·) s7 rows) ∧ Aside0 (rows.length ≤ 3000) ∧ Aside0 (Below w5.heap.size w5 wr))
  case atStart => exact ⟨0, [[]], Nat.zero_le _, by omega, rfl, ⟨rfl⟩, HT5, ⟨by simp⟩, ⟨Below.refl _ _⟩⟩
  case round =>
    obtain ⟨i, rows, hi, hgk, rfl, hrows, hT, hrl, hBr⟩ := hrel
    clear HT5
    by_cases hlt : i < ats.length
    · obtain ⟨ad, had, hd0, hd1, hd2⟩ := at_T118 (Kd.C_below HC5.out hBr.out) (i : Int) (by omega) (by omega)
      have hrd : rd_T118 ats (i : Int) = ats[i] := rd118_at ats i hlt
      rw [hrd] at hd0 hd1 hd2
      rw [Int.toNat_natCast] at hd0 hd1 hd2
      subst had
      have i3 : (i : Int) < (ats.length : Int) := by omega
      generalize hek : ats[i] = ed at hd0 hd1 hd2
      have HEK := Aside0.mk hek
      clear hek hrd
      obtain ⟨a0, a1, a2⟩ := ed
      simp only at hd0 hd1 hd2
      have k3 := cell_at ((hBr.out.block _ (Array.getElem?_eq_some_iff.1 HBX5.out).1).trans HBX5.out) 3
      go_upto_region 10 with fail
      clear k3 hd0 hd1 hd2
      have HB7 : Aside0 (Below w5.heap.size w5 (wr.alloc (.cells #[.string a0, .string a1, .string a2] 118))) := ⟨hBr.out.trans ((below_alloc (Below.refl _ _) _).mono hBr.out.size)⟩
      have hq : (wr.alloc (.cells #[.string a0, .string a1, .string a2] 118)).heap[wr.heap.size]? = some (.cells #[.string a0, .string a1, .string a2] 118 (0, 0)) := heap_alloc_new _ _
      have HT7 : Aside0 (TupsAt (wr.alloc (.cells #[.string a0, .string a1, .string a2] 118)) (w.heap.size ≤ ·) u7 rows) := ⟨hT.out.below (below_alloc (Below.refl _ _) _)⟩
      have HVC7 : Aside0 ((varsOf ats).length ≤ cv ∧ Kd.C Kd.string (wr.alloc (.cells #[.string a0, .string a1, .string a2] 118)) Av (varsOf ats).length (varsOf ats)) := ⟨HVC5.out.1, Kd.C_below HVC5.out.2 HB7.out⟩
      have HEC7 : Aside0 (Kd.C k82 (wr.alloc (.cells #[.string a0, .string a1, .string a2] 118)) Ae eo.length eo) := ⟨Kd.C_below HEC5.out.2 HB7.out⟩
      have HQ := Aside0.mk hq
      clear hq hT hBr
      generalize wr.alloc (.cells #[.string a0, .string a1, .string a2] 118) = w7 at *
      generalize wr.heap.size = q9 at *
      obtain ⟨hm0, hm2⟩ := vars_mem ats hlt
      rw [HEK.out] at hm0 hm2
      obtain ⟨qa, hqa⟩ := HAT.out a0 hm0
      obtain ⟨qc, hqc⟩ := HAT.out a2 hm2
      have HQA := Aside0.mk hqa
      have HQC := Aside0.mk hqc
      have HS : Aside0 (∀ W, Below w7.heap.size w7 W → W.cell? ⟨q9, 0, none⟩ = some (.string a0) ∧ W.cell? ⟨q9, 1, none⟩ = some (.string a1) ∧ W.cell? ⟨q9, 2, none⟩ = some (.string a2)) := ⟨fun W hb => by
        have hqw := (hb.block q9 (Array.getElem?_eq_some_iff.1 HQ.out).1).trans HQ.out
        exact ⟨cell_at hqw 0, cell_at hqw 1, cell_at hqw 2⟩⟩
      clear hqa hqc hm0 hm2
      have kq0 := (HS.out w7 (Below.refl _ _)).1
      have kq2 := (HS.out w7 (Below.refl _ _)).2.2
      go_cut [10, 11] (fun s10 s11 wx => s10 = .int .i64 ((ixN (varsOf ats) a0 : Nat) : Int) ∧ s11 = .int .i64 ((ixN (varsOf ats) a2 : Nat) : Int) ∧ Aside0 (Below w7.heap.size w7 wx))
      case first =>
        go_region_held3 (fun W => W.cell? ⟨q9, 0, none⟩ = some (.string a0) ∧ W.cell? ⟨q9, 2, none⟩ = some (.string a2)) (go_keep) ((first | (go_at_call 74; (with_reducible refine (rhizomeref11_at.calls qa Av cv (varsOf ats) a0 _ _ ?side1 HVC7.out.1 HQA.out).mono ?_); (case side1 => exact HVC7.out.2); rintro e w9 ⟨rfl, n9, rfl⟩) | (go_at_call 74; (with_reducible refine (rhizomeref11_at.calls qc Av cv (varsOf ats) a2 _ _ ?side1 HVC7.out.1 HQC.out).mono ?_); (case side1 => exact HVC7.out.2); rintro e w9 ⟨rfl, n9, rfl⟩)))
        all_goals (go_wp2_with fail; go_meet; exact ⟨rfl, rfl, ⟨pw_below_drewN (Below.refl _ _) _⟩⟩)
      case rest =>
        obtain ⟨rfl, rfl, hb8⟩ := hcut
        clear kq0 kq2
        obtain ⟨Ar, cr, rfl, _, _⟩ := TupsAt.reads HT7.out
        have HNL0 : Aside0 (NL wc w7.heap.size (.slice none 0 0) []) := ⟨[], World.ownsRow_nil _ _ _ _, TupsU.nil _ _⟩
        obtain ⟨hx1, hx2, hx3, hx4, hx5⟩ := ix_at ats hlt
        rw [HEK.out] at hx1 hx2 hx3 hx4 hx5
        simp only at hx1 hx2 hx5
        have HX1 := Aside0.mk hx1
        have HX2 := Aside0.mk hx2
        have HX5 := Aside0.mk hx5
        clear hx1 hx2 hx3 hx4 hx5
        have HRL : Aside0 (∀ r ∈ rows, r.length = (varsOf (ats.take i)).length) := ⟨rows_length es ats i (by omega) rows hrows.out⟩
        have HVL : Aside0 ((varsOf (ats.take i)).length ≤ 2000) := ⟨by
          have h1 := varsOf_length (ats.take i)
          rw [List.length_take] at h1
          omega⟩
        generalize hf : ixN (varsOf ats) a0 = f at *
        generalize ht : ixN (varsOf ats) a2 = t at *
        have HF := Aside0.mk hf
        have HTT := Aside0.mk ht
        clear hf ht
        have HNX : Aside0 (nextRows (varsOf ats) es ⟨a0, a1, a2⟩ rows = rows.flatMap fun r => refX eo a1 f t r) := ⟨by
          unfold nextRows
          rw [HF.out, HTT.out, ← HEO.out]
          refine flatMap_same _ _ _ (fun r hr => ?_)
          have h1 := HRL.out r hr
          exact (refX_once es a1 r f t (by rw [h1]; exact HX1.out) (by rw [h1]; exact HX2.out) (by rw [h1]; exact HX5.out)).symm⟩
        go_wp2_with fail
        go_loopg [12, 51] rows.length (fun gk2 s12 s51 ws => ∃ (j : Nat) (acc : List (List Int)), j ≤ rows.length ∧ rows.length - j ≤ gk2 ∧ s51 = .int .i64 j ∧ Aside0 (acc = (rows.take j).flatMap fun r => refX eo a1 f t r) ∧ Aside0 (acc.length ≤ 3000) ∧ Aside0 (NL ws w7.heap.size s12 acc) ∧ Aside0 (Below w7.heap.size w7 ws))
        case atStart => exact ⟨0, [], Nat.zero_le _, by omega, rfl, ⟨rfl⟩, ⟨by simp⟩, HNL0, hb8⟩
        case round =>
          obtain ⟨j, acc, hj, hgk2, rfl, hacc, hal2, hN, hBs⟩ := hrel
          clear HNL0 hb8
          by_cases hlt2 : j < rows.length
          · have i4 : (j : Int) < (rows.length : Int) := by omega
            go_wp2_with fail
            go_loopg [12, 56] eo.length (fun gk3 s12 s56 wk => ∃ (k : Nat) (acc2 : List (List Int)), k ≤ eo.length ∧ eo.length - k ≤ gk3 ∧ s56 = .int .i64 k ∧ Aside0 (acc2 = acc ++ refX (eo.take k) a1 f t rows[j]) ∧ Aside0 (acc2.length ≤ 3000) ∧ Aside0 (NL wk w7.heap.size s12 acc2) ∧ Aside0 (Below w7.heap.size w7 wk))
            case atStart => exact ⟨0, acc, Nat.zero_le _, by omega, rfl, ⟨by simp [refX]⟩, hal2, hN, hBs⟩
            case round =>
              obtain ⟨k, acc2, hk, hgk3, rfl, hacc2, hal3, hN2, hBk⟩ := hrel
              clear hN hBs
              by_cases hlt3 : k < eo.length
              · obtain ⟨ade, hade, he0, he1, he2⟩ := at_T82 HEC7.out (k : Int) (by omega) (by omega)
                have hrd : rd_T82 eo (k : Int) = eo[k] := rd82_at eo k hlt3
                rw [hrd] at he0 he1 he2
                rw [Int.toNat_natCast] at he0 he1 he2
                subst hade
                have i5 : (k : Int) < (eo.length : Int) := by omega
                have HTK := Aside0.mk (refX_take eo a1 f t rows[j] hlt3)
                have HTOT : Aside0 (((rows.take j).flatMap (fun r => refX eo a1 f t r)).length + (refX (eo.take (k + 1)) a1 f t rows[j]).length ≤ (rows.flatMap (fun r => refX eo a1 f t r)).length) := ⟨by
                  have e1 : rows.flatMap (fun r => refX eo a1 f t r) = (rows.take j).flatMap (fun r => refX eo a1 f t r) ++ (refX eo a1 f t rows[j] ++ (rows.drop (j + 1)).flatMap (fun r => refX eo a1 f t r)) := by
                    conv => lhs; rw [← List.take_append_drop j rows, List.drop_eq_getElem_cons hlt2, List.flatMap_append, List.flatMap_cons]
                  have e2 : refX eo a1 f t rows[j] = refX (eo.take (k + 1)) a1 f t rows[j] ++ refX (eo.drop (k + 1)) a1 f t rows[j] := by
                    unfold refX
                    rw [← List.flatMap_append, List.take_append_drop]
                  rw [e1, e2, List.length_append, List.length_append, List.length_append]
                  omega⟩
                have HRJ := Aside0.mk (HRL.out _ (List.getElem_mem hlt2))
                obtain ⟨gr, ofr, ur, hAr, hr1, _, hu, _⟩ := SlAt.at_ HT7.out j hlt2
                subst hAr
                obtain ⟨Au, cu, rfl, hRd⟩ := reads_tup hu
                generalize hedk : eo[k] = ed at he0 he1 he2 HTK
                obtain ⟨e0, e1, e2⟩ := ed
                simp only at he0 he1 he2
                have HED : Aside0 (∀ W, Below w7.heap.size w7 W → W.cell? (ade.add (k * 3)) = some (.int .i64 e0) ∧ W.cell? ⟨(ade.add (k * 3)).block, (ade.add (k * 3)).off + 1, none⟩ = some (.string e1) ∧ W.cell? ⟨(ade.add (k * 3)).block, (ade.add (k * 3)).off + 2, none⟩ = some (.int .i64 e2)) := ⟨fun W hb => ⟨pw_cell_below hb he0, pw_cell_below hb he1, pw_cell_below hb he2⟩⟩
                have HUR : Aside0 (∀ W, Below w7.heap.size w7 W → W.cell? ⟨gr, ofr + j, none⟩ = some (.slice Au rows[j].length cu) ∧ ReadsInt W .i64 Au rows[j].length rows[j]) := ⟨fun W hb => ⟨pw_cell_below hb hr1, hRd.below hb⟩⟩
                obtain ⟨kq0, kq1, kq2⟩ := HS.out wr hBk.out
                obtain ⟨ke0, ke1, ke2⟩ := HED.out wr hBk.out
                clear hrd he0 he1 he2 hr1 hu hRd hedk
                have i6 : (0 : Int) ≤ (k : Int) := by omega
                have i7 : (0 : Int) ≤ (j : Int) := by omega
                by_cases hlab : e1 = a1
                · subst hlab
                  have hb0 : (e1.toList == e1.toList) = true := by simp
                  have hb1 : (e1.toList != e1.toList) = false := by simp
                  go_upto_if 66 with (go_quiet (fail))
                  have HBq : Aside0 (Below w7.heap.size w7 (wr.drewN nq)) := ⟨pw_below_drewN hBk.out _⟩
                  have HNq : Aside0 (NL (wr.drewN nq) w7.heap.size u12 acc2) := ⟨hN2.out⟩
                  clear hN2 hBk kq0 kq1 kq2 ke0 ke1 ke2
                  generalize wr.drewN nq = wq at *
                  have HRS : Aside0 (refS e1 f t rows[j] ⟨e0, e1, e2⟩ = refE f t rows[j] (e0, e2)) := ⟨by simp [refS]⟩
                  generalize rows[j] = r at *
                  obtain ⟨ku, hRd⟩ := HUR.out wq HBq.out
                  have HRd := Aside0.mk hRd
                  have kua : (wq.alloc (.cells #[] 3)).cell? ⟨gr, ofr + j, none⟩ = some (.slice Au r.length cu) := pw_cell_below (below_alloc (Below.refl _ _) _) ku
                  clear hRd
                  go_upto_if 76 with (at_builtin; refine print_append_row (w0 := wq) wq.heap.size rfl (.tmp 67) (.tmp 71) 75 3 .i64 8 rfl Try.underlying75 info3 (by decide) (.slice (some ⟨wq.heap.size, 0, none⟩) 0 0) [] r Au r.length cu rfl rfl ?c1 ?c2 ?c3 ?c4 ?c5 ?_)
                  case c1 => exact World.ownsRow_made wq #[] 0 (Nat.le_refl _) (Nat.zero_le _) (by simp)
                  case c2 => exact ReadsInt.below HRd.out (below_alloc (Below.refl _ _) _)
                  case c3 => exact below_alloc (Below.refl _ _) _
                  case c4 => simp
                  case c5 => have := HRJ.out; have := HVL.out; simp; omega
                  intro v1 w1 ho1 hb1 hg1 _
                  obtain ⟨A1', c1', rfl⟩ := own_slice ho1
                  have HO1 := Aside0.mk ho1
                  have HB1 := Aside0.mk hb1
                  clear ho1 hb1 hg1 kua ku HRd
                  go_upto_if 76 with fail
                  have HP1 : Aside0 _ ∧ Aside0 _ := ⟨HO1, HB1⟩
                  have hnl : r.length ≤ 2000 := by have := HRJ.out; have := HVL.out; omega
                  obtain ⟨ke0, ke1, ke2⟩ := HED.out w1 (HBq.out.trans (HB1.out.mono HBq.out.size))
                  go_cut [15] (fun s15 wx => ∃ A c, s15 = .slice A (rowA f r e0).length c ∧ Aside0 (wx.ownsRow wq.heap.size 3 1 (.slice A (rowA f r e0).length c) (rowA f r e0).length (nums .i64 (rowA f r e0))) ∧ Aside0 (Below wq.heap.size wq wx))
                  case first =>
                    by_cases hfr : f = r.length
                    · have hfb : ((f : Int) == (r.length : Int)) = true := beq_iff_eq.2 (by omega)
                      have HRA : Aside0 (rowA f r e0 = r ++ [e0]) := ⟨if_pos hfr⟩
                      clear hfr
                      go_wp2_with (at_builtin; refine print_append_num (w0 := wq) wq.heap.size rfl (.tmp 77) (.tmp 83) 75 3 .i64 8 rfl Try.underlying75 info3 (by decide) (.slice A1' r.length c1') r e0 rfl rfl HP1.1.out HP1.2.out HP1.2.out.size (by omega) ?_; intro v3 w3 ho3 hb3 hg3 _; obtain ⟨A3', c3', rfl⟩ := own_slice ho3; (have HO3 := Aside0.mk ho3); (have HB3 := Aside0.mk hb3); clear ho3 hb3 hg3)
                      go_wp2_with fail
                      go_meet
                      exact ⟨A3', c3', by rw [HRA.out, List.length_append]; rfl, ⟨by rw [HRA.out]; exact HO3.out⟩, HB3⟩
                    · have hfb : ((f : Int) == (r.length : Int)) = false := beq_eq_false_iff_ne.2 (fun h => hfr (by omega))
                      have HRA : Aside0 (rowA f r e0 = r) := ⟨if_neg hfr⟩
                      clear hfr
                      go_wp2_with fail
                      go_meet
                      exact ⟨_, _, by rw [HRA.out], ⟨by rw [HRA.out]; exact HP1.1.out⟩, HP1.2⟩
                  case rest =>
                    obtain ⟨Ab, cb, rfl, ho2, hb2⟩ := hcut
                    have HP2 : Aside0 _ ∧ Aside0 _ := ⟨ho2, hb2⟩
                    have HL1 : Aside0 (f < (rowA f r e0).length ∧ t ≤ (rowA f r e0).length ∧ (rowA f r e0).length ≤ 2001) := ⟨by
                      have h1 := HX1.out
                      have h2 := HX2.out
                      have h5 := HX5.out
                      have h6 := HRJ.out
                      unfold rowA
                      split
                      · rw [List.length_append, List.length_singleton]
                        omega
                      · omega⟩
                    generalize hr1 : rowA f r e0 = r1 at *
                    have HR1 := Aside0.mk hr1
                    have hl1 : r1.length ≤ 2001 := HL1.out.2.2
                    clear hr1 ho2 hb2 ke0 ke1 ke2 hnl HP1 HO1 HB1
                    obtain ⟨ke0, ke1, ke2⟩ := HED.out wc (HBq.out.trans (HP2.2.out.mono HBq.out.size))
                    go_upto_if 88 with fail
                    go_cut [15] (fun s15 wx => ∃ A c, s15 = .slice A (rowA t r1 e2).length c ∧ Aside0 (wx.ownsRow wq.heap.size 3 1 (.slice A (rowA t r1 e2).length c) (rowA t r1 e2).length (nums .i64 (rowA t r1 e2))) ∧ Aside0 (Below wq.heap.size wq wx))
                    case first =>
                      by_cases hfr : t = r1.length
                      · have hfb : ((t : Int) == (r1.length : Int)) = true := beq_iff_eq.2 (by omega)
                        have HRA : Aside0 (rowA t r1 e2 = r1 ++ [e2]) := ⟨if_pos hfr⟩
                        clear hfr
                        go_wp2_with (at_builtin; refine print_append_num (w0 := wq) wq.heap.size rfl (.tmp 89) (.tmp 95) 75 3 .i64 8 rfl Try.underlying75 info3 (by decide) (.slice Ab r1.length cb) r1 e2 rfl rfl HP2.1.out HP2.2.out HP2.2.out.size (by omega) ?_; intro v3 w3 ho3 hb3 hg3 _; obtain ⟨A3', c3', rfl⟩ := own_slice ho3; (have HO3 := Aside0.mk ho3); (have HB3 := Aside0.mk hb3); clear ho3 hb3 hg3)
                        go_wp2_with fail
                        go_meet
                        exact ⟨A3', c3', by rw [HRA.out, List.length_append]; rfl, ⟨by rw [HRA.out]; exact HO3.out⟩, HB3⟩
                      · have hfb : ((t : Int) == (r1.length : Int)) = false := beq_eq_false_iff_ne.2 (fun h => hfr (by omega))
                        have HRA : Aside0 (rowA t r1 e2 = r1) := ⟨if_neg hfr⟩
                        clear hfr
                        go_wp2_with fail
                        go_meet
                        exact ⟨_, _, by rw [HRA.out], ⟨by rw [HRA.out]; exact HP2.1.out⟩, HP2.2⟩
                    case rest =>
                      obtain ⟨Ac, cc, rfl, ho3, hb3⟩ := hcut
                      have HL2 : Aside0 (f < (rowA t r1 e2).length ∧ t < (rowA t r1 e2).length ∧ (rowA t r1 e2).length ≤ 2002) := ⟨by
                        have h1 := HL1.out
                        unfold rowA
                        split
                        · rw [List.length_append, List.length_singleton]
                          omega
                        · omega⟩
                      have HRE : Aside0 (refE f t r (e0, e2) = if rd (rowA t r1 e2) (f : Int) = e0 ∧ rd (rowA t r1 e2) (t : Int) = e2 then [rowA t r1 e2] else []) := ⟨by
                        show (if (rowA t (rowA f r e0) e2).getD f 0 = e0 ∧ (rowA t (rowA f r e0) e2).getD t 0 = e2 then [rowA t (rowA f r e0) e2] else []) = _
                        rw [HR1.out]
                        simp [rd]⟩
                      generalize rowA t r1 e2 = r2 at *
                      obtain ⟨l2a, l2b, l2c⟩ := HL2.out
                      obtain ⟨g15, c15, hv15, _, _⟩ := ho3.out.form (by omega)
                      injection hv15 with hA15 _ hc15
                      subst hA15
                      subst hc15
                      have j1 : (f : Int) < (r2.length : Int) := by omega
                      have j2 : (t : Int) < (r2.length : Int) := by omega
                      have j3 : (0 : Int) ≤ (f : Int) := by omega
                      have j4 : (0 : Int) ≤ (t : Int) := by omega
                      have hO3 : wc.ownsRow wq.heap.size 3 1 (.slice (some ⟨g15, 0, none⟩) r2.length cc) r2.length (nums .i64 r2) := ho3.out
                      have kf : wc.cell? ⟨g15, (f : Int).toNat, none⟩ = some (.int .i64 (rd r2 (f : Int))) := (own_at hO3 (f : Int) j3 j1).1
                      have kt : wc.cell? ⟨g15, (t : Int).toNat, none⟩ = some (.int .i64 (rd r2 (t : Int))) := (own_at hO3 (t : Int) j4 j2).1
                      clear hO3
                      rw [Int.toNat_natCast] at kf kt
                      have HRW : Aside0 (TupAt wc (wq.heap.size ≤ ·) (.slice (some ⟨g15, 0, none⟩) r2.length cc) r2) := ⟨tup_ofOwn ho3.out (fun k hk => own_base ho3.out k hk)⟩
                      have HBc : Aside0 (Below w7.heap.size w7 wc) := ⟨HBq.out.trans (hb3.out.mono HBq.out.size)⟩
                      have HNc : Aside0 (NL wc w7.heap.size u12 acc2) := ⟨HNq.out.below hb3.out⟩
                      have HSZ : Aside0 (w7.heap.size ≤ wq.heap.size) := ⟨HBq.out.size⟩
                      clear ke0 ke1 ke2 HP2 HL1 HR1 ho3 hb3 hl1
                      obtain ⟨ke0, ke1, ke2⟩ := HED.out wc HBc.out
                      generalize rd r2 (f : Int) = x at *
                      generalize rd r2 (t : Int) = y at *
                      by_cases hm : x = e0 ∧ y = e2
                      · have HRE2 : Aside0 (refE f t r (e0, e2) = [r2]) := ⟨by rw [HRE.out, if_pos hm]⟩
                        obtain ⟨rfl, rfl⟩ := hm
                        have q1 : (x == x) = true := beq_self_eq_true x
                        have q2 : (y == y) = true := beq_self_eq_true y
                        go_upto_if 118 with (go_quiet (fail))
                        clear kf kt ke0 ke1 ke2
                        obtain ⟨us, hus, huT⟩ := HNc.out
                        obtain ⟨A12, c12, rfl⟩ := own_slice hus
                        have HUS : Aside0 ((wc.drewN nq).ownsRow w7.heap.size 75 1 (.slice A12 us.length c12) us.length us) := ⟨hus⟩
                        have HUT : Aside0 (TupsU (wc.drewN nq) (w7.heap.size ≤ ·) us acc2) := ⟨huT⟩
                        have HRW2 : Aside0 (TupAt (wc.drewN nq) (wq.heap.size ≤ ·) (.slice (some ⟨g15, 0, none⟩) r2.length cc) r2) := ⟨HRW.out⟩
                        have HBd : Aside0 (Below w7.heap.size w7 (wc.drewN nq)) := ⟨pw_below_drewN HBc.out _⟩
                        clear hus huT HNc HBc HRW
                        generalize wc.drewN nq = wd at *
                        have hul : us.length = acc2.length := HUT.out.1
                        have hul2 : us.length ≤ 3000 := by have := hal3.out; omega
                        have HUL := Aside0.mk hul
                        clear hul
                        by_cases hd : us.length + 1 ≤ 3000
                        · have hd1 : decide ((3000 : Int) < (us.length : Int) + 1) = false := decide_eq_false (by omega)
                          go_wp2_with (at_builtin; refine print_append (w0 := w7) w7.heap.size rfl (.tmp 119) (.tmp 121) 63 75 (.slice none 0 0) 24 rfl Try.underlying63 info75 rfl (by decide) (.slice A12 us.length c12) us (.slice (some ⟨g15, 0, none⟩) r2.length cc) rfl rfl rfl HUS.out HBd.out HBd.out.size (by omega) ?_; intro v4 w4' ho4 hb4 hg4 _; rw [List.length_append, List.length_singleton] at ho4; obtain ⟨A4, c4, rfl⟩ := own_slice ho4; (have HO4 := Aside0.mk ho4); (have HB4' := Aside0.mk hb4); (have HG4 := Aside0.mk hg4); clear ho4 hb4 hg4)
                          go_roundg (eo.length - (k + 1))
                          case measure => omega
                          case rel =>
                            refine ⟨k + 1, acc2 ++ [r2], by omega, Nat.le_refl _, ?_, ⟨?_⟩, ⟨?_⟩, ⟨us ++ [.slice (some ⟨g15, 0, none⟩) r2.length cc], by rw [List.length_append, List.length_singleton]; exact HO4.out, ?_⟩, HB4'⟩
                            · first | exact congrArg (Value.int .i64) (wrap_succ k eo.length hlt3 (by omega)) | exact congrArg (Value.int .i64) (by omega)
                            · rw [HTK.out, HRS.out, HRE2.out, hacc2.out, List.append_assoc]
                            · rw [List.length_append, List.length_singleton, ← HUL.out]; exact hd
                            · exact TupsU.snoc (HUT.out.imp (fun u z hz => hz.grown75 HUS.out HG4.out)) ((HRW2.out.okmono (fun k hk _ => Nat.le_trans HSZ.out hk)).grown75 HUS.out HG4.out)
                        · have hd1 : decide ((3000 : Int) < (us.length : Int) + 1) = true := decide_eq_true (by omega)
                          go_wp2_with (at_builtin; refine print_append (w0 := w7) w7.heap.size rfl (.tmp 119) (.tmp 121) 63 75 (.slice none 0 0) 24 rfl Try.underlying63 info75 rfl (by decide) (.slice A12 us.length c12) us (.slice (some ⟨g15, 0, none⟩) r2.length cc) rfl rfl rfl HUS.out HBd.out HBd.out.size (by omega) ?_; intro v4 w4' ho4 hb4 hg4 _; rw [List.length_append, List.length_singleton] at ho4; obtain ⟨A4, c4, rfl⟩ := own_slice ho4; (have HO4 := Aside0.mk ho4); (have HB4' := Aside0.mk hb4); (have HG4 := Aside0.mk hg4); clear ho4 hb4 hg4)
                          go_ret2
                          have hnone : allRows (varsOf ats) es ats [[]] = none := by
                            refine allRows_none (k := i + 1) _ _ _ ?_
                            rw [allRows_succ _ _ _ hlt hrows.out, HEK.out]
                            refine if_neg (fun hle => hd ?_)
                            rw [HNX.out] at hle
                            have h5 := HTOT.out
                            rw [HTK.out, HRS.out, HRE2.out, List.length_append, List.length_singleton] at h5
                            have h6 : acc2.length = ((rows.take j).flatMap (fun r => refX eo e1 f t r)).length + (refX (eo.take k) e1 f t r).length := by rw [hacc2.out, hacc.out, List.length_append]
                            have h7 := HUL.out
                            omega
                          show RefPost w _ _ _
                          rw [hnone]
                          exact ⟨rfl, (HBW.out.trans (HB7.out.mono HBW.out.size)).trans (HB4'.out.mono (HBW.out.trans (HB7.out.mono HBW.out.size)).size)⟩
                      · have HRE2 : Aside0 (refE f t r (e0, e2) = []) := ⟨by rw [HRE.out, if_neg hm]⟩
                        by_cases hx : x = e0
                        · subst hx
                          have q1 : (x == x) = true := beq_self_eq_true x
                          have q2 : (y == e2) = false := beq_eq_false_iff_ne.2 (fun h => hm ⟨rfl, h⟩)
                          clear hm
                          go_upto_if 118 with (go_quiet (fail))
                          go_wp2_with fail
                          go_roundg (eo.length - (k + 1))
                          case measure => omega
                          case rel =>
                            refine ⟨k + 1, acc2, by omega, Nat.le_refl _, ?_, ⟨?_⟩, hal3, ⟨HNc.out⟩, ⟨pw_below_drewN HBc.out _⟩⟩
                            · first | exact congrArg (Value.int .i64) (wrap_succ k eo.length hlt3 (by omega)) | exact congrArg (Value.int .i64) (by omega)
                            · rw [HTK.out, HRS.out, HRE2.out, List.append_nil, hacc2.out]
                        · have q1 : (x == e0) = false := beq_eq_false_iff_ne.2 hx
                          clear hm hx
                          go_upto_if 118 with (go_quiet (fail))
                          go_wp2_with fail
                          go_roundg (eo.length - (k + 1))
                          case measure => omega
                          case rel =>
                            refine ⟨k + 1, acc2, by omega, Nat.le_refl _, ?_, ⟨?_⟩, hal3, ⟨HNc.out⟩, ⟨pw_below_drewN HBc.out _⟩⟩
                            · first | exact congrArg (Value.int .i64) (wrap_succ k eo.length hlt3 (by omega)) | exact congrArg (Value.int .i64) (by omega)
                            · rw [HTK.out, HRS.out, HRE2.out, List.append_nil, hacc2.out]
                · have hb0 : (e1.toList == a1.toList) = false := beq_eq_false_iff_ne.2 (fun h => hlab (bytes_eq.1 h))
                  have hb1 : (e1.toList != a1.toList) = true := bne_iff_ne.2 (fun h => hlab (bytes_eq.1 h))
                  go_upto_if 66 with (go_quiet (fail))
                  have HBq : Aside0 (Below w7.heap.size w7 (wr.drewN nq)) := ⟨pw_below_drewN hBk.out _⟩
                  have HNq : Aside0 (NL (wr.drewN nq) w7.heap.size u12 acc2) := ⟨hN2.out⟩
                  clear hN2 hBk kq0 kq1 kq2 ke0 ke1 ke2
                  generalize wr.drewN nq = wq at *
                  have HRS : Aside0 (refS a1 f t rows[j] ⟨e0, e1, e2⟩ = []) := ⟨if_neg hlab⟩
                  go_wp2_with fail
                  go_roundg (eo.length - (k + 1))
                  case measure => omega
                  case rel =>
                    refine ⟨k + 1, acc2, by omega, Nat.le_refl _, ?_, ⟨?_⟩, hal3, HNq, ⟨HBq.out⟩⟩
                    · first | exact congrArg (Value.int .i64) (wrap_succ k eo.length hlt3 (by omega)) | exact congrArg (Value.int .i64) (by omega)
                    · rw [HTK.out, HRS.out, List.append_nil, hacc2.out]
              · have hkk : k = eo.length := by omega
                subst hkk
                go_wp2_with fail
                go_roundg (rows.length - (j + 1))
                case measure => omega
                case rel =>
                  refine ⟨j + 1, acc2, by omega, Nat.le_refl _, ?_, ⟨?_⟩, hal3, hN2, hBk⟩
                  · first | exact congrArg (Value.int .i64) (wrap_succ j rows.length hlt2 (by have := hrl.out; omega)) | exact congrArg (Value.int .i64) (by omega)
                  · rw [hacc2.out, List.take_length, hacc.out, List.take_add_one, List.getElem?_eq_getElem hlt2, List.flatMap_append]
                    simp
          · have hjj : j = rows.length := by omega
            subst hjj
            have HT9 : Aside0 (TupsAt wr (w.heap.size ≤ ·) u12 acc) := ⟨hN.out.tups.okmono (fun k hk _ => Nat.le_trans (HBW.out.trans (HB7.out.mono HBW.out.size)).size hk)⟩
            go_wp2_with fail
            go_roundg (ats.length - (i + 1))
            case measure => omega
            case rel =>
              have hnx : acc = nextRows (varsOf ats) es ⟨a0, a1, a2⟩ rows := by rw [hacc.out, List.take_length, HNX.out]
              refine ⟨i + 1, acc, by omega, Nat.le_refl _, ?_, ⟨?_⟩, HT9, hal2, ⟨HB7.out.trans (hBs.out.mono HB7.out.size)⟩⟩
              · first | exact congrArg (Value.int .i64) (wrap_succ i ats.length hlt (by omega)) | exact congrArg (Value.int .i64) (by omega)
              · rw [allRows_succ _ _ _ hlt hrows.out, HEK.out, ← hnx, if_pos hal2.out]
    · have hii : i = ats.length := by omega
      subst hii
      have hall := hrows.out
      rw [List.take_length] at hall
      have hrl2 := hrl.out
      have hin : ∀ r ∈ rows, r.length ≤ 100000 := fun r hr => by
        have h1 := rows_length es ats ats.length (Nat.le_refl _) rows hrows.out r hr
        have h2 := varsOf_length (ats.take ats.length)
        rw [List.take_length] at h1 h2
        omega
      obtain ⟨ys, hEv, hup, hmem, hyl⟩ := sorted_val rows.length rows rfl (by omega) hin
      obtain ⟨ks, hks⟩ := hEv.rounds
      have HALL := Aside0.mk hall
      have HUP := Aside0.mk hup
      have HMEM := Aside0.mk hmem
      have HKS := Aside0.mk hks
      have HYL := Aside0.mk hyl
      have HVV : Aside0 (Kd.V (Kd.slice 3 (Kd.int .i64)) 75 wr wr.heap.size (fun k_ => w.heap.size ≤ k_) u7 rows) := ⟨tups_V hT.out⟩
      obtain ⟨Ar, cr, rfl, _, _⟩ := TupsAt.reads hT.out
      clear hall hup hmem hks hrl2 hin hEv hyl hT
      go_wp2_with (go_at_call 75; (with_reducible refine (rhizomeref11_Sorted.calls ks _ Ar cr rows ys _ HVV.out HKS.out).mono ?_); rintro e w9 ⟨v9, rfl, hv9, hb9⟩; (have HV9 := Aside0.mk hv9); (have HB9 := Aside0.mk hb9); clear hv9 hb9)
      go_ret2
      show RefPost w _ _ _
      rw [HALL.out]
      have hWr := HBW.out.trans (hBr.out.mono HBW.out.size)
      refine ⟨⟨v9, ys, rfl, ⟨HUP.out, HMEM.out⟩, HYL.out, ?_⟩, hWr.trans (HB9.out.mono hWr.size)⟩
      obtain ⟨A9, c9, rfl, hc9, hV9⟩ := HV9.out
      refine ⟨A9, c9, rfl, hc9, fun W2 hW => hV9 W2 (fun k ho hk => hW k ?_ hk)⟩
      rcases ho with ho | ho
      · exact ho
      · exact Nat.le_trans hWr.size ho
end Go.Proofs.Ytcchcifcfcpjiaa.J
