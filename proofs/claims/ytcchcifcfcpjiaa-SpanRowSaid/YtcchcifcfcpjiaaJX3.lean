/- join.extend where the first variable is new. -/
import Derived.Test.YtcchcifcfcpjiaaJX
import Derived.Deep.DeepCutAuto
import Derived.IntWalk
set_option linter.unusedVariables false
set_option linter.unusedSimpArgs false
namespace Go.Proofs.Ytcchcifcfcpjiaa.J
open Go.RowKit Go.Proofs.YtcchcifcfcpjiaaW.PrintWords Go.Proofs.YtcchcifcfcpjiaaW.PrintLast Go.Proofs.YtcchcifcfcpjiaaW.PrintMore Go.Proofs.Ytcchcifcfcpjiaa.PJ

def ext1 (r : List Int) (t : Nat) (p : Int × Int) : List (List Int) := if t = r.length + 1 then [r ++ [p.1] ++ [p.2]] else if (r ++ [p.1]).getD t 0 = p.2 then [r ++ [p.1]] else []
theorem flatP_get (ps : List (Int × Int)) : ∀ (k : Nat) (hk : k < ps.length), (flatP ps)[k * 2]? = some (.int .i64 ps[k].1) ∧ (flatP ps)[k * 2 + 1]? = some (.int .i64 ps[k].2) := by
  induction ps with
  | nil => intro k hk; simp at hk
  | cons p ps ih =>
    intro k hk
    cases k with
    | zero => simp [flatP]
    | succ k =>
      have := ih k (by simpa using hk)
      simp only [List.getElem_cons_succ]
      rw [← this.1, ← this.2]
      have e1 : (k + 1) * 2 = k * 2 + 1 + 1 := by omega
      rw [e1]
      constructor <;> simp [flatP]
theorem flatP_length (ps : List (Int × Int)) : (flatP ps).length = ps.length * 2 := by
  induction ps with
  | nil => rfl
  | cons p ps ih => simp only [flatP, List.flatMap_cons, List.length_append, List.length_cons, List.length_nil] at ih ⊢; rw [ih]; omega

theorem flat_at {w : World} {base : Nat} {v : Value} {ps : List (Int × Int)} (h : w.ownsRow base 162 2 v ps.length (flatP ps)) (h0 : 0 < ps.length) :
    ∃ g c, v = .slice (some ⟨g, 0, none⟩) ps.length c ∧ ∀ (k : Nat) (hk : k < ps.length), w.cell? ⟨g, k * 2, none⟩ = some (.int .i64 ps[k].1) ∧ w.cell? ⟨g, k * 2 + 1, none⟩ = some (.int .i64 ps[k].2) := by
  have hR : Reps (fun p cs => cs = [.int .i64 p.1, .int .i64 p.2]) 2 ps (flatP ps) := ⟨flatP_length ps, fun j p hj => by
    obtain ⟨hjl, rfl⟩ := List.getElem?_eq_some_iff.1 hj
    obtain ⟨h1, h2⟩ := flatP_get ps j hjl
    apply List.ext_getElem?
    intro i
    rw [List.getElem?_take]
    match i with
    | 0 => simp [List.getElem?_drop, h1]
    | 1 => simp [List.getElem?_drop, h2]
    | i + 2 => simp only [Nat.not_lt.2 (Nat.le_add_left 2 i), if_false]; rfl⟩
  obtain ⟨A, c, rfl, hr⟩ := own_reads_row h hR rfl
  obtain ⟨g, cap, hv, _, _⟩ := h.form h0
  injection hv with hA _ _
  obtain ⟨ad, hAd, hc⟩ := hr.2.2 h0
  rw [hA] at hAd
  injection hAd with hAd
  subst hAd
  refine ⟨g, c, by rw [hA], fun k hk => ?_⟩
  obtain ⟨cs, _, rfl, hcs⟩ := hc k ps[k] (List.getElem?_eq_getElem hk)
  have h1 := hcs 0 _ rfl
  have h2 := hcs 1 _ rfl
  rw [add_at] at h1 h2
  rw [Nat.zero_add] at h1 h2
  exact ⟨h1, h2⟩

theorem own_lower3 {w : World} {base base' n : Nat} {e : TypeId} {size : Nat} {v : Value} {xs : List Value} (h : w.ownsRow base e size v n xs) (hb : base' ≤ base) : w.ownsRow base' e size v n xs := by
  obtain ⟨h1, h2⟩ := h
  refine ⟨h1, ?_⟩
  rcases h2 with h2 | ⟨g, cap, cur, rfl, hg, r⟩
  · exact .inl h2
  · exact .inr ⟨g, cap, cur, rfl, Nat.le_trans hb hg, r⟩

theorem step_app3 {ops : Array Oper} {o : Oper} {a : Act} {K : Act → World → Prop} {Q : Exit → Act → World → Prop} {E : Prop} {W W0 : World} (hgd : o.guard = none) (s x : Operand)
    (ho : o.op = .call { callee := .builtin .append, args := #[s, x], argTypes := #[75, 75] }) (hty : o.type = 75)
    {v : Value} {r : List Int} (hs : a.eval s = v) {base1 : Nat} (HO : W.ownsRow base1 3 1 v r.length (nums .i64 r)) (hb1 : W0.heap.size ≤ base1)
    (b : Nat) (y : Int) (hx : a.eval x = .slice (some ⟨b, 0, none⟩) 1 1) (hb : W.heap[b]? = some (.cells #[.int .i64 y] 3 (0, 0)))
    (HB : Below W0.heap.size W0 W) (hl : r.length ≤ 1000000)
    (h : ∀ A1 c1 w1, w1.ownsRow W0.heap.size 3 1 (.slice A1 (r.length + 1) c1) (r.length + 1) (nums .i64 (r ++ [y])) → Below W0.heap.size W0 w1 → K (a.put o.dst (.slice A1 (r.length + 1) c1)) w1) :
    if Region.wanted o (yielded ops a.tmps) = true then Oper.wp Try.prog o a W K Q else E := by
  obtain ⟨i0, hi, hz0, hz1, hz2⟩ := info_parts info3
  refine step_append_lies (P := Try.prog) W hgd s x 75 ho W0.heap.size 3 i0 _ 1 8 Try.underlying75 hi hz0 hz1 hz2 rfl (by omega) v r.length (nums .i64 r) hs (own_lower3 HO hb1) ⟨b, 0, none⟩ 1 1 [.int .i64 y] hx rfl (World.news_of_block hb) (by simp [Value.oneCell']) (by omega) (by simp only [maxLen]; omega) (by omega) HB.size W.heap.size rfl ?_
  intro g cap w1 h1 h2 h3 h4
  refine h _ _ w1 (by rw [nums_append]; simpa [nums] using h1) (pw_below_grown HB v.ownBlock HB.size h2 (fun k hk => Nat.le_trans hb1 (own_base HO k hk)))

set_option maxRecDepth 100000 in
set_option maxHeartbeats 2000000 in
theorem extend_all (w1 w : World) {B : Nat} {acc : List (List Int)} {ok : Nat → Prop} {v : Value} {r : List Int} {p : Nat} {ps : List (Int × Int)} {f t : Nat} (hbw : Below w1.heap.size w1 w) (hsz : w1.heap.size ≤ w.heap.size)
    (hx : IxAt w1 p ps) (hr : TupAt w1 ok v r) (hA : AccAt w w1.heap.size B acc) (hl : acc.length ≤ 3000) (hf : ¬ f < r.length) (ht : t ≤ r.length + 1) (hrl : r.length ≤ 100000) (hpl : ps.length ≤ 100000) :
    Calls Try.prog 65 #[.pointer (some ⟨p, 0, none⟩), v, .int .i64 f, .int .i64 t, .func (.func 64) #[] #[.pointer (some ⟨B, 0, none⟩)]] w (ExtPost w1.heap.size B w1 acc (extM ps r f t)) := by
  obtain ⟨A, cc, rfl, hcc, hC⟩ := TupAt.reads hr
  obtain ⟨bf, va, bh, lf, cf, lh, ch, hp, hva, _, _, _, _⟩ := hx
  have hcell1 : w1.cell? ⟨p, 1, none⟩ = some va := by simp [World.cell?, hp]
  have hcell : w.cell? ⟨p, 1, none⟩ = some va := pw_cell_below hbw hcell1
  have hext : extM ps r f t = ps.flatMap (ext1 r t) := by simp only [extM, hf, if_false]; rfl
  have HFL : Aside0 (∀ h0 : 0 < ps.length, ∃ g c, va = .slice (some ⟨g, 0, none⟩) ps.length c ∧ ∀ (k : Nat) (hk : k < ps.length), w1.cell? ⟨g, k * 2, none⟩ = some (.int .i64 ps[k].1) ∧ w1.cell? ⟨g, k * 2 + 1, none⟩ = some (.int .i64 ps[k].2)) := ⟨flat_at hva⟩
  obtain ⟨A1, c1, rfl⟩ := own_slice hva
  have HE := Aside0.mk hext
  have HA := Aside0.mk hA
  have HC := Aside0.mk hC
  have HW := Aside0.mk hbw
  have i1 : ¬ (f : Int) < (r.length : Int) := by omega
  have HT := Aside0.mk ht
  clear hext hA hr hp hva hC hbw hcell1 ht
  have hwr : IntKind.i64.wrap ((r.length : Int) + 1) = (r.length : Int) + 1 := IntWalk.i64_in _ (by omega)
  go_enter Try.func65, Try.ntmps65
  go_wp2_with fail
  clear hcell
  go_loopg [26] ps.length (fun gk s26 wr => ∃ (k : Nat) (acc' : List (List Int)), k ≤ ps.length ∧ ps.length - k ≤ gk ∧ s26 = .int .i64 k ∧ Aside0 (acc' = acc ++ (ps.take k).flatMap (ext1 r t)) ∧ acc'.length ≤ 3000 ∧ Aside0 (AccAt wr w1.heap.size B acc') ∧ Aside0 (Below w1.heap.size w1 wr))
  case atStart => exact ⟨0, acc, Nat.zero_le _, by omega, rfl, ⟨by simp⟩, hl, HA, HW⟩
  case round =>
    obtain ⟨k, acc', hk, hgk, rfl, hacc, hal, hAk, hWk⟩ := hrel
    clear HA HW
    have hWs := hWk.out.size
    by_cases hlt : k < ps.length
    · obtain ⟨g, c, hve, hcells⟩ := HFL.out (by omega)
      obtain ⟨hc0, hc1⟩ := hcells k hlt
      injection hve with hA1 _ hcc1
      subst hA1
      subst hcc1
      have hd0 : wr.cell? ⟨g, k * 2, none⟩ = some (.int .i64 ps[k].1) := pw_cell_below hWk.out hc0
      have hd1 : wr.cell? ⟨g, k * 2 + 1, none⟩ = some (.int .i64 ps[k].2) := pw_cell_below hWk.out hc1
      have i3 : (k : Int) < (ps.length : Int) := by omega
      clear hc0 hc1 hcells
      have HTK : Aside0 ((ps.take (k + 1)).flatMap (ext1 r t) = (ps.take k).flatMap (ext1 r t) ++ ext1 r t ps[k]) := ⟨by rw [List.take_add_one, List.getElem?_eq_getElem hlt, List.flatMap_append]; simp⟩
      have HLN : Aside0 (((ps.take k).flatMap (ext1 r t)).length + (ext1 r t ps[k]).length ≤ (ps.flatMap (ext1 r t)).length) := ⟨by
        rw [← List.length_append, ← HTK.out]
        conv => rhs; rw [← List.take_append_drop (k + 1) ps, List.flatMap_append, List.length_append]
        omega⟩
      generalize ps[k] = q at *
      obtain ⟨qa, qb⟩ := q
      go_upto_region 7 with fail
      simp only at hd0 hd1
      have hq0 : (wr.alloc (.cells #[Value.int .i64 qa, .int .i64 qb] 162)).cell? ⟨wr.heap.size, 0, none⟩ = some (.int .i64 qa) := by simp [World.cell?_alloc_new]
      have hq1 : (wr.alloc (.cells #[Value.int .i64 qa, .int .i64 qb] 162)).cell? ⟨wr.heap.size, 1, none⟩ = some (.int .i64 qb) := by simp [World.cell?_alloc_new]
      have HB2 : Below wr.heap.size wr (wr.alloc (.cells #[Value.int .i64 qa, .int .i64 qb] 162)) := below_alloc (Below.refl _ _) _
      have hsz2 : wr.heap.size ≤ (wr.alloc (.cells #[Value.int .i64 qa, .int .i64 qb] 162)).heap.size := by simp
      have hcr := Kd.C_below HC.out (hWk.out.trans (HB2.mono hWs))
      generalize wr.alloc (.cells #[Value.int .i64 qa, .int .i64 qb] 162) = w2 at *
      go_cut [16] (fun s16 wx => ∃ A3 c3, s16 = .slice A3 (r.length + 1) c3 ∧ wx.ownsRow w2.heap.size 3 1 (.slice A3 (r.length + 1) c3) (r.length + 1) (nums .i64 (r ++ [qa])) ∧ Below w2.heap.size w2 wx)
      case first =>
        go_region_held3 (fun W => Below w2.heap.size w2 W ∧ W.cell? ⟨wr.heap.size, 0, none⟩ = some (.int .i64 qa)) (refine ⟨?_, pw_cell_below ?_ hq0⟩ <;> (first | assumption | exact Below.refl _ _ | exact (Below.refl _ _).drew | exact below_drew (by assumption) | (go_split_ands; exact below_alloc (by assumption) _))) (first | (go_at_call 97; go_split_ands; refine Calls.mono (clone_own _ (Kd.C_below hcr (by assumption)) (by omega)) ?_; rintro e w3 ⟨⟨v2, rfl, ho2⟩, hb2⟩; obtain ⟨A2, c2, rfl⟩ := own_slice ho2; have hS3 := Below.trans (by assumption : Below w2.heap.size w2 _) (Below.mono hb2 (Below.size (by assumption)))) | (refine step_app3 (W0 := w2) rfl _ _ (by rfl) rfl (by rfl) (pw_own_below ho2 (below_alloc (Below.refl _ _) _)) (Below.size (by assumption)) _ qa (by rfl) (heap_alloc_new _ _) (below_alloc hS3 _) (by omega) ?_; intro A3 c3 w4 ho4 hb4) | (refine step_app3 (W0 := w2) rfl _ _ (by rfl) rfl (by rfl) ho2 (Below.size (by assumption)) _ qa (by rfl) ((hb2.block _ (by simp)).trans (heap_alloc_new _ _)) hS3 (by omega) ?_; intro A3 c3 w4 ho4 hb4))
        all_goals (go_wp2_with fail; go_meet; exact ⟨_, _, rfl, ho4, hb4⟩)
      case rest =>
        obtain ⟨A3, c3, rfl, ho3, hb3⟩ := hcut
        have hx1 : wc.cell? ⟨wr.heap.size, 1, none⟩ = some (.int .i64 qb) := pw_cell_below hb3 hq1
        have HBX : Aside0 (Below w1.heap.size w1 wc) := ⟨(hWk.out.trans (HB2.mono hWs)).trans (hb3.mono (by omega))⟩
        have HBR : Aside0 (Below wr.heap.size wr wc) := ⟨HB2.trans (hb3.mono hsz2)⟩
        have HO3 := Aside0.mk ho3
        have hsz3 : wr.heap.size ≤ wc.heap.size := HBR.out.size
        clear hq0 hq1 hb3 HB2 hcr hd0 hd1
        by_cases ht1 : t = r.length + 1
        · have he : ext1 r t (qa, qb) = [r ++ [qa] ++ [qb]] := by simp only [ext1, if_pos ht1]
          have HEX := Aside0.mk he
          clear he ho3
          have ht2 : (t : Int) = (r.length : Int) + 1 := by omega
          go_wp2_with (at_builtin; refine print_append (w0 := wr) wr.heap.size rfl (.tmp 40) (.tmp 43) 75 3 (.int .i64 0) 8 rfl Try.underlying75 info3 rfl (by decide) (.slice A3 (r.length + 1) c3) (nums .i64 (r ++ [qa])) (.int .i64 qb) rfl rfl ?c1 ?c2 ?c3 ?c4 ?c5 ?_)
          case c1 => rfl
          case c2 => rw [nums_length, show (r ++ [qa]).length = r.length + 1 by simp]; exact own_lower3 HO3.out hsz2
          case c3 => exact HBR.out
          case c5 => rw [nums_length]; simp; omega
          intro v3 w3 ho4 hb4 hg4 _
          have ho4' : w3.ownsRow wr.heap.size 3 1 v3 (r ++ [qa] ++ [qb]).length (nums .i64 (r ++ [qa] ++ [qb])) := by
            rw [nums_append]
            simpa [nums] using ho4
          have hT3 : TupAt w3 (fun _ => True) v3 (r ++ [qa] ++ [qb]) := tup_ofOwn ho4' (fun _ _ => trivial)
          rw [show (r ++ [qa] ++ [qb]).length = r.length + 1 + 1 by simp] at ho4'
          obtain ⟨A5, c5, rfl⟩ := own_slice ho4'
          have hA3 : AccAt w3 w1.heap.size B acc' := hAk.out.below hb4
          have HT3 := Aside0.mk hT3
          have HA3 := Aside0.mk hA3
          have HB3 : Aside0 (Below w1.heap.size w1 w3) := ⟨hWk.out.trans (hb4.mono hWs)⟩
          clear ho4 ho4' hT3 hA3 hb4 hg4 hx1
          have hdec : acc'.length + 1 ≤ 3000 ∨ ¬ acc'.length + 1 ≤ 3000 := Decidable.em _
          rcases hdec with hd | hd
          · have hd1 : decide (acc'.length + 1 ≤ 3000) = true := decide_eq_true hd
            have hc := take_calls w3 HA3.out HT3.out (by omega)
            rw [hd1] at hc
            have HCC := Aside0.mk hc
            clear hc hd1
            go_wp2_with (go_at_call 64; refine HCC.out.mono ?_; rintro e w4 ⟨rfl, hA4, hB4⟩)
            rw [← ht2]
            go_roundg (ps.length - (k + 1))
            case measure => omega
            case rel =>
              refine ⟨k + 1, acc' ++ [r ++ [qa] ++ [qb]], by omega, Nat.le_refl _, by go_num, ⟨?_⟩, by simpa using hd, ⟨hA4⟩, ⟨HB3.out.trans hB4⟩⟩
              rw [HTK.out, hacc.out, HEX.out, List.append_assoc]
          · have hd1 : decide (acc'.length + 1 ≤ 3000) = false := decide_eq_false hd
            have hc := take_calls w3 HA3.out HT3.out (by omega)
            rw [hd1] at hc
            have HCC := Aside0.mk hc
            clear hc hd1
            go_wp2_with (go_at_call 64; refine HCC.out.mono ?_; rintro e w4 ⟨rfl, hA4, hB4⟩)
            go_ret
            have hlen : 3000 < acc.length + (extM ps r f t).length := by
              have h5 : acc'.length = acc.length + ((ps.take k).flatMap (ext1 r t)).length := by rw [hacc.out, List.length_append]
              have h6 := HLN.out
              rw [HEX.out] at h6
              rw [HE.out]
              simp only [List.length_singleton] at h6
              omega
            refine ⟨ret_eq (by rw [decide_eq_false (by omega)]; rfl), fun h => by omega, HB3.out.trans hB4⟩
        · have htl : t < (r ++ [qa]).length := by have := HT.out; simp; omega
          have ht2 : ((t : Int) == (r.length : Int) + 1) = false := beq_eq_false_iff_ne.2 (by omega)
          have hT3 : TupAt wc (fun _ => True) (.slice A3 (r.length + 1) c3) (r ++ [qa]) := tup_ofOwn (by simpa using ho3) (fun _ _ => trivial)
          obtain ⟨g5, off5, u5, rfl, hr5, _, rfl, _⟩ := SlAt.at_ hT3 t htl
          have hgd : (r ++ [qa]).getD t 0 = (r ++ [qa])[t] := by rw [List.getD_eq_getElem?_getD, List.getElem?_eq_getElem htl]; rfl
          have i5 : (t : Int) < (r.length : Int) + 1 := by simp at htl; omega
          have i6 : ¬ ((r.length : Int) + 1 ≤ (t : Int)) := by omega
          by_cases hne : (r ++ [qa])[t] = qb
          · have he : ext1 r t (qa, qb) = [r ++ [qa]] := by simp only [ext1, if_neg ht1, hgd, if_pos hne]
            have HEX := Aside0.mk he
            rw [hne] at hr5
            clear he hgd hne
            have HT3 := Aside0.mk hT3
            have HA3' : Aside0 (AccAt wc w1.heap.size B acc') := ⟨hAk.out.below HBR.out⟩
            clear hT3 ho3
            go_wp2_with fail
            go_quiet (fail)
            have HA3 : Aside0 (AccAt (wc.drewN nq) w1.heap.size B acc') := ⟨HA3'.out⟩
            have HT3 : Aside0 (TupAt (wc.drewN nq) (fun _ => True) (.slice (some ⟨g5, off5, none⟩) (r.length + 1) c3) (r ++ [qa])) := ⟨HT3.out⟩
            have HB3 : Aside0 (Below w1.heap.size w1 (wc.drewN nq)) := ⟨pw_below_drewN HBX.out _⟩
            clear hx1 hr5 HBX HBR HA3' HO3
            generalize wc.drewN nq = w3 at *
            have hdec : acc'.length + 1 ≤ 3000 ∨ ¬ acc'.length + 1 ≤ 3000 := Decidable.em _
            rcases hdec with hd | hd
            · have hd1 : decide (acc'.length + 1 ≤ 3000) = true := decide_eq_true hd
              have hc := take_calls w3 HA3.out HT3.out (by omega)
              rw [hd1] at hc
              have HCC := Aside0.mk hc
              clear hc hd1
              go_wp2_with (go_at_call 64; refine HCC.out.mono ?_; rintro e w4 ⟨rfl, hA4, hB4⟩)
              go_roundg (ps.length - (k + 1))
              case measure => omega
              case rel =>
                refine ⟨k + 1, acc' ++ [r ++ [qa]], by omega, Nat.le_refl _, by go_num, ⟨?_⟩, by simpa using hd, ⟨hA4⟩, ⟨HB3.out.trans hB4⟩⟩
                rw [HTK.out, hacc.out, HEX.out, List.append_assoc]
            · have hd1 : decide (acc'.length + 1 ≤ 3000) = false := decide_eq_false hd
              have hc := take_calls w3 HA3.out HT3.out (by omega)
              rw [hd1] at hc
              have HCC := Aside0.mk hc
              clear hc hd1
              go_wp2_with (go_at_call 64; refine HCC.out.mono ?_; rintro e w4 ⟨rfl, hA4, hB4⟩)
              go_ret
              have hlen : 3000 < acc.length + (extM ps r f t).length := by
                have h5 : acc'.length = acc.length + ((ps.take k).flatMap (ext1 r t)).length := by rw [hacc.out, List.length_append]
                have h6 := HLN.out
                rw [HEX.out] at h6
                rw [HE.out]
                simp only [List.length_singleton] at h6
                omega
              refine ⟨ret_eq (by rw [decide_eq_false (by omega)]; rfl), fun h => by omega, HB3.out.trans hB4⟩
          · have he : ext1 r t (qa, qb) = [] := by simp only [ext1, if_neg ht1, hgd, if_neg hne]
            have HEX := Aside0.mk he
            clear he hgd
            generalize (r ++ [qa])[t] = zt at *
            have HT3 := Aside0.mk hT3
            have HA3' : Aside0 (AccAt wc w1.heap.size B acc') := ⟨hAk.out.below HBR.out⟩
            clear hT3 ho3
            go_wp2_with fail
            go_quiet (fail)
            go_wp2
            go_roundg (ps.length - (k + 1))
            case measure => omega
            case rel =>
              refine ⟨k + 1, acc', by omega, Nat.le_refl _, by go_num, ⟨?_⟩, hal, ⟨HA3'.out⟩, ⟨pw_below_drewN HBX.out _⟩⟩
              rw [HTK.out, hacc.out, HEX.out, List.append_nil]
    · have hkk : k = ps.length := by omega
      subst hkk
      go_wp2
      go_ret
      have hall : acc' = acc ++ extM ps r f t := by rw [HE.out, hacc.out, List.take_length]
      rw [hall] at hal hAk
      rw [List.length_append] at hal
      exact ⟨ret_eq (by rw [decide_eq_true hal]; rfl), fun _ => hAk.out, hWk.out⟩
end Go.Proofs.Ytcchcifcfcpjiaa.J
