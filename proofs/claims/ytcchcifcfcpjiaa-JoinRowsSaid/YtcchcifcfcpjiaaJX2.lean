/- join.extend where the first variable alone is known. -/
import Derived.Test.YtcchcifcfcpjiaaJX
set_option linter.unusedVariables false
set_option linter.unusedSimpArgs false
namespace Go.Proofs.Ytcchcifcfcpjiaa.J
open Go.RowKit Go.Proofs.YtcchcifcfcpjiaaW.PrintWords Go.Proofs.YtcchcifcfcpjiaaW.PrintLast Go.Proofs.YtcchcifcfcpjiaaW.PrintMore Go.Proofs.Ytcchcifcfcpjiaa.PJ

set_option maxRecDepth 100000 in
set_option maxHeartbeats 2000000 in
theorem extend_from (w1 w : World) {B : Nat} {acc : List (List Int)} {ok : Nat → Prop} {v : Value} {r : List Int} {p : Nat} {ps : List (Int × Int)} {f t : Nat} (hbw : Below w1.heap.size w1 w) (hsz : w1.heap.size ≤ w.heap.size)
    (hx : IxAt w1 p ps) (hr : TupAt w1 ok v r) (hA : AccAt w w1.heap.size B acc) (hl : acc.length ≤ 3000) (hf : f < r.length) (ht : ¬ t < r.length) (hrl : r.length ≤ 100000) (hpl : ps.length ≤ 100000) :
    Calls Try.prog 65 #[.pointer (some ⟨p, 0, none⟩), v, .int .i64 f, .int .i64 t, .func (.func 64) #[] #[.pointer (some ⟨B, 0, none⟩)]] w (ExtPost w1.heap.size B w1 acc (extM ps r f t)) := by
  obtain ⟨A, cc, rfl, hcc, hC⟩ := TupAt.reads hr
  obtain ⟨g, off, u1, rfl, h1, _, rfl, _⟩ := SlAt.at_ hr f hf
  obtain ⟨bf, va, bh, lf, cf, lh, ch, hp, _, hh, hc, _, _⟩ := hx
  obtain ⟨u, hu, hown⟩ := hc r[f]
  have hcell1 : w1.cell? ⟨p, 0, none⟩ = some (.map (some bf)) := by simp [World.cell?, hp]
  have hcell : w.cell? ⟨p, 0, none⟩ = some (.map (some bf)) := pw_cell_below hbw hcell1
  have h1' : w.cell? ⟨g, off + f, none⟩ = some (.int .i64 r[f]) := pw_cell_below hbw h1
  have hbf : w.heap[bf]? = w1.heap[bf]? := hbw.block bf (Array.getElem?_eq_some_iff.1 hh.1).1
  have hlk : ∀ n : Nat, (Instr.lookup 137 (.map (some bf)) (.int .i64 r[f]) false).run Try.prog (w.drewN n) = .ok u (w.drewN n) := fun n => by
    have h := run_lookup_my (w := w.drewN n) key_int Try.underlying137 (.slice none 0 0) zero66 (hh.step hbf) r[f]
    rw [hu] at h
    exact h
  have hext : extM ps r f t = (froms ps r[f]).map (fun b => r ++ [b]) := by simp [extM, hf, ht]
  have hfl : (froms ps r[f]).length ≤ 100000 := by
    unfold froms
    rw [List.length_map]
    exact Nat.le_trans (List.length_filter_le _ _) hpl
  have HE := Aside0.mk hext
  have HA := Aside0.mk hA
  have HC := Aside0.mk hC
  have HW := Aside0.mk hbw
  have i1 : (f : Int) < (r.length : Int) := by omega
  have i2 : ¬ (t : Int) < (r.length : Int) := by omega
  clear hext hA hr hp hh hc hu hC h1 hbw hbf hcell1
  generalize r[f] = rf at *
  generalize hbs : froms ps rf = bs at *
  clear hbs
  obtain ⟨Au, cu, hue, hReads⟩ := own_reads (k := .i64) (xs := bs) hown
  subst hue
  have HO := Aside0.mk hown
  have HRd := Aside0.mk hReads
  clear hown hReads
  go_enter Try.func65, Try.ntmps65
  go_wp2_with fail
  go_quiet (fail)
  go_wp2_with fail
  clear hlk hcell h1'
  have HA2 : Aside0 (AccAt (w.drewN nq) w1.heap.size B acc) := ⟨HA.out⟩
  have HW2 : Aside0 (Below w1.heap.size w1 (w.drewN nq)) := ⟨pw_below_drewN HW.out _⟩
  go_loopg [100] bs.length (fun gk s100 wr => ∃ (k : Nat) (acc' : List (List Int)), k ≤ bs.length ∧ bs.length - k ≤ gk ∧ s100 = .int .i64 k ∧ Aside0 (acc' = acc ++ (bs.take k).map (fun b => r ++ [b])) ∧ acc'.length ≤ 3000 ∧ Aside0 (AccAt wr w1.heap.size B acc') ∧ Aside0 (Below w1.heap.size w1 wr))
  case atStart => exact ⟨0, acc, Nat.zero_le _, by omega, rfl, ⟨by simp⟩, hl, HA2, HW2⟩
  case round =>
    obtain ⟨k, acc', hk, hgk, rfl, hacc, hal, hAk, hWk⟩ := hrel
    clear HA2 HW2 HA HW
    have hWs := hWk.out.size
    by_cases hlt : k < bs.length
    · obtain ⟨ad, had, hcb⟩ := ReadsInt.at_ HRd.out (k : Int) (by omega) (by omega)
      rw [rd_at bs k hlt, Int.toNat_natCast] at hcb
      subst had
      have hcb2 : wr.cell? (ad.add k) = some (.int .i64 bs[k]) := pw_cell_below hWk.out hcb
      have htk : bs.take (k + 1) = bs.take k ++ [bs[k]] := by rw [List.take_add_one, List.getElem?_eq_getElem hlt]; rfl
      have HTK := Aside0.mk htk
      have hcr := Kd.C_below HC.out hWk.out
      have i3 : (k : Int) < (bs.length : Int) := by omega
      clear htk hcb
      generalize bs[k] = b at *
      go_wp2_with (first | (go_at_call 97; refine (clone_own _ hcr (by omega)).mono ?_; rintro e w2 ⟨⟨v2, rfl, ho2⟩, hb2⟩; obtain ⟨A2, c2, rfl⟩ := own_slice ho2; (have HO2 := Aside0.mk ho2); (have HB2 := Aside0.mk hb2); clear ho2 hb2) | (at_builtin; refine print_append (w0 := wr) wr.heap.size rfl (.tmp 106) (.tmp 108) 75 3 (.int .i64 0) 8 rfl Try.underlying75 info3 rfl (by decide) (.slice A2 r.length c2) (nums .i64 r) (.int .i64 b) rfl rfl ?c1 ?c2 ?c3 ?c4 ?c5 ?_))
      case c1 => rfl
      case c2 => rw [nums_length]; exact HO2.out
      case c3 => exact HB2.out
      case c4 => exact HB2.out.size
      case c5 => rw [nums_length]; omega
      intro v3 w3 ho3 hb3 hg3 _
      have ho3' : w3.ownsRow wr.heap.size 3 1 v3 (r ++ [b]).length (nums .i64 (r ++ [b])) := by
        rw [nums_append]
        simpa [nums] using ho3
      have hT3 : TupAt w3 (fun _ => True) v3 (r ++ [b]) := tup_ofOwn ho3' (fun _ _ => trivial)
      rw [show (r ++ [b]).length = r.length + 1 by simp] at ho3'
      obtain ⟨A3, c3, rfl⟩ := own_slice ho3'
      have hA3 : AccAt w3 w1.heap.size B acc' := hAk.out.below hb3
      have HT3 := Aside0.mk hT3
      have HA3 := Aside0.mk hA3
      have HB3 : Aside0 (Below w1.heap.size w1 w3) := ⟨hWk.out.trans (hb3.mono hWs)⟩
      clear ho3 ho3' hT3 hA3 hb3 hg3 hcb2 hcr
      have hdec : acc'.length + 1 ≤ 3000 ∨ ¬ acc'.length + 1 ≤ 3000 := Decidable.em _
      rcases hdec with hd | hd
      · have hd1 : decide (acc'.length + 1 ≤ 3000) = true := decide_eq_true hd
        have hc := take_calls w3 HA3.out HT3.out (by omega)
        rw [hd1] at hc
        have HCC := Aside0.mk hc
        clear hc hd1
        go_wp2_with (go_at_call 64; refine HCC.out.mono ?_; rintro e w4 ⟨rfl, hA4, hB4⟩)
        go_roundg (bs.length - (k + 1))
        case measure => omega
        case rel =>
          refine ⟨k + 1, acc' ++ [r ++ [b]], by omega, Nat.le_refl _, by go_num, ⟨?_⟩, by simpa using hd, ⟨hA4⟩, ⟨HB3.out.trans hB4⟩⟩
          rw [HTK.out, hacc.out]
          simp
      · have hd1 : decide (acc'.length + 1 ≤ 3000) = false := decide_eq_false hd
        have hc := take_calls w3 HA3.out HT3.out (by omega)
        rw [hd1] at hc
        have HCC := Aside0.mk hc
        clear hc hd1
        go_wp2_with (go_at_call 64; refine HCC.out.mono ?_; rintro e w4 ⟨rfl, hA4, hB4⟩)
        go_ret
        have hlen : 3000 < acc.length + (extM ps r f t).length := by
          have h5 : acc'.length = acc.length + k := by rw [hacc.out]; simp; omega
          rw [HE.out, List.length_map]
          omega
        refine ⟨ret_eq (by rw [decide_eq_false (by omega)]; rfl), fun h => by omega, HB3.out.trans hB4⟩
    · have hkk : k = bs.length := by omega
      subst hkk
      go_wp2
      go_ret
      have hall : acc' = acc ++ extM ps r f t := by rw [HE.out, hacc.out, List.take_length]
      rw [hall] at hal hAk
      rw [List.length_append] at hal
      exact ⟨ret_eq (by rw [decide_eq_true hal]; rfl), fun _ => hAk.out, hWk.out⟩
end Go.Proofs.Ytcchcifcfcpjiaa.J
