/- join.extend where both variables are known. -/
import Derived.Test.YtcchcifcfcpjiaaJX
set_option linter.unusedVariables false
set_option linter.unusedSimpArgs false
namespace Go.Proofs.Ytcchcifcfcpjiaa.J
open Go.RowKit Go.Proofs.YtcchcifcfcpjiaaW.PrintWords Go.Proofs.YtcchcifcfcpjiaaW.PrintLast Go.Proofs.YtcchcifcfcpjiaaW.PrintMore Go.Proofs.Ytcchcifcfcpjiaa.PJ

set_option maxRecDepth 100000 in
set_option maxHeartbeats 1000000 in
theorem extend_both (w : World) {base B : Nat} {acc : List (List Int)} {ok : Nat → Prop} {v : Value} {r : List Int} {p : Nat} {ps : List (Int × Int)} {f t : Nat}
    (hx : IxAt w p ps) (hr : TupAt w ok v r) (hA : AccAt w base B acc) (hl : acc.length ≤ 3000) (hf : f < r.length) (ht : t < r.length) (hrl : r.length ≤ 1000000) :
    Calls Try.prog 65 #[.pointer (some ⟨p, 0, none⟩), v, .int .i64 f, .int .i64 t, .func (.func 64) #[] #[.pointer (some ⟨B, 0, none⟩)]] w (ExtPost base B w acc (extM ps r f t)) := by
  obtain ⟨A, cc, rfl, hcc⟩ := SlAt.shape hr
  obtain ⟨g, off, u1, rfl, h1, _, rfl, _⟩ := SlAt.at_ hr f hf
  obtain ⟨g', off', u2, hg', h2, _, rfl, _⟩ := SlAt.at_ hr t ht
  injection hg' with hg'
  injection hg' with hg1 hg2
  subst hg1 hg2
  obtain ⟨bf, va, bh, lf, cf, lh, ch, hp, _, _, _, hh, hc⟩ := hx
  obtain ⟨c, hc1, hc2⟩ := hc (r[f], r[t])
  have hcell : w.cell? ⟨p, 2, none⟩ = some (.map (some bh)) := by simp [World.cell?, hp]
  have hlk : ∀ W : World, W.heap[bh]? = w.heap[bh]? → (Instr.lookup 158 (.map (some bh)) (.agg #[.int .i64 r[f], .int .i64 r[t]]) false).run Try.prog W = .ok (.int .i64 c) W := fun W hW => by
    have h := run_lookup_my key_pair Try.underlying158 (.int .i64 0) zero3 (hh.step hW) (r[f], r[t])
    rw [hc1] at h
    exact h
  have hext : extM ps r f t = if (r[f], r[t]) ∈ ps then [r] else [] := by
    simp [extM, hf, ht]
  have HE := Aside0.mk hext
  have HA := Aside0.mk hA
  have HR := Aside0.mk hr
  have HC := Aside0.mk hc2
  have i1 : (f : Int) < (r.length : Int) := by omega
  have i2 : (t : Int) < (r.length : Int) := by omega
  clear hext hA hr hc1 hc2 hp hh hc
  generalize r[f] = rf at *
  generalize r[t] = rt at *
  by_cases h0 : c = 0
  · subst h0
    have hq1 : ∀ n : Nat, (Instr.lookup 158 (.map (some bh)) (.agg #[.int .i64 rf, .int .i64 rt]) false).run Try.prog (w.drewN n) = .ok (.int .i64 0) (w.drewN n) := fun n => hlk _ rfl
    clear hlk
    go_enter Try.func65, Try.ntmps65
    go_wp2_with fail
    go_quiet (fail)
    go_wp2
    go_ret
    have he : extM ps r f t = [] := by rw [HE.out, if_neg (HC.out.1 trivial)]
    rw [he]
    refine ⟨ret_eq (by rw [decide_eq_true (by simpa using hl)]; rfl), fun _ => ?_, pw_below_drewN (Below.refl _ _) _⟩
    rw [List.append_nil]
    exact HA.out
  · have he : extM ps r f t = [r] := by rw [HE.out, if_pos (Classical.byContradiction fun h => h0 (HC.out.2 h))]
    have HE2 := Aside0.mk he
    have hc0 : (c == 0) = false := beq_eq_false_iff_ne.2 h0
    have hq0 := hlk w rfl
    have hq1 := hlk w.drew rfl
    clear he h0 HC HE hlk
    go_enter Try.func65, Try.ntmps65
    go_wp2_with fail
    go_still_tail 18, (by kernel_rfl)
    change wpList _ _ _ _ _ w.drew
    have HA2 : Aside0 (AccAt w.drew base B acc) := ⟨HA.out⟩
    have HR2 : Aside0 (TupAt w.drew ok (.slice (some ⟨g, off, none⟩) r.length cc) r) := ⟨HR.out⟩
    have HB2 : Aside0 (Below base w w.drew) := ⟨(Below.refl _ _).drew⟩
    clear hq0 hq1 hcell h1 h2 HA HR
    generalize w.drew = w2 at *
    go_wp2_with (go_at_call 64; refine (take_calls _ HA2.out HR2.out (by omega)).mono ?_; rintro e w3 ⟨rfl, hA3, hB3⟩)
    go_ret
    rw [HE2.out]
    refine ⟨ret_eq ?_, fun _ => hA3, HB2.out.trans hB3⟩
    show Value.bool _ = Value.bool _
    congr 1
    rw [Bool.eq_iff_iff]
    simp only [decide_eq_true_eq, List.length_singleton]
    omega
end Go.Proofs.Ytcchcifcfcpjiaa.J
