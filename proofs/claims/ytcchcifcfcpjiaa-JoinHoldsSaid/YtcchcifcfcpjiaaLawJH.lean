/- For every view, every edges and every row the law JoinHolds returns true, and its arguments read afterwards as they did before. Conditions: none. -/
import Derived.Test.YtcchcifcfcpjiaaRows
import Derived.Test.YtcchcifcfcpjiaaJT
import Derived.Test.YtcchcifcfcpjiaaRO
import Derived.WalkKit
import Derived.ProofKit
import Derived.OpenShut
import Derived.ShutString
import Derived.ChangeOld
import Derived.Below
import Derived.SizedLaws
namespace Go.Proofs.Ytcchcifcfcpjiaa.joinHolds
open Go.ChangeShapes Go.WideShapes Go.ChangeAt Go.RowKit Go.Proofs.Ytcchcifcfcpjiaa.PJ Go.Proofs.Ytcchcifcfcpjiaa.J Go.Proofs.YtcchcifcfcpjiaaW.PrintWords
open Go.ChangeMaps (open_string shut_string)
set_option linter.unusedVariables false
theorem own : ownKnob Try.prog.godebug = none := by kernel_rfl
theorem laidOut : laidOutB Try.prog = true := by kernel_rfl
set_option maxRecDepth 100000 in
theorem lifted (os : Os) (started : os.Started) (H : Type) (enc : TypeId × Value → H) :
    ReturnsInHanded {} Try.checked os 5 .any (Rows.joinHoldsSpec.pre6 enc Try.prog Try.f5 Rows.joinHoldsRow.domain false) (Rows.joinHoldsSpec.post enc Try.prog Try.f5 false true false false) := by
  refine returnsInHanded_of_change_sized (C := Try.checked) own started (by kernel_rfl) Try.func5
    (ChangeSpec.witness6 (enc := enc) (C := Try.checked) false ⟨#[], #[.agg #[.string ByteArray.empty, .int .i64 0, .slice none 0 0, .slice none 0 0, .string ByteArray.empty], .slice none 0 0, .slice none 0 0], []⟩ 8 (by kernel_rfl) (by kernel_rfl) (by kernel_rfl) (by kernel_rfl)) ?_
  intro W base args ds gs before hval0 hW hcnd hsz0 _
  have hval : ∀ (j : Nat) t v, Try.f5.params[j]? = some t → args[j]? = some v → Value.okWide Try.prog W .any base t v := hval0
  have hW' := hW
  obtain ⟨p, q, hA0, hV, rfl, hfz, hnd⟩ := hW
  have hA : DataW.TrodAll enc Try.prog W 0 (fun _ => true) true Try.f5.params.toList args.toList ds p := hA0
  rw [Try.params5] at hA hval
  obtain ⟨v0, vs0, d0, ds0, p0, q0, hargs, rfl, rfl, h0, r0⟩ := trodAll_cons hA
  obtain ⟨v1, vs1, d1, ds1, p1, q1, rfl, rfl, rfl, h1, r1⟩ := trodAll_cons r0
  obtain ⟨v2, vs2, d2, ds2, p2, q2, rfl, rfl, rfl, h2, r2⟩ := trodAll_cons r1
  obtain ⟨rfl, rfl, rfl⟩ := trodAll_nil r2
  obtain rfl : args = #[v0, v1, v2] := by cases args; simp_all
  obtain ⟨rfl, rfl⟩ := trodVars_none hV
  have k0 := h0
  have k1 := h1
  have k2 := h2
  have lt0 : ∀ x ∈ p0, x.block < W.heap.size := by obtain ⟨m, hm⟩ := k0; exact DataW.trod_lt m _ _ _ hm
  have lt1 : ∀ x ∈ p1, x.block < W.heap.size := by obtain ⟨m, hm⟩ := k1; exact DataW.trod_lt m _ _ _ hm
  have lt2 : ∀ x ∈ p2, x.block < W.heap.size := by obtain ⟨m, hm⟩ := k2; exact DataW.trod_lt m _ _ _ hm
  obtain ⟨cs0, rfl, _⟩ := okWide_struct Try.underlying59 (hval 0 59 v0 rfl rfl)
  obtain ⟨a1, len1, cap1, rfl⟩ := okWide_slice Try.underlying60 (hval 1 60 v1 rfl rfl)
  obtain ⟨a2, len2, cap2, rfl⟩ := okWide_slice Try.underlying75 (hval 2 75 v2 rfl rfl)
  obtain ⟨n0, t0⟩ := h0
  obtain ⟨n1, t1⟩ := h1
  obtain ⟨n2, t2⟩ := h2
  obtain ⟨nm, lb, kd, A2, A3, c2, c3, out, ats, hcs, l2, l3, C2, C3, s0, s4, P3⟩ := open_view t0
  obtain ⟨Ae, ce, es, he, le, Ce, _⟩ := open_C k82 (fun z => z.f1.size ≤ maxLen) Try.underlying60 (by kernel_rfl) el_82 t1
  obtain ⟨Ar, cr, row, hrr, lr, Cr, _⟩ := open_C (Kd.int .i64) (fun _ => True) Try.underlying75 (by kernel_rfl) el_int t2
  have hcs' : (Value.agg cs0) = .agg #[.string nm, .int .i64 kd, .slice A2 out.length c2, .slice A3 ats.length c3, .string lb] := by
    congr 1
    apply Array.ext'
    simpa [Value.cells] using hcs
  have he' : (Value.slice a1 len1 cap1) = .slice Ae es.length ce := by simpa [Value.cells] using he
  have hrr' : (Value.slice a2 len2 cap2) = .slice Ar row.length cr := by simpa [Value.cells] using hrr
  obtain ⟨k, hk⟩ := (law_val nm lb kd out ats es row ⟨s0, s4, P3⟩).rounds
  have hc := rhizomelaw11_JoinHolds.calls k nm kd A2 c2 out A3 c3 ats lb Ae ce es Ar cr row true W C2 l2 C3 l3 Ce le Cr lr hk
  rw [← hcs', ← he', ← hrr'] at hc
  clear hA0 hval0 hsz0
  refine hc.mono fun e W' ⟨he, bel⟩ => ?_
  subst he
  exact ⟨_, rfl, _, _, _, [], _, [], hW', trodAll_mk1 (shut_bool Try.underlying4 _), (trodAll_cons_mk (Below.trod laidOut (by kernel_rfl) (of_decide_eq_true (by kernel_rfl)) k0 bel lt0) (trodAll_cons_mk (Below.trod laidOut (by kernel_rfl) (of_decide_eq_true (by kernel_rfl)) k1 bel lt1) (trodAll_cons_mk (Below.trod laidOut (by kernel_rfl) (of_decide_eq_true (by kernel_rfl)) k2 bel lt2) trodAll_mk0))), rfl, bel.frame _, fun h => by cases h⟩
theorem over : Rows.joinHoldsRow.holds Try.pinned (OpenSpec.ofChange Rows.joinHoldsSpec) :=
  OpenClaim.holds_of_wide 5 Try.f5 rfl rfl rfl rfl rfl rfl rfl ⟨rfl, rfl, rfl, rfl, rfl⟩ rfl rfl rfl rfl rfl (by kernel_rfl) Try.func5 (by kernel_rfl)
    (of_decide_eq_true (by kernel_rfl)) (by unfold Func.isWrapper; first | (rw [if_pos (by decide +kernel)]; kernel_rfl) | (rw [if_neg (by decide +kernel)]; exact ⟨rfl, rfl⟩))
    (fun os started H enc _ => lifted os started H enc)
theorem proved : Rows.JoinHoldsSaid := over
#print axioms proved
end Go.Proofs.Ytcchcifcfcpjiaa.joinHolds
namespace Go.Proofs.Ytcchcifcfcpjiaa
/-- The row, under a short name, for the claim. -/
theorem joinHolds_holds : Rows.JoinHoldsSaid := joinHolds.proved
end Go.Proofs.Ytcchcifcfcpjiaa
