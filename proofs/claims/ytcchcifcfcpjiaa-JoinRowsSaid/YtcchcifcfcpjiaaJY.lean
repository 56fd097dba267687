/- join.Result. -/
import Derived.Test.YtcchcifcfcpjiaaJW
import Derived.Test.YtcchcifcfcpjiaaJG
set_option linter.unusedVariables false
set_option linter.unusedSimpArgs false
namespace Go.Proofs.Ytcchcifcfcpjiaa.J
open Go.RowKit Go.Proofs.YtcchcifcfcpjiaaW.PrintWords Go.Proofs.YtcchcifcfcpjiaaW.PrintLast Go.Proofs.YtcchcifcfcpjiaaW.PrintMore Go.Proofs.Ytcchcifcfcpjiaa.PJ

set_option maxRecDepth 100000 in
theorem result_err (w : World) {nm lb : ByteArray} {kd : Int} {A2 A3 A1 : Option Addr} {c2 c3 c1 : Nat} {out : List ByteArray} {ats : List S118} {es : List S82} {cd : Int} (hcd : cd ≠ 0)
    (hr : ∀ W, Below w.heap.size w W → Calls Try.prog 27 #[.agg #[.string nm, .int .i64 kd, .slice A2 out.length c2, .slice A3 ats.length c3, .string lb], .slice A1 es.length c1] W fun e w' => e = .returned (.tuple #[.slice none 0 0, .int .i64 cd]) ∧ Below W.heap.size W w') :
    Calls Try.prog 28 #[.agg #[.string nm, .int .i64 kd, .slice A2 out.length c2, .slice A3 ats.length c3, .string lb], .slice A1 es.length c1] w fun e w' => e = .returned (.tuple #[.slice none 0 0, .slice none 0 0, .int .i64 cd]) ∧ Below w.heap.size w w' := by
  have HR := Aside0.mk hr
  clear hr
  have hu59 := Try.underlying59
  have hc0 : (cd != 0) = true := bne_iff_ne.2 hcd
  have hc1 : (cd == 0) = false := beq_eq_false_iff_ne.2 hcd
  clear hcd
  go_enter Try.func28, Try.ntmps28
  go_upto_region 1 with fail
  have hB1 : Below w.heap.size w (w.alloc (.cells #[.string nm, .int .i64 kd, .slice A2 out.length c2, .slice A3 ats.length c3, .string lb] 59)) := below_alloc (Below.refl _ _) _
  have hbx : (w.alloc (.cells #[.string nm, .int .i64 kd, .slice A2 out.length c2, .slice A3 ats.length c3, .string lb] 59)).heap[w.heap.size]? = some (.cells #[.string nm, .int .i64 kd, .slice A2 out.length c2, .slice A3 ats.length c3, .string lb] 59 (0, 0)) := heap_alloc_new _ _
  have k0 := cell_at hbx 0
  have k1 := cell_at hbx 1
  have k2 := cell_at hbx 2
  have k3 := cell_at hbx 3
  have k4 := cell_at hbx 4
  have HB1 := Aside0.mk hB1
  clear hB1 hbx
  generalize w.alloc (.cells #[.string nm, .int .i64 kd, .slice A2 out.length c2, .slice A3 ats.length c3, .string lb] 59) = w1 at *
  go_wp2_with (go_at_call 27; (with_reducible refine (HR.out _ ?side1).mono ?_); (case side1 => exact HB1.out); rintro e w2 ⟨rfl, hb2⟩)
  go_ret3
  exact ⟨rfl, HB1.out.trans (hb2.mono HB1.out.size)⟩

theorem clip70_calls (w : World) {ok : Nat → Prop} {v : Value} {xs : List Int} (h : TupAt w ok v xs) : Calls Try.prog 70 #[v] w fun e w' => (∃ v', e = .returned v' ∧ TupAt w' ok v' xs) ∧ w' = w := by
  have hl := SlAt.len_le h
  rcases h with ⟨rfl, rfl⟩ | ⟨g, off, cap, cur, rfl, h1, h2, h3, h4, h5, h6⟩
  · go_enter Try.func70, Try.ntmps70
    go_wp2
    go_ret
    exact ⟨⟨_, rfl, SlAt.nil _ _ _ _⟩, rfl⟩
  · have H6 : Hid (∀ (j : Nat) (x : Int), xs[j]? = some x → ∃ u, cur[off + j]? = some u ∧ u = .int .i64 x) := h6
    have H4 : Hid (cap ≤ maxLen) := h4
    have Hl : Hid (xs.length ≤ maxLen) := hl
    unfold maxLen at hl h4
    clear h6
    go_enter Try.func70, Try.ntmps70
    go_wp2
    go_ret
    exact ⟨⟨_, rfl, .inr ⟨g, off, xs.length, cur, rfl, h1, h2, Nat.le_refl _, Hl.out, Nat.le_trans (Nat.add_le_add_left h3 _) h5, H6.out⟩⟩, rfl⟩
end Go.Proofs.Ytcchcifcfcpjiaa.J
