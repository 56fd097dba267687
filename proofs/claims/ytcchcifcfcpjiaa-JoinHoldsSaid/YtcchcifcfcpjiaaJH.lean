/- join.Holds. -/
import Derived.Test.YtcchcifcfcpjiaaJW
import Derived.Test.YtcchcifcfcpjiaaPJx1
set_option linter.unusedVariables false
set_option linter.unusedSimpArgs false
namespace Go.Proofs.Ytcchcifcfcpjiaa.J
open Go.RowKit Go.Proofs.YtcchcifcfcpjiaaW.PrintWords Go.Proofs.YtcchcifcfcpjiaaW.PrintLast Go.Proofs.YtcchcifcfcpjiaaW.PrintMore Go.Proofs.Ytcchcifcfcpjiaa.PJ

def eqE (x y : S82) : Bool := x.f0 == y.f0 && (x.f1.toList == y.f1.toList && (x.f2 == y.f2))
def encE (x : S82) : Value := .agg #[.int .i64 x.f0, .string x.f1, .int .i64 x.f2]
theorem q82 (x y : S82) (W : World) : (binOp .eql 82 (encE x) (encE y)).run Try.prog W = .ok (.bool (eqE x y)) W := by
  have h : Sem.run Try.prog (Op.equal 82 (encE x) (encE y)) W = .ok (eqE x y) W := eqA82 9998 W x.f0 y.f0 x.f1 y.f1 x.f2 y.f2
  show Sem.run Try.prog (do let r ← Op.equal 82 (encE x) (encE y); pure (Value.bool r)) W = _
  simp only [Sem.run_bind, h, Result.andThen_ok, Sem.run_pure]

set_option maxRecDepth 100000 in
theorem indexE_calls (w : World) {A : Option Addr} {c : Nat} {es : List S82} (hC : Kd.C k82 w A es.length es) (hl : es.length ≤ 1000000) (e : S82) :
    Calls Try.prog 108 #[.slice A es.length c, encE e] w fun ee w' => (∃ r : Int, ee = .returned (.int .i64 r) ∧ decide (r ≥ 0) = es.any (eqE e)) ∧ Below w.heap.size w w' := by
  have HC := Aside0.mk hC
  clear hC
  obtain ⟨e0, e1, e2⟩ := e
  have hq := fun y W => q82 ⟨e0, e1, e2⟩ y W
  show Calls Try.prog 108 #[.slice A es.length c, .agg #[.int .i64 e0, .string e1, .int .i64 e2]] w _
  go_enter Try.func108, Try.ntmps108
  go_upto_region 1 with fail
  have HB : Aside0 (Below w.heap.size w (w.alloc (.cells #[.int .i64 e0, .string e1, .int .i64 e2] 82))) := ⟨below_alloc (Below.refl _ _) _⟩
  have HQ : Aside0 ((w.alloc (.cells #[.int .i64 e0, .string e1, .int .i64 e2] 82)).heap[w.heap.size]? = some (.cells #[.int .i64 e0, .string e1, .int .i64 e2] 82 (0, 0))) := ⟨heap_alloc_new _ _⟩
  have HC1 : Aside0 (Kd.C k82 (w.alloc (.cells #[.int .i64 e0, .string e1, .int .i64 e2] 82)) A es.length es) := ⟨Kd.C_below HC.out HB.out⟩
  clear HC
  generalize w.alloc (.cells #[.int .i64 e0, .string e1, .int .i64 e2] 82) = w1 at *
  have HSz : Aside0 (w.heap.size ≤ w1.heap.size) := ⟨HB.out.size⟩
  go_wp2_with fail
  go_loopg [8] es.length (fun gk s8 wr => ∃ (i : Nat), i ≤ es.length ∧ es.length - i ≤ gk ∧ s8 = .int .i64 i ∧ Aside0 ((es.take i).any (eqE ⟨e0, e1, e2⟩) = false) ∧ Aside0 (Below w1.heap.size w1 wr))
  case atStart => exact ⟨0, Nat.zero_le _, by omega, rfl, ⟨rfl⟩, ⟨Below.refl _ _⟩⟩
  case round =>
    obtain ⟨i, hi, hgk, rfl, hno, hBr⟩ := hrel
    by_cases hlt : i < es.length
    · obtain ⟨ad, had, hd0, hd1, hd2⟩ := at_T82 (Kd.C_below HC1.out hBr.out) (i : Int) (by omega) (by omega)
      have hrd : rd_T82 es (i : Int) = es[i] := by unfold rd_T82; rw [Int.toNat_natCast, List.getD_eq_getElem?_getD, List.getElem?_eq_getElem hlt]; rfl
      rw [hrd] at hd0 hd1 hd2
      rw [Int.toNat_natCast] at hd0 hd1 hd2
      subst had
      have i3 : (i : Int) < (es.length : Int) := by omega
      have hqw := (hBr.out.block w.heap.size (Array.getElem?_eq_some_iff.1 HQ.out).1).trans HQ.out
      have k0 := cell_at hqw 0
      have k1 := cell_at hqw 1
      have k2 := cell_at hqw 2
      have htk : (es.take (i + 1)).any (eqE ⟨e0, e1, e2⟩) = eqE ⟨e0, e1, e2⟩ es[i] := by
        rw [List.take_add_one, List.getElem?_eq_getElem hlt, List.any_append, hno.out]
        simp
      have HTK := Aside0.mk htk
      generalize hek : es[i] = ed at *
      have hqe := fun W => hq ed W
      have hyes : eqE ⟨e0, e1, e2⟩ ed = true → es.any (eqE ⟨e0, e1, e2⟩) = true := fun h => List.any_eq_true.2 ⟨ed, by rw [← hek]; exact List.getElem_mem _, h⟩
      have HY := Aside0.mk hyes
      clear hek hrd hyes htk hqw hq
      obtain ⟨x0, x1, x2⟩ := ed
      change ∀ W, (binOp .eql 82 (.agg #[.int .i64 e0, .string e1, .int .i64 e2]) (.agg #[.int .i64 x0, .string x1, .int .i64 x2])).run Try.prog W = _ at hqe
      simp only at hd0 hd1 hd2
      cases hdd : eqE ⟨e0, e1, e2⟩ ⟨x0, x1, x2⟩ with
      | true =>
        rw [hdd] at hqe
        have hy := HY.out hdd
        have HY2 := Aside0.mk hy
        clear hy HY HTK hdd
        go_wp2_with fail
        go_quiet (fail)
        go_wp2
        go_ret
        exact ⟨⟨_, rfl, by rw [HY2.out]; exact decide_eq_true (by omega)⟩, HB.out.trans ((pw_below_drewN hBr.out _).mono HSz.out)⟩
      | false =>
        rw [hdd] at hqe
        have HTK2 : Aside0 _ := ⟨HTK.out.trans hdd⟩
        clear HY HTK hdd
        go_wp2_with fail
        go_quiet (fail)
        go_wp2
        go_roundg (es.length - (i + 1))
        case measure => omega
        case rel =>
          exact ⟨i + 1, by omega, Nat.le_refl _, by go_num, HTK2, ⟨pw_below_drewN hBr.out _⟩⟩
    · have hii : i = es.length := by omega
      subst hii
      go_wp2
      go_ret
      refine ⟨⟨_, rfl, ?_⟩, HB.out.trans (hBr.out.mono HSz.out)⟩
      rw [← List.take_length (l := es), hno.out]
      rfl

set_option maxRecDepth 100000 in
theorem containsE_calls (w : World) {A : Option Addr} {c : Nat} {es : List S82} (hC : Kd.C k82 w A es.length es) (hl : es.length ≤ 1000000) (e : S82) :
    Calls Try.prog 80 #[.slice A es.length c, encE e] w fun ee w' => ee = .returned (.bool (es.any (eqE e))) ∧ Below w.heap.size w w' := by
  have HC := Aside0.mk hC
  clear hC
  have hcall := fun W h => indexE_calls (c := c) W (A := A) h hl e
  obtain ⟨e0, e1, e2⟩ := e
  change ∀ W, _ → Calls Try.prog 108 #[.slice A es.length c, .agg #[.int .i64 e0, .string e1, .int .i64 e2]] W _ at hcall
  have HCL := Aside0.mk hcall
  clear hcall
  show Calls Try.prog 80 #[.slice A es.length c, .agg #[.int .i64 e0, .string e1, .int .i64 e2]] w _
  go_enter Try.func80, Try.ntmps80
  go_upto_region 1 with fail
  have HB : Aside0 (Below w.heap.size w (w.alloc (.cells #[.int .i64 e0, .string e1, .int .i64 e2] 82))) := ⟨below_alloc (Below.refl _ _) _⟩
  have hq : ((w.alloc (.cells #[.int .i64 e0, .string e1, .int .i64 e2] 82)).heap[w.heap.size]? = some (.cells #[.int .i64 e0, .string e1, .int .i64 e2] 82 (0, 0))) := heap_alloc_new _ _
  have k0 := cell_at hq 0
  have k1 := cell_at hq 1
  have k2 := cell_at hq 2
  clear hq
  generalize w.alloc (.cells #[.int .i64 e0, .string e1, .int .i64 e2] 82) = w1 at *
  go_wp2_with (go_at_call 108; (with_reducible refine (HCL.out _ ?side1).mono ?_); (case side1 => exact Kd.C_below HC.out HB.out); rintro ee w2 ⟨⟨r, rfl, hr⟩, hb2⟩)
  go_ret
  exact ⟨(by first | rfl | exact ret_eq (congrArg Value.bool hr)), HB.out.trans (hb2.mono HB.out.size)⟩

/-- IndexFunc and ContainsFunc over atoms. -/
theorem indexF_calls (w : World) {A : Option Addr} {c : Nat} {ats : List S118} (hC : Kd.C k118 w A ats.length ats) (hl : ats.length ≤ 1000000) {lb : Array Value} {b1 b2 b3 : Value} (hlb : lb = #[b1, b2, b3]) (p : S118 → Bool)
    (hp : ∀ W, Below w.heap.size w W → ∀ a ∈ ats, Calls Try.prog 79 #[.agg #[.string a.f0, .string a.f1, .string a.f2], b1, b2, b3] W fun e w' => e = .returned (.bool (p a)) ∧ Below W.heap.size W w') :
    Calls Try.prog 107 #[.slice A ats.length c, .func (.func 79) #[] lb] w fun ee w' => (∃ r : Int, ee = .returned (.int .i64 r) ∧ decide (r ≥ 0) = ats.any p) ∧ Below w.heap.size w w' := by
  subst hlb
  have HC := Aside0.mk hC
  have HP := Aside0.mk hp
  clear hC hp
  go_enter Try.func107, Try.ntmps107
  go_wp2_with fail
  go_loopg [8] ats.length (fun gk s8 wr => ∃ (i : Nat), i ≤ ats.length ∧ ats.length - i ≤ gk ∧ s8 = .int .i64 i ∧ Aside0 ((ats.take i).any p = false) ∧ Aside0 (Below w.heap.size w wr))
  case atStart => exact ⟨0, Nat.zero_le _, by omega, rfl, ⟨rfl⟩, ⟨Below.refl _ _⟩⟩
  case round =>
    obtain ⟨i, hi, hgk, rfl, hno, hBr⟩ := hrel
    by_cases hlt : i < ats.length
    · obtain ⟨ad, had, hd0, hd1, hd2⟩ := at_T118 (Kd.C_below HC.out hBr.out) (i : Int) (by omega) (by omega)
      have hrd : rd_T118 ats (i : Int) = ats[i] := by unfold rd_T118; rw [Int.toNat_natCast, List.getD_eq_getElem?_getD, List.getElem?_eq_getElem hlt]; rfl
      rw [hrd] at hd0 hd1 hd2
      rw [Int.toNat_natCast] at hd0 hd1 hd2
      subst had
      have i3 : (i : Int) < (ats.length : Int) := by omega
      have HTK : Aside0 ((ats.take (i + 1)).any p = p ats[i]) := ⟨by
        rw [List.take_add_one, List.getElem?_eq_getElem hlt, List.any_append, hno.out]
        simp⟩
      have hcl := fun W hb => HP.out W hb ats[i] (List.getElem_mem _)
      have HY : Aside0 (p ats[i] = true → ats.any p = true) := ⟨fun h => List.any_eq_true.2 ⟨_, List.getElem_mem _, h⟩⟩
      generalize ats[i] = ed at *
      obtain ⟨x0, x1, x2⟩ := ed
      simp only at hd0 hd1 hd2
      clear hrd
      cases hdd : p ⟨x0, x1, x2⟩ with
      | true =>
        rw [hdd] at hcl
        have HCL := Aside0.mk hcl
        have HY2 : Aside0 (ats.any p = true) := ⟨HY.out hdd⟩
        clear HY HTK hdd hcl
        go_wp2_with (go_at_call 79; (with_reducible refine (HCL.out _ ?side1).mono ?_); (case side1 => exact hBr.out); rintro ee w2 ⟨rfl, hb2⟩)
        go_ret
        exact ⟨⟨_, rfl, by rw [HY2.out]; exact decide_eq_true (by omega)⟩, hBr.out.trans (hb2.mono hBr.out.size)⟩
      | false =>
        rw [hdd] at hcl
        have HCL := Aside0.mk hcl
        have HTK2 : Aside0 _ := ⟨HTK.out.trans hdd⟩
        clear HY HTK hdd hcl
        go_wp2_with (go_at_call 79; (with_reducible refine (HCL.out _ ?side1).mono ?_); (case side1 => exact hBr.out); rintro ee w2 ⟨rfl, hb2⟩)
        go_roundg (ats.length - (i + 1))
        case measure => omega
        case rel =>
          exact ⟨i + 1, by omega, Nat.le_refl _, by go_num, HTK2, ⟨hBr.out.trans (hb2.mono hBr.out.size)⟩⟩
    · have hii : i = ats.length := by omega
      subst hii
      go_wp2
      go_ret
      refine ⟨⟨_, rfl, ?_⟩, hBr.out⟩
      rw [← List.take_length (l := ats), hno.out]
      rfl

set_option maxRecDepth 100000 in
theorem containsF_calls (w : World) {A : Option Addr} {c : Nat} {ats : List S118} (hC : Kd.C k118 w A ats.length ats) (hl : ats.length ≤ 1000000) {lb : Array Value} {b1 b2 b3 : Value} (hlb : lb = #[b1, b2, b3]) (p : S118 → Bool)
    (hp : ∀ W, Below w.heap.size w W → ∀ a ∈ ats, Calls Try.prog 79 #[.agg #[.string a.f0, .string a.f1, .string a.f2], b1, b2, b3] W fun e w' => e = .returned (.bool (p a)) ∧ Below W.heap.size W w') :
    Calls Try.prog 78 #[.slice A ats.length c, .func (.func 79) #[] lb] w fun ee w' => ee = .returned (.bool (ats.any p)) ∧ Below w.heap.size w w' := by
  subst hlb
  have HCL := Aside0.mk (indexF_calls w (c := c) hC hl rfl p hp)
  clear hC hp
  go_enter Try.func78, Try.ntmps78
  go_wp2_with (go_at_call 107; (with_reducible refine HCL.out.mono ?_); rintro ee w2 ⟨⟨r, rfl, hr⟩, hb2⟩)
  go_ret
  exact ⟨(by first | rfl | exact ret_eq (congrArg Value.bool hr)), hb2⟩
end Go.Proofs.Ytcchcifcfcpjiaa.J
