/- slices.Clone, slices.Clip at tuples, tuple.own. -/
import Derived.Test.YtcchcifcfcpjiaaJA
import Derived.WalkSpells
import Derived.Lib.SliceRun
set_option linter.unusedVariables false
set_option linter.unusedSimpArgs false
namespace Go.Proofs.Ytcchcifcfcpjiaa.J
open Go.RowKit Go.Proofs.YtcchcifcfcpjiaaW.PrintWords Go.Proofs.YtcchcifcfcpjiaaW.PrintLast Go.Proofs.YtcchcifcfcpjiaaW.PrintMore Go.Proofs.Ytcchcifcfcpjiaa.PJ

theorem ret_eq {v v' : Value} (h : v = v') : Ending.returned v = .returned v' := by rw [h]

theorem clip_calls (w : World) {ok : Nat → Prop} {v : Value} {xs : List Int} (h : TupAt w ok v xs) : Calls Try.prog 122 #[v] w fun e w' => (∃ v', e = .returned v' ∧ TupAt w' ok v' xs) ∧ w' = w := by
  have hl := SlAt.len_le h
  rcases h with ⟨rfl, rfl⟩ | ⟨g, off, cap, cur, rfl, h1, h2, h3, h4, h5, h6⟩
  · go_enter Try.func122, Try.ntmps122
    go_wp2
    go_ret
    exact ⟨⟨_, rfl, SlAt.nil _ _ _ _⟩, rfl⟩
  · have H6 : Hid (∀ (j : Nat) (x : Int), xs[j]? = some x → ∃ u, cur[off + j]? = some u ∧ u = .int .i64 x) := h6
    have H4 : Hid (cap ≤ maxLen) := h4
    have Hl : Hid (xs.length ≤ maxLen) := hl
    unfold maxLen at hl h4
    clear h6
    go_enter Try.func122, Try.ntmps122
    go_wp2
    go_ret
    exact ⟨⟨_, rfl, .inr ⟨g, off, xs.length, cur, rfl, h1, h2, Nat.le_refl _, Hl.out, Nat.le_trans (Nat.add_le_add_left h3 _) h5, H6.out⟩⟩, rfl⟩

theorem q75 : ∀ (w : World) (a : Option Addr) (n c n' c' : Nat), (binOp .eql 75 (.slice a n c) (.slice none n' c')).run Try.prog w = .ok (.bool a.isNone) w := fun w a n c n' c' => Lib.run_eql_slice_nil w _ _ a n c n' c' Try.underlying75

/-- The cells of a slice of ints. -/
theorem ints_cells {w : World} {ad : Addr} {xs : List Int} (h : (Kd.int .i64).C w (some ad) xs.length xs) : ∀ j u, (nums .i64 xs)[j]? = some u → w.cell? (ad.add j) = some u := by
  intro j u hj
  have hjl : j < xs.length := by have := (List.getElem?_eq_some_iff.1 hj).1; simpa [nums] using this
  obtain ⟨ad', he, hc⟩ := h.2.2 (by omega)
  injection he with he
  subst he
  obtain ⟨c, hcl, rfl, hcc⟩ := hc j xs[j] (List.getElem?_eq_getElem hjl)
  have := hcc 0 _ rfl
  have hu : u = .int .i64 xs[j] := by
    have h2 := hj
    simp [nums, List.getElem?_eq_getElem hjl] at h2
    exact h2.symm
  subst hu
  have h3 : j * (Kd.int .i64).sz + 0 = j := by show j * 1 + 0 = j; omega
  rw [h3] at this
  exact this

theorem tup_ofOwn {w : World} {base : Nat} {v : Value} {xs : List Int} {ok : Nat → Prop} (h : w.ownsRow base 3 1 v xs.length (nums .i64 xs)) (hok : ∀ k, v.ownBlock = some k → ok k) : TupAt w ok v xs :=
  SlAt.ofOwn h (by simp [nums]) (fun j u x hu hx => by simp [nums, hx] at hu; exact hu.symm) hok

set_option maxRecDepth 100000 in
theorem clone_own (w : World) {A : Option Addr} {c : Nat} {xs : List Int} (h : (Kd.int .i64).C w A xs.length xs) (hl : xs.length * 8 ≤ 140737488351232) : Calls Try.prog 97 #[.slice A xs.length c] w fun e w' => (∃ v', e = .returned v' ∧ w'.ownsRow w.heap.size 3 1 v' xs.length (nums .i64 xs)) ∧ Below w.heap.size w w' := by
  have hq := q75
  cases A with
  | none =>
    have hx : xs = [] := by
      cases xs with
      | nil => rfl
      | cons x l => obtain ⟨ad, he, _⟩ := h.2.2 (by simp); cases he
    subst hx
    go_enter Try.func97, Try.ntmps97
    go_wp2
    go_ret
    exact ⟨⟨_, rfl, own_nil _ _ _ _⟩, Below.refl _ _⟩
  | some ad =>
    have hcells := Aside0.mk (ints_cells h)
    clear h
    obtain ⟨i0, hi, hz0, hz1, hz2⟩ := info_parts info3
    go_enter Try.func97, Try.ntmps97
    go_wp2_with (at_builtin; refine wpList_append_own _ rfl _ _ 75 rfl w.heap.size 3 i0 (.int .i64 0) 1 8 Try.underlying75 hi hz0 hz1 hz2 rfl (by decide) _ _ _ rfl (World.ownsRow_made w #[] 0 (Nat.le_refl _) (Nat.zero_le _) (by simp)) ad xs.length c (nums .i64 xs) rfl ?qc1 ?qc2 ?qc3 ?qc4 ?qc5 ?qc6 ?_)
    case qc1 => simp [nums]
    case qc2 => exact fun j u hj => Lib.cell?_alloc_some _ (hcells.out j u hj)
    case qc3 => intro u hu; simp [nums] at hu; obtain ⟨x, _, rfl⟩ := hu; rfl
    case qc4 => rw [Nat.zero_add]; unfold maxLen; omega
    case qc5 => rw [Nat.zero_add]; omega
    case qc6 => simp
    intro v' w1 hown hgrow hnil
    go_wp2
    go_ret
    refine ⟨⟨v', rfl, by simpa using hown⟩, ((Below.refl _ w).alloc (Nat.le_refl _) _).grown hgrow (by simp) (by intro k hk; simp [Value.ownBlock] at hk; omega)⟩

theorem clone_calls (w : World) {A : Option Addr} {c : Nat} {xs : List Int} (h : (Kd.int .i64).C w A xs.length xs) (hl : xs.length * 8 ≤ 140737488351232) : Calls Try.prog 97 #[.slice A xs.length c] w fun e w' => (∃ v', e = .returned v' ∧ TupAt w' (w.heap.size ≤ ·) v' xs) ∧ Below w.heap.size w w' :=
  (clone_own w h hl).mono fun e w' ⟨⟨v', he, ho⟩, hb⟩ => ⟨⟨v', he, tup_ofOwn ho (fun k hk => own_base ho k hk)⟩, hb⟩

set_option maxRecDepth 100000 in
/-- tuple.own. -/
theorem own_calls (w : World) {ok : Nat → Prop} {v : Value} {xss : List (List Int)} (h : TupsAt w ok v xss) (hl : xss.length ≤ 1000000) (hin : ∀ xs ∈ xss, xs.length ≤ 1000000) :
    Calls Try.prog 98 #[v] w fun e w' => (∃ v' us, e = .returned v' ∧ w'.ownsRow w.heap.size 75 1 v' xss.length us ∧ TupsU w' (w.heap.size ≤ ·) us xss) ∧ Below w.heap.size w w' := by
  obtain ⟨A, c, rfl, hcl⟩ := SlAt.shape h
  have HT := Aside0.mk h
  have Hin := Aside0.mk hin
  clear h hin
  obtain ⟨i0, hi, hz0, hz1, hz2⟩ := info_parts info75
  obtain ⟨wm, hmk, hown, hgr⟩ := run_make_own (P := Try.prog) w w.heap.size 63 75 i0 (.slice none 0 0) 1 Try.underlying63 hi hz0 hz1 .i64 .i64 xss.length (by rw [hz2]; omega) (by unfold maxLen; omega) (Nat.le_refl _)
  have hb0 : Below w.heap.size w wm := (Below.refl _ w).grown hgr (Nat.le_refl _) (by simp)
  go_enter Try.func98, Try.ntmps98
  go_wp2
  go_loopw [3, 11] (fun v i wr => ∃ (k : Nat) (us : List Value), k ≤ xss.length ∧ i = .int .i64 k ∧ wr.ownsRow w.heap.size 75 1 v k us ∧ TupsU wr (w.heap.size ≤ ·) us (xss.take k) ∧ Below w.heap.size w wr) (fun _ i _ => xss.length - (intOf i).toNat)
  case atStart => exact ⟨0, [], Nat.zero_le _, rfl, hown, by simpa using TupsU.nil _ _, hb0⟩
  case round =>
    clear hown hb0 hmk hgr
    obtain ⟨k, us, hk, rfl, ho, hT, hB⟩ := hrel
    by_cases hlt : k < xss.length
    · obtain ⟨g, off, u, rfl, hc, hf, hr, hgok⟩ := SlAt.at_ HT.out k hlt
      have hc2 : wr.cell? ⟨g, off + k, none⟩ = some u := pw_cell_below hB hc
      obtain ⟨A2, c2, rfl, hcl2, hC2⟩ := TupAt.reads (hr.below hB)
      have hn := Hin.out _ (List.getElem_mem hlt)
      have htk : xss.take (k + 1) = xss.take k ++ [xss[k]] := by rw [List.take_add_one, List.getElem?_eq_getElem hlt]; rfl
      have hul : us.length = k := by rw [hT.1, List.length_take]; omega
      subst hul
      have HTK := Aside0.mk htk
      have HO := Aside0.mk ho
      have HU := Aside0.mk hT
      have HB := Aside0.mk hB
      clear ho hT hB htk
      generalize hX : xss[us.length] = X at *
      have HX := Aside0.mk hX
      clear hX
      go_wp2_with (first | (go_at_call 97; refine (clone_calls _ hC2 (by omega)).mono ?_; rintro e w1 ⟨⟨v1, rfl, hv1⟩, hb1⟩) | (go_at_call 122; refine (clip_calls _ hv1).mono ?_; rintro e w2 ⟨⟨v2, rfl, hv2⟩, rfl⟩; obtain ⟨A3, c3, rfl, _⟩ := SlAt.shape hv2) | (at_builtin; refine print_append (w0 := w) w.heap.size rfl (.tmp 15) (.tmp 19) 63 75 (.slice none 0 0) 24 rfl Try.underlying63 info75 rfl (by decide) u3 us (.slice A3 X.length c3) rfl rfl ?c1 ?c2 ?c3 ?c4 ?c5 ?_))
      case c1 => rfl
      case c2 => exact pw_own_below HO.out hb1
      case c3 => exact below_then HB.out HB.out.size hb1
      case c4 => exact Nat.le_trans HB.out.size hb1.size
      case c5 => omega
      intro v3 w3 ho3 hb3 hg3 _
      clear hc2 hC2
      have HU3 : Aside0 (TupsU w3 (fun x => w.heap.size ≤ x) (us ++ [.slice A3 X.length c3]) (xss.take us.length ++ [X])) := ⟨by
        have ho1 := pw_own_below HO.out hb1
        refine ((HU.out.imp (fun u x hu => (hu.below hb1).grown75 ho1 hg3))).snoc ?_
        exact (hv2.okmono (fun k hk _ => Nat.le_trans HB.out.size hk)).grown75 ho1 hg3⟩
      have HO3 := Aside0.mk ho3
      have HB3 := Aside0.mk hb3
      clear ho3 hb3 hg3 hv1 hv2 hb1
      go_wp2
      go_roundw
      case rel =>
        refine ⟨us.length + 1, us ++ [.slice A3 X.length c3], by omega, by go_num, by simpa using HO3.out, ?_, HB3.out⟩
        rw [HTK.out]
        exact HU3.out
      case measure => simp [intOf]; omega
    · have hkk : k = xss.length := by omega
      subst hkk
      rw [List.take_length] at hT
      have HO := Aside0.mk ho
      have HU := Aside0.mk hT
      have HB := Aside0.mk hB
      clear ho hT hB
      go_wp2
      go_ret
      exact ⟨⟨_, us, rfl, HO.out, HU.out⟩, HB.out⟩
end Go.Proofs.Ytcchcifcfcpjiaa.J
