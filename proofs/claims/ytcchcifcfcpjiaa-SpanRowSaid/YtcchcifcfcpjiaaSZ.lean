/- span.Way: the walk. -/
import Derived.Test.YtcchcifcfcpjiaaSS
import Derived.Test.YtcchcifcfcpjiaaST
import Derived.Test.YtcchcifcfcpjiaaSX
import Derived.Test.YtcchcifcfcpjiaaSY
set_option linter.unusedVariables false
set_option linter.unusedSimpArgs false
namespace Go.Proofs.Ytcchcifcfcpjiaa.J
open Go.RowKit Go.Proofs.YtcchcifcfcpjiaaW.PrintWords Go.Proofs.YtcchcifcfcpjiaaW.PrintLast Go.Proofs.YtcchcifcfcpjiaaW.PrintMore Go.Proofs.Ytcchcifcfcpjiaa.PJ

theorem reverseI_calls (w : World) {base : Nat} {v : Value} {xs : List Int} (ho : w.ownsRow base 3 1 v xs.length (nums .i64 xs)) (hl : xs.length ≤ 1000000) :
    Calls Try.prog 87 #[v] w fun e w' => e = .returned (.tuple #[]) ∧ w'.ownsRow base 3 1 v xs.length (nums .i64 xs.reverse) ∧ w.grownBy w' v.ownBlock := by
  rcases ho.2 with ⟨rfl, h1⟩ | ⟨g, cap, cur, rfl, hb, hg, hn, hm, hs, ht⟩
  · have hx : xs = [] := List.eq_nil_of_length_eq_zero h1
    subst hx
    refine Calls.mono (Try.slices_Reverse_int_empty none 0 w) ?_
    rintro e w' ⟨rfl, rfl⟩
    exact ⟨rfl, by simpa using ho, ⟨rfl, rfl, rfl, Nat.le_refl _, fun _ _ _ => rfl⟩⟩
  · rw [Nat.mul_one] at ht
    have hH := holds_of_blockI (ss := xs) hg (by rw [ht]; rfl)
    refine Calls.mono (Try.slices_Reverse_int g 0 cap xs w hH (by omega)) ?_
    rintro e w' ⟨rfl, q, rfl⟩
    refine ⟨rfl, ?_, grown_pw _ _ _ _ _⟩
    refine ⟨by simp [nums_eq], .inr ⟨g, cap, Go.Sort.putCells (Value.int .i64) 0 xs.reverse.toArray cur, rfl, hb, ?_, hn, hm, ?_, ?_⟩⟩
    · have := heap_sortedI (n := q) (os := #[]) xs.reverse.toArray hg
      rw [Go.Sort.grow_empty] at this
      exact this
    · rw [size_put]; exact hs
    · rw [Nat.mul_one]
      have h2 := take_putCellsI cur xs.reverse (by simp; omega)
      rw [List.length_reverse] at h2
      exact h2

set_option maxRecDepth 100000 in
set_option maxHeartbeats 4000000 in
theorem way_calls (w : World) {lab : ByteArray} {A : Option Addr} {c : Nat} {es : List S82} {a b : Int} (hn : nameB lab = true) (hC : Kd.C k82 w A es.length es) (hl : es.length ≤ 1000) :
    Calls Try.prog 41 #[.string lab, .slice A es.length c, .int .i64 a, .int .i64 b] w fun e w' => Below w.heap.size w w' ∧
      ((∃ v l, e = .returned (.tuple #[v, .int .i64 0]) ∧ Walk (nextF lab es) a l b ∧ (∀ z ∈ l, z ≠ a) ∧ TupAt w' (w.heap.size ≤ ·) v (a :: (l ++ [b])))
      ∨ (e = .returned (.tuple #[.slice none 0 0, .int .i64 4]) ∧ ¬ Reach (nextF lab es) a b)) := by
  have HC := Aside0.mk hC
  clear hC
  have hmm := @run_makeMap Try.prog
  go_enter Try.func41, Try.ntmps41
  go_wp2_with fail
  refine (spanBad_calls lab w hn).mono ?_
  rintro e w1 ⟨rfl, hB1⟩
  have HB1 := Aside0.mk hB1
  clear hB1
  go_wp2_with fail
  refine (next_calls w1 (Kd.C_below HC.out HB1.out) hl).mono ?_
  rintro e w2 ⟨l, cM, rfl, hA2, hB2⟩
  have HA2 := Aside0.mk hA2
  have HB2 := Aside0.mk (HB1.out.trans (hB2.mono HB1.out.size))
  clear hA2 hB2
  go_wp2_with fail
  clear hmm
  have hE : (es.map (·.f2)).length ≤ 1000 := by rw [List.length_map]; exact hl
  have hto := @nextF_to lab es
  have hA2s : w1.heap.size < w2.heap.size := (Array.getElem?_eq_some_iff.1 HA2.out.1.1).1
  have HP0 := Aside0.mk ((Pre.new w2).step (w' := (w2.alloc (.map #[] 0)).alloc (.cells #[.int .i64 a] 3)) (Below.heap_alloc _ _ _ (by simp)))
  have HB0 : Aside0 (Below w2.heap.size w2 ((w2.alloc (.map #[] 0)).alloc (.cells #[.int .i64 a] 3))) := ⟨below_alloc (below_alloc (Below.refl _ _) _) _⟩
  have HT0 : Aside0 (TupAt ((w2.alloc (.map #[] 0)).alloc (.cells #[.int .i64 a] 3)) (w2.heap.size + 1 ≤ ·) (.slice (some ⟨w2.heap.size + 1, 0, none⟩) 1 1) [a]) :=
    ⟨.inr ⟨w2.heap.size + 1, 0, 1, #[.int .i64 a], rfl, Nat.le_refl _, by have := heap_alloc_new (w2.alloc (.map #[] 0)) (.cells #[.int .i64 a] 3); simpa using this, by simp, by decide, by simp, fun j x hj => by
      cases j with
      | zero => simp at hj; subst hj; exact ⟨_, by simp, rfl⟩
      | succ j => simp at hj⟩⟩
  go_loopg [12] 1001 (fun gk s12 wr => ∃ (ds : List Int) (i : Nat) (pre : Int → Option Int) (l2 : List (Int × Value × Nat)) (c2 : Nat), i ≤ ds.length + 1 ∧ 1001 - i ≤ gk ∧
    Aside0 (TupAt wr (w2.heap.size + 1 ≤ ·) s12 ((a :: ds).drop i)) ∧ Aside0 (Pre wr w2.heap.size l2 c2 pre) ∧ Aside0 (Bfs (nextF lab es) a b ds i pre []) ∧ Aside0 (Below w2.heap.size w2 wr))
  case atStart => exact ⟨[], 0, fun _ => none, [], 0, by omega, by omega, HT0, HP0, ⟨Bfs.start _ _ _⟩, HB0⟩
  case round =>
    obtain ⟨ds, i, pre, l2, c2, hi, hgk, hT, hP, hF, hB⟩ := hrel
    have hdl : ds.length ≤ 1000 := Nat.le_trans (hF.out.few hto) hE
    by_cases hlt : i < ds.length + 1
    · have hA := Aside0.mk (HA2.out.below hB.out)
      have hil : i < (a :: ds).length := by rw [List.length_cons]; exact hlt
      have hnq : (a :: ds)[i]? = some (a :: ds)[i] := List.getElem?_eq_getElem hil
      have hdr : (a :: ds).drop i = (a :: ds)[i] :: (a :: ds).drop (i + 1) := List.drop_eq_getElem_cons hil
      generalize (a :: ds)[i] = n at hnq hdr
      generalize hrest : (a :: ds).drop (i + 1) = rest at hdr
      have hT1 := hT.out
      rw [hdr] at hT1
      obtain ⟨A3, c3, rfl, _⟩ := SlAt.shape hT1
      obtain ⟨g3, o3, u3, rfl, hcell, _, hu3, hok⟩ := SlAt.at_ hT1 0 (by simp)
      rw [List.getElem_cons_zero] at hu3
      subst hu3
      have hrl : (n :: rest).length = rest.length + 1 := rfl
      rw [hrl] at hT
      rw [hrl]
      rw [Nat.add_zero] at hcell
      clear hT1 hok
      have i0 : (0 : Int) < ((rest.length + 1 : Nat) : Int) := by omega
      obtain ⟨A4, c4, hv4⟩ := own_slice (hA.out.2.2.2.2.1 n)
      have hlk := run_lookup_my (w := wr) key_int Try.underlying137 (.slice none 0 0) zero66 hA.out.1 n
      change (Instr.lookup 137 (.map (some w1.heap.size)) (.int .i64 n) false).run Try.prog wr = .ok (valOf n l) wr at hlk
      have hO4 := Aside0.mk (hA.out.2.2.2.2.1 n)
      rw [hv4] at hlk hO4
      change Aside0 (wr.ownsRow w1.heap.size 3 1 (.slice A4 (nextF lab es n).length c4) (nextF lab es n).length (nums .i64 (nextF lab es n))) at hO4
      change (Instr.lookup 137 (.map (some w1.heap.size)) (.int .i64 n) false).run Try.prog wr = .ok (.slice A4 (nextF lab es n).length c4) wr at hlk
      have hfl : (nextF lab es n).length ≤ 1000 := Nat.le_trans (nextF_le lab es n) hl
      have hHQ := Aside0.mk hnq
      have hHD := Aside0.mk hdr
      have hHR := Aside0.mk hrest
      generalize hFS : nextF lab es n = xs at hlk hO4 hfl
      have HFS := Aside0.mk hFS
      have HV4 : Aside0 (valOf n l = .slice A4 xs.length c4) := ⟨by
        have h1 := hv4
        change valOf n l = .slice A4 (nextF lab es n).length c4 at h1
        rw [hFS] at h1
        exact h1⟩
      clear hv4 hnq hdr hrest hFS
      go_wp2_with fail
      clear hlk hcell i0
      have hBT := hT.out
      have hFl : i < ds.length + 1 := hlt
      have HF0 : Aside0 (Bfs (nextF lab es) a b ds i pre (xs.take 0)) := ⟨by rw [List.take_zero]; exact hF.out⟩
      clear hA hHR hF
      have hrest : (n :: rest).length = rest.length + 1 := rfl
      go_loopg [12, 39] xs.length (fun gk2 s12 s39 wi => ∃ (ds : List Int) (j : Nat) (pre : Int → Option Int) (l2 : List (Int × Value × Nat)) (c2 : Nat), j ≤ xs.length ∧ xs.length - j ≤ gk2 ∧ s39 = .int .i64 j ∧ i < ds.length + 1 ∧
        Aside0 (TupAt wi (w2.heap.size + 1 ≤ ·) s12 ((a :: ds).drop i)) ∧ Aside0 (Pre wi w2.heap.size l2 c2 pre) ∧ Aside0 (Bfs (nextF lab es) a b ds i pre (xs.take j)) ∧ Aside0 ((a :: ds)[i]? = some n) ∧ Aside0 (Below w2.heap.size w2 wi))
      case atStart => exact ⟨ds, 0, pre, l2, c2, Nat.zero_le _, by omega, rfl, hFl, hT, hP, HF0, hHQ, hB⟩
      case round =>
        clear hHQ hHD hP hB HF0 hO4 hT hBT hi hdl hlt hil hrest hFl
        obtain ⟨ds, j, pre, l2, c2, hj, hgk2, rfl, hil, hT, hP, hF, hQ, hB⟩ := hrel
        have hdl : ds.length ≤ 1000 := Nat.le_trans (hF.out.few hto) hE
        by_cases hjl : j < xs.length
        · have hO := (HA2.out.below hB.out).2.2.2.2.1 n
          change wr.ownsRow w1.heap.size 3 1 (valOf n l) (nextF lab es n).length (nums .i64 (nextF lab es n)) at hO
          rw [HV4.out, HFS.out] at hO
          have hcell : ∃ g, A4 = some ⟨g, 0, none⟩ ∧ wr.cell? ⟨g, j, none⟩ = some (.int .i64 xs[j]) := by
            rcases hO.2 with ⟨h0, h1⟩ | ⟨g, cap, cur, hv, _⟩
            · omega
            · injection hv with hv1 _ hv2
              subst hv1
              exact ⟨g, rfl, by rw [hO.cellAt j (by omega)]; simp [nums, hjl]⟩
          obtain ⟨g4, rfl, hcell⟩ := hcell
          clear hO
          have i1 : (j : Int) < (xs.length : Int) := by omega
          have i0 : (0 : Int) ≤ (j : Int) := by omega
          have HTK : Aside0 (xs.take (j + 1) = xs.take j ++ [xs[j]]) := ⟨by rw [List.take_add_one, List.getElem?_eq_getElem hjl]; rfl⟩
          have HM : Aside0 (xs[j] ∈ nextF lab es n) := ⟨by rw [HFS.out]; exact List.getElem_mem _⟩
          generalize xs[j] = m at hcell HTK HM
          have hlk := run_lookupOk_my (w := wr) key_int Try.underlying143 (.int .i64 0) zero3 hP.out.1 m
          rw [hP.out.2 m] at hlk
          cases hpm : pre m with
          | some x =>
            rw [hpm] at hlk
            simp only [Option.map_some, Option.getD_some, Option.isSome_some] at hlk
            have HF := Aside0.mk (hF.out.old ((hF.out.keys m).1 (by rw [hpm]; rfl)))
            rw [← HTK.out] at HF
            clear hpm hF
            go_wp2_with fail
            go_roundg (xs.length - (j + 1))
            case measure => omega
            case rel =>
              refine ⟨ds, j + 1, pre, l2, c2, by omega, Nat.le_refl _, ?_, hil, hT, hP, HF, hQ, hB⟩
              first | exact congrArg (Value.int .i64) (wrap_succ j xs.length hjl (by omega)) | exact congrArg (Value.int .i64) (by omega)
          | none =>
            rw [hpm] at hlk
            simp only [Option.map_none, Option.getD_none, Option.isSome_none] at hlk
            have hmd : m ∉ ds := fun h => by
              have := (hF.out.keys m).2 h
              rw [hpm] at this
              cases this
            have hupd := run_mapUpdate_my key_int Try.underlying143 hP.out.1 m (.int .i64 n)
            have hP7 := Aside0.mk (hP.out.put (mapIs_put hP.out.1 m (.int .i64 n)))
            have hg7 : Aside0 (wr.grownBy (setB wr w2.heap.size (.map ((putA m (.int .i64 n) c2 l2).map (mkE (.int .i64))).toArray (tick m c2 l2))) (some w2.heap.size)) := ⟨setB_grown _⟩
            generalize setB wr w2.heap.size (.map ((putA m (.int .i64 n) c2 l2).map (mkE (.int .i64))).toArray (tick m c2 l2)) = w7 at *
            have hT7 := Aside0.mk (hT.out.step (fun k hk hk2 => hg7.out.block k hk2 (fun e => by injection e with e; omega)))
            have hB7 := Aside0.mk (pw_below_grown hB.out _ hB.out.size hg7.out (fun j hj => by injection hj with hj; omega))
            have hlt7 : w2.heap.size < w7.heap.size := (Array.getElem?_eq_some_iff.1 hP7.out.1.1).1
            have hT8 := Aside0.mk (hT7.out.below (below_alloc (Below.refl w7.heap.size w7) (.cells #[.int .i64 m] 3)))
            have hB8 := Aside0.mk (below_alloc hB7.out (.cells #[.int .i64 m] 3))
            have hP8 := Aside0.mk (hP7.out.step (Below.heap_alloc w7 (.cells #[.int .i64 m] 3) w2.heap.size hlt7))
            have hc8 : Aside0 ((w7.alloc (.cells #[.int .i64 m] 3)).cell? ⟨w7.heap.size, 0, none⟩ = some (.int .i64 m)) := ⟨cell_at (heap_alloc_new _ _) 0⟩
            clear hT hP hB hT7 hB7 hP7 hg7 hpm
            go_wp2_with (at_builtin; refine wpList_append_tup (base := w2.heap.size + 1) rfl (.tmp 53) (.tmp 55) rfl rfl hT8.out ⟨w7.heap.size, 0, none⟩ 1 m rfl hc8.out ?c2 ?c3 ?_)
            case c2 => rw [List.length_drop, List.length_cons]; omega
            case c3 => have := hB8.out.size; simp at this ⊢; omega
            intro v9 w9 ht9 hb9
            have hP9 := Aside0.mk (hP8.out.step (hb9.block w2.heap.size (by omega)))
            have hB9 := Aside0.mk (hB8.out.trans (hb9.mono (Nat.le_succ _)))
            have hT9 : Aside0 (TupAt w9 (w2.heap.size + 1 ≤ ·) v9 ((a :: (ds ++ [m])).drop i)) := ⟨by
              rw [← List.cons_append, List.drop_append_of_le_length (by rw [List.length_cons]; omega)]
              exact ht9⟩
            clear hP8 hB8 ht9 hb9 hT8 hc8
            by_cases hmb : m = b
            · obtain ⟨t, ht, htl⟩ := hF.out.trail b (fun h => hmd (hmb ▸ h)) n i n hQ.out
              have hbn : b ∈ nextF lab es n := hmb ▸ HM.out
              have hP9' : Aside0 (Pre w9 w2.heap.size (putA m (.int .i64 n) c2 l2) (tick m c2 l2) (setP pre b n)) := ⟨by rw [← hmb]; exact hP9.out⟩
              have HTR := Aside0.mk ht
              have HBN := Aside0.mk hbn
              generalize putA m (.int .i64 n) c2 l2 = l3 at hP9'
              generalize tick m c2 l2 = c3' at hP9'
              have hti : t.length ≤ 1000 := by omega
              clear hP9 ht htl hmd hF hT9 HTK hQ HM hbn hlk hupd
              subst hmb
              have hO10 : Aside0 ((w9.alloc (.cells #[.int .i64 m] 3)).ownsRow w9.heap.size 3 1 (.slice (some ⟨w9.heap.size, 0, none⟩) 1 1) 1 (nums .i64 [m])) := ⟨⟨rfl, .inr ⟨w9.heap.size, 1, #[.int .i64 m], rfl, Nat.le_refl _, heap_alloc_new _ _, Nat.le_refl _, by decide, rfl, rfl⟩⟩⟩
              have hB10 : Aside0 (Below w9.heap.size w9 (w9.alloc (.cells #[.int .i64 m] 3))) := ⟨below_alloc (Below.refl _ _) _⟩
              have hlt9 : w2.heap.size < w9.heap.size := (Array.getElem?_eq_some_iff.1 hP9'.out.1.1).1
              go_upto_region 19 with fail
              go_loopg [15, 18] t.length (fun gk3 s15 s18 wk => ∃ (x : Int) (done rest : List Int) (Aw : Option Addr) (cw : Nat), s15 = .int .i64 x ∧ s18 = .slice Aw (done.length + 1) cw ∧ rest.length ≤ gk3 ∧ done.length + rest.length = t.length ∧
                Aside0 (Trail (nextF lab es) (setP pre m n) a x rest) ∧ Aside0 (done ++ rest = t) ∧ Aside0 (wk.ownsRow w9.heap.size 3 1 (.slice Aw (done.length + 1) cw) (done.length + 1) (nums .i64 (m :: done))) ∧ Aside0 (Below w9.heap.size w9 wk))
              case atStart => exact ⟨n, [], t, _, 1, rfl, rfl, Nat.le_refl _, by simp, HTR, ⟨rfl⟩, hO10, hB10⟩
              case round =>
                clear hO10 hB10
                obtain ⟨x, done, rest, Aw, cw, rfl, rfl, hgk3, hlen, hTR, hcat, hO, hBk⟩ := hrel
                have hTR0 := hTR.out
                cases hTR0 with
                | here =>
                  clear hTR
                  have hdt : done = t := by have := hcat.out; rwa [List.append_nil] at this
                  subst hdt
                  go_wp2_with (at_builtin; refine print_append (w0 := w9) w9.heap.size rfl (.tmp 73) (.tmp 75) 66 3 (.int .i64 0) 8 rfl Try.underlying66 info3 rfl (by decide) (.slice Aw (done.length + 1) cw) (nums .i64 (m :: done)) (.int .i64 a) rfl rfl ?c1 ?c2 ?c3 ?c4 ?c5 ?_)
                  case c1 => rfl
                  case c2 => simpa [nums] using hO.out
                  case c3 => exact hBk.out
                  case c4 => exact hBk.out.size
                  case c5 => simp [nums]; omega
                  intro vw ww how hbw hgw _
                  have ho11 : ww.ownsRow w9.heap.size 3 1 vw (m :: (done ++ [a])).length (nums .i64 (m :: (done ++ [a]))) := by simpa [nums] using how
                  have HO11 := Aside0.mk ho11
                  have HB11 := Aside0.mk hbw
                  clear how hbw hgw ho11 hO hBk
                  go_wp2_with fail
                  refine (reverseI_calls ww HO11.out (by simp; omega)).mono ?_
                  rintro e wz ⟨rfl, hoz, hgz⟩
                  have hB12 := Aside0.mk (pw_below_grown HB11.out _ HB11.out.size hgz (fun k hk => own_base HO11.out k hk))
                  have HOZ := Aside0.mk hoz
                  clear hoz hgz
                  go_wp2_with fail
                  go_ret2
                  have hBe := (HB2.out.trans (hB9.out.mono HB2.out.size)).trans (hB12.out.mono (Nat.le_trans HB2.out.size hB9.out.size))
                  refine ⟨hBe, .inl ⟨vw, done.reverse, rfl, HTR.out.walk HBN.out, fun z hz => HTR.out.ne z (List.mem_reverse.1 hz), ?_⟩⟩
                  have hrev : (m :: (done ++ [a])).reverse = a :: (done.reverse ++ [m]) := by simp
                  have h12 := HOZ.out
                  rw [hrev] at h12
                  refine tup_ofOwn (base := w9.heap.size) (by simpa using h12) (fun k hk => ?_)
                  exact Nat.le_trans (Nat.le_trans HB2.out.size hB9.out.size) (own_base HOZ.out k hk)
                | back hxa hpx hxy htr =>
                  rename_i y rest
                  clear hTR
                  have HTR2 := Aside0.mk htr
                  have HPX := Aside0.mk hpx
                  clear htr hpx hxy
                  rw [List.length_cons] at hgk3 hlen
                  go_wp2_with (at_builtin; refine print_append (w0 := w9) w9.heap.size rfl (.tmp 69) (.tmp 71) 66 3 (.int .i64 0) 8 rfl Try.underlying66 info3 rfl (by decide) (.slice Aw (done.length + 1) cw) (nums .i64 (m :: done)) (.int .i64 x) rfl rfl ?c1 ?c2 ?c3 ?c4 ?c5 ?_)
                  case c1 => rfl
                  case c2 => simpa [nums] using hO.out
                  case c3 => exact hBk.out
                  case c4 => exact hBk.out.size
                  case c5 => simp [nums]; omega
                  intro vw ww how hbw hgw _
                  have ho11 : ww.ownsRow w9.heap.size 3 1 vw ((done ++ [x]).length + 1) (nums .i64 (m :: (done ++ [x]))) := by simpa [nums] using how
                  obtain ⟨A11, c11, rfl⟩ := own_slice ho11
                  have HO11 := Aside0.mk ho11
                  have HB11 := Aside0.mk hbw
                  have hPw := hP9'.out.step (hbw.block w2.heap.size hlt9)
                  have hlkw := run_lookup_my (w := ww) key_int Try.underlying143 (.int .i64 0) zero3 hPw.1 x
                  rw [hPw.2 x, HPX.out] at hlkw
                  simp only [Option.map_some, Option.getD_some] at hlkw
                  clear how hbw hgw ho11 hO hBk hPw
                  go_wp2_with fail
                  go_roundg rest.length
                  case measure => omega
                  case rel => exact ⟨y, done ++ [x], rest, A11, c11, rfl, rfl, Nat.le_refl _, by rw [List.length_append, List.length_singleton]; omega, HTR2, ⟨by rw [List.append_assoc]; exact hcat.out⟩, HO11, HB11⟩
            · have HF9 := Aside0.mk (hF.out.new hQ.out HM.out hmd hmb)
              rw [← HTK.out] at HF9
              have HQ9 : Aside0 ((a :: (ds ++ [m]))[i]? = some n) := ⟨by rw [← List.cons_append, List.getElem?_append_left (by rw [List.length_cons]; omega)]; exact hQ.out⟩
              go_wp2_with fail
              go_roundg (xs.length - (j + 1))
              case measure => omega
              case rel =>
                refine ⟨ds ++ [m], j + 1, setP pre m n, _, _, by omega, Nat.le_refl _, ?_, by rw [List.length_append]; omega, hT9, hP9, HF9, HQ9, hB9⟩
                first | exact congrArg (Value.int .i64) (wrap_succ j xs.length hjl (by omega)) | exact congrArg (Value.int .i64) (by omega)
        · have hjj : j = xs.length := by omega
          subst hjj
          have hF9 := hF.out
          rw [List.take_length, ← HFS.out] at hF9
          have HF9 := Aside0.mk (hF9.next hQ.out)
          have hdr : (a :: ds).drop i = n :: (a :: ds).drop (i + 1) := by
            obtain ⟨h1, h2⟩ := List.getElem?_eq_some_iff.1 hQ.out
            rw [List.drop_eq_getElem_cons h1, h2]
          have hT1 := hT.out
          rw [hdr] at hT1
          generalize hrest : (a :: ds).drop (i + 1) = rest2 at hT1 hdr
          have HR2 := Aside0.mk hrest
          obtain ⟨A5, c5, rfl, hc5⟩ := SlAt.shape hT1
          obtain ⟨g5, o5, u5, rfl, _⟩ := SlAt.at_ hT1 0 (by simp)
          rw [show (n :: rest2).length = rest2.length + 1 from rfl] at hT1 hc5
          rw [show (n :: rest2).length = rest2.length + 1 from rfl]
          have HT9 := Aside0.mk (tup_tail hT1)
          have i5 : (1 : Int) ≤ ((rest2.length + 1 : Nat) : Int) := by omega
          clear hT1 hdr hrest hF9 hF hT
          by_cases h5 : c5 = 1
          · subst h5
            have h9 : TupAt wr (w2.heap.size + 1 ≤ ·) (.slice (some ⟨g5, o5, none⟩) rest2.length 0) rest2 := by simpa [sliced] using HT9.out
            have HT10 := Aside0.mk h9
            clear HT9 h9
            go_wp2_with fail
            go_roundg (1001 - (i + 1))
            case measure => omega
            case rel =>
              exact ⟨ds, i + 1, pre, l2, c2, by omega, Nat.le_refl _, ⟨by
                rw [HR2.out]
                have h := HT10.out
                have hr0 : rest2.length = 0 := by omega
                rw [hr0] at h
                exact h⟩, hP, HF9, hB⟩
          · have h9 : TupAt wr (w2.heap.size + 1 ≤ ·) (.slice (some ⟨g5, o5 + 1, none⟩) rest2.length (c5 - 1)) rest2 := by simpa [sliced, h5, Addr.add] using HT9.out
            have HT10 := Aside0.mk h9
            clear HT9 h9
            go_wp2_with fail
            go_roundg (1001 - (i + 1))
            case measure => omega
            case rel => exact ⟨ds, i + 1, pre, l2, c2, by omega, Nat.le_refl _, ⟨by rw [HR2.out]; exact HT10.out⟩, hP, HF9, hB⟩
    · have hi2 : i = ds.length + 1 := by omega
      subst hi2
      have hd : (a :: ds).drop (ds.length + 1) = [] := by rw [List.drop_eq_nil_iff]; simp
      rw [hd] at hT
      obtain ⟨A3, c3, rfl, _⟩ := SlAt.shape hT.out
      have hnr := hF.out.none
      go_wp2_with fail
      go_ret2
      exact ⟨HB2.out.trans (hB.out.mono HB2.out.size), .inr ⟨rfl, hnr⟩⟩
end Go.Proofs.Ytcchcifcfcpjiaa.J
