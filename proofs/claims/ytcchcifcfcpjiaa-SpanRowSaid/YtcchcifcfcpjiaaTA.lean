/- span.Rings: the walk. -/
import Derived.Test.YtcchcifcfcpjiaaSS
import Derived.Test.YtcchcifcfcpjiaaST
import Derived.Test.YtcchcifcfcpjiaaSU
import Derived.Test.YtcchcifcfcpjiaaSX
import Derived.Test.YtcchcifcfcpjiaaJE
import Derived.Test.YtcchcifcfcpjiaaJX
set_option linter.unusedVariables false
set_option linter.unusedSimpArgs false
namespace Go.Proofs.Ytcchcifcfcpjiaa.J
open Go.RowKit Go.Proofs.YtcchcifcfcpjiaaW.PrintWords Go.Proofs.YtcchcifcfcpjiaaW.PrintLast Go.Proofs.YtcchcifcfcpjiaaW.PrintMore Go.Proofs.Ytcchcifcfcpjiaa.PJ

theorem clipI_calls (w : World) {ok : Nat → Prop} {v : Value} {xs : List Int} (h : TupAt w ok v xs) : Calls Try.prog 70 #[v] w fun e w' => (∃ v', e = .returned v' ∧ TupAt w' ok v' xs) ∧ w' = w := by
  have hl := SlAt.len_le h
  rcases h with ⟨rfl, rfl⟩ | ⟨g, off, cap, cur, rfl, h1, h2, h3, h4, h5, h6⟩
  · go_enter Try.func70, Try.ntmps70
    go_wp2
    go_ret
    exact ⟨⟨_, rfl, SlAt.nil _ _ _ _⟩, rfl⟩
  · have H6 : Hid (∀ (j : Nat) (x : Int), xs[j]? = some x → ∃ u, cur[off + j]? = some u ∧ u = .int .i64 x) := h6
    have H4 : Hid (cap ≤ maxLen) := h4
    have Hl : Hid (xs.length ≤ maxLen) := hl
    unfold maxLen at hl h4
    clear h6
    go_enter Try.func70, Try.ntmps70
    go_wp2
    go_ret
    exact ⟨⟨_, rfl, .inr ⟨g, off, xs.length, cur, rfl, h1, h2, Nat.le_refl _, Hl.out, Nat.le_trans (Nat.add_le_add_left h3 _) h5, H6.out⟩⟩, rfl⟩

theorem info66 : (Try.prog.info? 66).map (fun i => (i.zero, i.size, i.bytes)) = some (some (.slice none 0 0), 1, 24) := by kernel_rfl
/-- A list of rings. -/
def RingsAt (w : World) (ok : Nat → Prop) (v : Value) (rs : List (List Int)) : Prop := SlAt w ok 66 (fun u xs => TupAt w ok u xs) v rs

theorem nodup_sorted : ∀ {l : List Int}, l.Nodup → l.Pairwise (· ≤ ·) → l.Pairwise (· < ·)
  | [], _, _ => List.Pairwise.nil
  | x :: l, hn, hp => by
    rw [List.nodup_cons] at hn
    rw [List.pairwise_cons] at hp ⊢
    refine ⟨fun y hy => ?_, nodup_sorted hn.2 hp.2⟩
    have h1 := hp.1 y hy
    have h2 : x ≠ y := fun e => hn.1 (e ▸ hy)
    omega
theorem sortI_up (l : List Int) : (sortI l).Pairwise (· ≤ ·) := by
  have h := List.pairwise_mergeSort (le := fun x y : Int => decide (x ≤ y)) (fun a b c h1 h2 => by simp at h1 h2 ⊢; omega) (fun a b => by simp; omega) l
  unfold sortI
  exact h.imp (fun h => by simpa using h)

open Classical in
/-- Of some nodes those that lead to a. -/
noncomputable def ringL (fs : Int → List Int) (a : Int) (ks : List Int) : List Int := ks.filter (fun b => decide (Reach fs b a))
theorem mem_ringL {fs : Int → List Int} {a : Int} {ks : List Int} {b : Int} : b ∈ ringL fs a ks ↔ b ∈ ks ∧ Reach fs b a := by
  unfold ringL
  rw [List.mem_filter]
  simp
theorem ringL_take {fs : Int → List Int} {a : Int} {ks : List Int} {j : Nat} (hj : j < ks.length) : (Reach fs ks[j] a → ringL fs a (ks.take (j + 1)) = ringL fs a (ks.take j) ++ [ks[j]]) ∧ (¬ Reach fs ks[j] a → ringL fs a (ks.take (j + 1)) = ringL fs a (ks.take j)) := by
  unfold ringL
  rw [List.take_add_one, List.getElem?_eq_getElem hj, List.filter_append]
  constructor
  · intro h; simp [h]
  · intro h; simp [h]
theorem ringL_le {fs : Int → List Int} {a : Int} {ks : List Int} : (ringL fs a ks).length ≤ ks.length := List.length_filter_le _ _

theorem reach_to {lab : ByteArray} {es : List S82} {a b : Int} (h : Reach (nextF lab es) a b) : b ∈ es.map (·.f2) := by
  cases h with
  | edge hb => exact nextF_to _ _ hb
  | step _ hb => exact nextF_to _ _ hb
theorem Adj.kp {base : Nat} {w w' : World} {M R : Nat} {l : List (Int × Value × Nat)} {c : Nat} {xs : Int → List Int} (h : Adj base w M l c xs) (hk : Kp w w' (· = R)) {es : Array MapEntry} {t : Nat} (hR : w.heap[R]? = some (.map es t)) (hne : M ≠ R) : Adj base w' M l c xs :=
  h.step (hk.block M (Array.getElem?_eq_some_iff.1 h.1.1).1 hne) (fun a k hkk => hk.block k (own_block_lt (h.2.2.2.2.1 a) hkk) (fun e => by
    obtain ⟨cells, hc⟩ := own_typed (h.2.2.2.2.1 a) k hkk
    rw [e, hR] at hc
    cases hc))

set_option maxRecDepth 100000 in
set_option maxHeartbeats 4000000 in
theorem rings_calls (w : World) {lab : ByteArray} {A : Option Addr} {c : Nat} {es : List S82} (hn : nameB lab = true) (hC : Kd.C k82 w A es.length es) (hl : es.length ≤ 1000) (hwf : ∀ e ∈ es, (Lit.int .i64 e.f0).wf = true) (hwf2 : ∀ e ∈ es, (Lit.int .i64 e.f2).wf = true) :
    Calls Try.prog 40 #[.string lab, .slice A es.length c] w fun e w' => ∃ v, ∃ rs : List (List Int), e = .returned (.tuple #[v, .int .i64 0]) ∧ RingsAt w' (w.heap.size ≤ ·) v rs ∧ RingsOf (nextF lab es) rs ∧ Below w.heap.size w w' := by
  have HC := Aside0.mk hC
  clear hC
  have hmm := @run_makeMap Try.prog
  go_enter Try.func40, Try.ntmps40
  go_wp2_with fail
  refine (spanBad_calls lab w hn).mono ?_
  rintro e w1 ⟨rfl, hB1⟩
  have HB1 := Aside0.mk hB1
  clear hB1
  go_wp2_with fail
  refine (next_calls w1 (Kd.C_below HC.out HB1.out) hl).mono ?_
  rintro e w2 ⟨l, cM, rfl, hA2, hB2⟩
  have HA2 := Aside0.mk hA2
  have HB2 := Aside0.mk (HB1.out.trans (hB2.mono HB1.out.size))
  have hkeys : ∀ a ∈ l.map (·.1), a ∈ es.map (·.f0) := fun a ha => nextF_key ((hA2.2.2.2.1 a).1 ((getA_mem a l).2 ha))
  have hll : l.length ≤ 1000 := by
    have := nodup_lenG hA2.2.2.1 hkeys
    rw [List.length_map, List.length_map] at this
    omega
  have hkwf : ∀ e ∈ l, (Lit.int .i64 e.1).wf = true := fun e he => by
    obtain ⟨x, hx, h1⟩ := List.mem_map.1 (hkeys e.1 (List.mem_map_of_mem he))
    rw [← h1]
    exact hwf x hx
  clear hA2 hB2
  go_wp2_with fail
  refine (keysA_calls (some w1.heap.size) (w2.alloc (.map #[] 0))).mono ?_
  rintro e w3 ⟨rfl, rfl⟩
  go_wp2_with fail
  have HA3 := Aside0.mk (HA2.out.below (below_alloc (Below.refl w2.heap.size w2) (.map #[] 0)))
  have HC3 := Aside0.mk (Cnt.new w2)
  clear hmm
  have hsz3 : (w2.alloc (.map #[] 0)).heap.size = w2.heap.size + 1 := by simp
  have hsk := sortedKeysA_calls (w2.alloc (.map #[] 0)) HA3.out.1 HA3.out.2.2.1 hkwf (by omega)
  rw [hsz3] at hsk
  refine hsk.mono ?_
  rintro e w4 ⟨v4, rfl, ho4, hB4⟩
  have HO4 := Aside0.mk ho4
  have HA4 := Aside0.mk (HA3.out.below (by rw [hsz3]; exact hB4))
  have HC4 := Aside0.mk (HC3.out.step (hB4.block w2.heap.size (by omega)))
  have HB4 := Aside0.mk (HB2.out.trans (((below_alloc (Below.refl w2.heap.size w2) (.map #[] 0)).trans (hB4.mono (Nat.le_succ _))).mono HB2.out.size))
  have hs2 : w1.heap.size < w2.heap.size := (Array.getElem?_eq_some_iff.1 HA2.out.1.1).1
  have hs4 : w2.heap.size < w4.heap.size := Nat.lt_of_lt_of_le (Nat.lt_succ_self _) (by have := hB4.size; omega)
  clear ho4 hB4 HA2 HA3 HC3 hsk
  have hks : ∀ a, a ∈ sortI (l.map (·.1)) ↔ a ∈ l.map (·.1) := fun a => List.mem_mergeSort
  obtain ⟨A4, c4, rfl⟩ : ∃ A c, v4 = .slice A (sortI (l.map (·.1))).length c := own_slice HO4.out
  have hksn : (sortI (l.map (·.1))).Nodup := (List.mergeSort_perm _ _).nodup_iff.2 HA4.out.2.2.1
  have hksl : (sortI (l.map (·.1))).length ≤ 1000 := by unfold sortI; rw [List.length_mergeSort, List.length_map]; exact hll
  generalize hKS : sortI (l.map (·.1)) = ks at *
  go_wp2_with fail
  go_loopg [7, 25] ks.length (fun gk s7 s25 wr => ∃ (i : Nat) (rs : List (List Int)) (us : List Value) (Ao : Option Addr) (co : Nat) (l3 : List (Int × Value × Nat)) (c3 : Nat) (sn : Int → Nat), i ≤ ks.length ∧ ks.length - i ≤ gk ∧ s25 = .int .i64 i ∧ s7 = .slice Ao us.length co ∧
    Aside0 (wr.ownsRow w4.heap.size 66 1 (.slice Ao us.length co) us.length us) ∧ Aside0 (TupsU wr (w4.heap.size ≤ ·) us rs) ∧ Aside0 (Cnt wr w2.heap.size l3 c3 sn) ∧ Aside0 (RingsInv (nextF lab es) (ks.take i) rs sn) ∧ Aside0 (Kp w4 wr (· = w2.heap.size)))
  case atStart => exact ⟨0, [], [], none, 0, [], 0, _, Nat.zero_le _, by omega, rfl, rfl, ⟨World.ownsRow_nil _ _ _ _⟩, ⟨TupsU.nil _ _⟩, HC4, ⟨RingsInv.start _⟩, ⟨Kp.refl _ _⟩⟩
  case round =>
    obtain ⟨i, rs, us, Ao, co, l3, c3, sn, hi, hgk, rfl, rfl, hO, hU, hCn, hR, hK⟩ := hrel
    by_cases hlt : i < ks.length
    · have hAr := Aside0.mk (HA4.out.kp hK.out HC4.out.1.1 (Nat.ne_of_lt hs2))
      have hcell : ∃ g, A4 = some ⟨g, 0, none⟩ ∧ wr.cell? ⟨g, i, none⟩ = some (.int .i64 ks[i]) := by
        rcases HO4.out.2 with ⟨h0, h1⟩ | ⟨g, cap, cur, hv, hbg, _⟩
        · omega
        · have hO4' := HO4.out
          injection hv with hv1 _ hv2
          subst hv1
          refine ⟨g, rfl, hK.out.cell (by rw [hO4'.cellAt i (by omega)]; simp [nums, hlt]) (fun e => ?_)⟩
          change g = w2.heap.size at e
          omega
      obtain ⟨g4, rfl, hcell⟩ := hcell
      have i1 : (i : Int) < (ks.length : Int) := by omega
      have i0 : (0 : Int) ≤ (i : Int) := by omega
      have htk : ks.take i ++ [ks[i]] = ks.take (i + 1) := by rw [List.take_add_one, List.getElem?_eq_getElem hlt]; rfl
      have HTK := Aside0.mk htk
      clear htk
      go_wp2_with fail
      refine (reached_calls wr hAr.out (fun x => Nat.le_trans (nextF_le lab es x) hl) hll ks[i]).mono ?_
      rintro e w5 ⟨R, l2, c2, cnt, rfl, hRs, hcnt, hreach, hcb, hB5⟩
      have hs5 : wr.heap.size ≤ w5.heap.size := hB5.size
      have hs4r : w4.heap.size ≤ wr.heap.size := hK.out.size
      have hC5 := Aside0.mk (hCn.out.step (hB5.block w2.heap.size (by omega)))
      have hO5 := Aside0.mk (pw_own_below hO.out hB5)
      have hU5 := Aside0.mk (hU.out.imp (fun v x h => TupAt.step h (fun k hk hlt => hB5.block k hlt)))
      have hK5 := Aside0.mk (hK.out.trans (Kp.ofBelow' hB5))
      have hlk1 := run_lookup_my (w := w5) key_int Try.underlying143 (.int .i64 0) zero3 hC5.out.1 ks[i]
      rw [hC5.out.getD ks[i]] at hlk1
      have hlk2 := run_lookup_my (w := w5) key_int Try.underlying143 (.int .i64 0) zero3 hcnt.1 ks[i]
      rw [hcnt.getD ks[i]] at hlk2
      have HCNT := Aside0.mk hcnt
      have HREACH := Aside0.mk hreach
      clear hcell hcnt hreach hcb hB5 hO hU hCn hK hAr
      by_cases h1 : 0 < sn ks[i]
      · have HP := Aside0.mk (hR.out.skip (.inl h1))
        rw [HTK.out] at HP
        have g1 : ((sn ks[i] : Nat) : Int) > 0 := by omega
        go_wp2_with fail
        go_roundg (ks.length - (i + 1))
        case measure => omega
        case rel =>
          refine ⟨i + 1, rs, us, Ao, co, l3, c3, sn, by omega, Nat.le_refl _, ?_, rfl, hO5, hU5, hC5, HP, hK5⟩
          first | exact congrArg (Value.int .i64) (wrap_succ i ks.length hlt (by omega)) | exact congrArg (Value.int .i64) (by omega)
      · have g1 : ¬ ((sn ks[i] : Nat) : Int) > 0 := by omega
        by_cases h2 : cnt ks[i] = 0
        · have HP := Aside0.mk (hR.out.skip (a := ks[i]) (.inr (fun h => by have := (HREACH.out ks[i]).2 h; omega)))
          rw [HTK.out] at HP
          rw [h2] at hlk2
          go_wp2_with fail
          go_roundg (ks.length - (i + 1))
          case measure => omega
          case rel =>
            refine ⟨i + 1, rs, us, Ao, co, l3, c3, sn, by omega, Nat.le_refl _, ?_, rfl, hO5, hU5, hC5, HP, hK5⟩
            first | exact congrArg (Value.int .i64) (wrap_succ i ks.length hlt (by omega)) | exact congrArg (Value.int .i64) (by omega)
        · have g2 : (((cnt ks[i] : Nat) : Int) == 0) = false := by simp; omega
          have g3 : ¬ ((cnt ks[i] : Nat) : Int) = 0 := by omega
          have hR0 := hR.out
          have hsa : sn ks[i] = 0 := by omega
          have HRA : Aside0 (Reach (nextF lab es) ks[i] ks[i]) := ⟨(HREACH.out ks[i]).1 (by omega)⟩
          have hto2 : ∀ b ∈ l2.map (·.1), Reach (nextF lab es) ks[i] b := fun b hb => (HREACH.out b).1 (by
            have h3 := (getA_mem b l2).2 hb
            rw [HCNT.out.2.2 b] at h3
            split at h3
            · cases h3
            · omega)
          have hfrom2 : ∀ b, Reach (nextF lab es) ks[i] b → b ∈ l2.map (·.1) := fun b hb => by
            refine (getA_mem b l2).1 ?_
            rw [HCNT.out.2.2 b]
            have := (HREACH.out b).2 hb
            rw [if_neg (by omega)]
            rfl
          have hl2 : l2.length ≤ 1000 := by
            have := nodup_lenG HCNT.out.2.1 (l := es.map (·.f2)) (fun b hb => reach_to (hto2 b hb))
            rw [List.length_map, List.length_map] at this
            omega
          have hkw2 : ∀ e ∈ l2, (Lit.int .i64 e.1).wf = true := fun e he => by
            obtain ⟨x, hx, h1⟩ := List.mem_map.1 (reach_to (hto2 e.1 (List.mem_map_of_mem he)))
            rw [← h1]
            exact hwf2 x hx
          go_wp2_with fail
          clear hlk1 hlk2
          refine (keysB_calls (some R) w5).mono ?_
          rintro e w6 ⟨rfl, rfl⟩
          go_wp2_with fail
          refine (sortedKeysB_calls w5 HCNT.out.1 HCNT.out.2.1 hkw2 (by omega)).mono ?_
          rintro e w7 ⟨v7, rfl, ho7, hB7⟩
          have hs7 : w5.heap.size ≤ w7.heap.size := hB7.size
          have hC7 := Aside0.mk (hC5.out.step (hB7.block w2.heap.size (by omega)))
          have hO7 := Aside0.mk (pw_own_below hO5.out hB7)
          have hU7 := Aside0.mk (hU5.out.imp (fun v x h => TupAt.step h (fun k hk hlt => hB7.block k hlt)))
          have hK7 := Aside0.mk (hK5.out.trans (Kp.ofBelow' hB7))
          have HA7 := Aside0.mk (HA4.out.kp hK7.out HC4.out.1.1 (Nat.ne_of_lt hs2))
          have HO7k := Aside0.mk ho7
          have hk2 : ∀ b, b ∈ sortI (l2.map (·.1)) ↔ Reach (nextF lab es) ks[i] b := fun b => by
            rw [show b ∈ sortI (l2.map (·.1)) ↔ b ∈ l2.map (·.1) from List.mem_mergeSort]
            exact ⟨hto2 b, hfrom2 b⟩
          obtain ⟨A7, c7, rfl⟩ : ∃ A c, v7 = .slice A (sortI (l2.map (·.1))).length c := own_slice HO7k.out
          have hk2n : (sortI (l2.map (·.1))).Nodup := (List.mergeSort_perm _ _).nodup_iff.2 HCNT.out.2.1
          have hk2u : (sortI (l2.map (·.1))).Pairwise (· < ·) := nodup_sorted hk2n (sortI_up _)
          have hk2l : (sortI (l2.map (·.1))).length ≤ 1000 := by unfold sortI; rw [List.length_mergeSort, List.length_map]; exact hl2
          generalize hKS2 : sortI (l2.map (·.1)) = ks2 at *
          have HK2 := Aside0.mk hk2
          have HK2N := Aside0.mk hk2n
          have HK2U := Aside0.mk hk2u
          clear ho7 hB7 hO5 hU5 hC5 hK5 hto2 hfrom2 hKS2 hk2 hk2n hk2u
          go_wp2_with fail
          go_loopg [12, 46] ks2.length (fun gk2 s12 s46 wi => ∃ (j : Nat) (tl : List Int) (An : Option Addr) (cn : Nat) (l4 : List (Int × Value × Nat)) (c4' : Nat) (sn' : Int → Nat), j ≤ ks2.length ∧ ks2.length - j ≤ gk2 ∧ s46 = .int .i64 j ∧ s12 = .slice An tl.length cn ∧
            Aside0 (tl = ringL (nextF lab es) ks[i] (ks2.take j)) ∧ Aside0 (wi.ownsRow w7.heap.size 3 1 (.slice An tl.length cn) tl.length (nums .i64 tl)) ∧ Aside0 (Cnt wi w2.heap.size l4 c4' sn') ∧ Aside0 (∀ b, sn' b = sn b + if b ∈ tl then 1 else 0) ∧ Aside0 (Kp w7 wi (· = w2.heap.size)))
          case atStart => exact ⟨0, [], none, 0, l3, c3, sn, Nat.zero_le _, by omega, rfl, rfl, ⟨by simp [ringL]⟩, ⟨World.ownsRow_nil _ _ _ _⟩, hC7, ⟨fun b => by simp⟩, ⟨Kp.refl _ _⟩⟩
          case round =>
            obtain ⟨j, tl, An, cn, l4, c4', sn', hj, hgk2, rfl, rfl, hTL, hOn, hCn, hSN, hKi⟩ := hrel
            have htl1 : tl.length ≤ 1000 := by
              rw [hTL.out]
              exact Nat.le_trans ringL_le (by rw [List.length_take]; omega)
            by_cases hjl : j < ks2.length
            · have hAi := Aside0.mk (HA7.out.kp hKi.out (hC7.out.1.1) (Nat.ne_of_lt hs2))
              have hcell : ∃ g, A7 = some ⟨g, 0, none⟩ ∧ wr.cell? ⟨g, j, none⟩ = some (.int .i64 ks2[j]) := by
                rcases HO7k.out.2 with ⟨h0, h1⟩ | ⟨g, cap, cur, hv, hbg, _⟩
                · omega
                · have hO7' := HO7k.out
                  injection hv with hv1 _ hv2
                  subst hv1
                  refine ⟨g, rfl, hKi.out.cell (by rw [hO7'.cellAt j (by omega)]; simp [nums, hjl]) (fun e => ?_)⟩
                  change g = w2.heap.size at e
                  omega
              obtain ⟨g7, rfl, hcell⟩ := hcell
              have j1 : (j : Int) < (ks2.length : Int) := by omega
              have j0 : (0 : Int) ≤ (j : Int) := by omega
              have HRT := Aside0.mk (ringL_take (fs := nextF lab es) (a := ks[i]) hjl)
              have HMK : Aside0 (ks2[j] ∉ ks2.take j) := ⟨by
                intro hmem
                obtain ⟨q, hq, h1⟩ := List.mem_iff_getElem.1 hmem
                rw [List.getElem_take] at h1
                have hq2 : q < j := by rw [List.length_take] at hq; omega
                have := (List.getElem_inj (h₀ := by omega) (h₁ := hjl) HK2N.out).1 h1
                omega⟩
              go_wp2_with fail
              refine (reached_calls wr hAi.out (fun x => Nat.le_trans (nextF_le lab es x) hl) hll ks2[j]).mono ?_
              rintro e w8 ⟨R8, l8, c8, cnt8, rfl, hRs8, hcnt8, hreach8, hcb8, hB8⟩
              have hs8 : wr.heap.size ≤ w8.heap.size := hB8.size
              have hs7r : w7.heap.size ≤ wr.heap.size := hKi.out.size
              have hC8 := Aside0.mk (hCn.out.step (hB8.block w2.heap.size (by omega)))
              have hO8 := Aside0.mk (pw_own_below hOn.out hB8)
              have hK8 := Aside0.mk (hKi.out.trans (Kp.ofBelow' hB8))
              have hlk8 := run_lookup_my (w := w8) key_int Try.underlying143 (.int .i64 0) zero3 hcnt8.1 ks[i]
              rw [hcnt8.getD ks[i]] at hlk8
              have HR8 := Aside0.mk (hreach8 ks[i])
              clear hcell hcnt8 hreach8 hcb8 hB8 hOn hCn hKi hAi
              by_cases h8 : 0 < cnt8 ks[i]
              · have g8 : ((cnt8 ks[i] : Nat) : Int) > 0 := by omega
                have hRj : Reach (nextF lab es) ks2[j] ks[i] := HR8.out.1 h8
                have HTL2 : Aside0 (tl ++ [ks2[j]] = ringL (nextF lab es) ks[i] (ks2.take (j + 1))) := ⟨by
                  rw [HRT.out.1 hRj, hTL.out]⟩
                have HNT : Aside0 (ks2[j] ∉ tl) := ⟨fun hmem => HMK.out (by
                  rw [hTL.out] at hmem
                  exact (mem_ringL.1 hmem).1)⟩
                clear hRj hTL
                go_wp2_with (at_builtin; refine print_append (w0 := w8) w7.heap.size rfl (.tmp 56) (.tmp 58) 66 3 (.int .i64 0) 8 rfl Try.underlying66 info3 rfl (by decide) (.slice An tl.length cn) (nums .i64 tl) (.int .i64 ks2[j]) rfl rfl ?c1 ?c2 ?c3 ?c4 ?c5 ?_)
                case c1 => rfl
                case c2 => simpa [nums] using hO8.out
                case c3 => exact Below.refl _ _
                case c4 => omega
                case c5 => simp [nums]; omega
                intro v9 w9 ho9 hb9 hg9 _
                have ho10 : w9.ownsRow w7.heap.size 3 1 v9 (tl ++ [ks2[j]]).length (nums .i64 (tl ++ [ks2[j]])) := by simpa [nums] using ho9
                obtain ⟨A9, c9, rfl⟩ := own_slice ho10
                have HO10 := Aside0.mk ho10
                have hC9 := Aside0.mk (hC8.out.step (hb9.block w2.heap.size (by omega)))
                have hK9 : Aside0 (Kp w7 w9 (· = w2.heap.size)) := ⟨hK8.out.grown hg9 (fun k hk => .inr (own_base hO8.out k hk))⟩
                have hnj : sn' ks2[j] ≤ 1000 := by
                  have h1 := hSN.out ks2[j]
                  rw [if_neg HNT.out] at h1
                  have h2 := hR0.le ks2[j]
                  have h3 := hR0.few
                  rw [List.length_take] at h3
                  omega
                have hlk9 := run_lookup_my (w := w9) key_int Try.underlying143 (.int .i64 0) zero3 hC9.out.1 ks2[j]
                rw [hC9.out.getD ks2[j]] at hlk9
                have hM10 := Aside0.mk (mapIs_put hC9.out.1 ks2[j] (.int .i64 ((sn' ks2[j] : Int) + 1)))
                have hupd9 := run_mapUpdate_my key_int Try.underlying143 hC9.out.1 ks2[j] (.int .i64 ((sn' ks2[j] : Int) + 1))
                have hC10 := Aside0.mk (hC9.out.bump (n := ks2[j]) (v := .int .i64 ((sn' ks2[j] : Int) + 1)) rfl hM10.out)
                have hg10 : Aside0 (w9.grownBy (setB w9 w2.heap.size (.map ((putA ks2[j] (.int .i64 ((sn' ks2[j] : Int) + 1)) c4' l4).map (mkE (.int .i64))).toArray (tick ks2[j] c4' l4))) (some w2.heap.size)) := ⟨setB_grown _⟩
                generalize setB w9 w2.heap.size (.map ((putA ks2[j] (.int .i64 ((sn' ks2[j] : Int) + 1)) c4' l4).map (mkE (.int .i64))).toArray (tick ks2[j] c4' l4)) = w10 at *
                have hO11 := Aside0.mk (own_move HO10.out (w1 := w10) (fun k hk => hg10.out.block k (own_block_lt HO10.out hk) (fun e => by
                  injection e with e
                  have := own_base HO10.out k hk
                  omega)))
                have hK10 : Aside0 (Kp w7 w10 (· = w2.heap.size)) := ⟨hK9.out.grown hg10.out (fun k hk => by injection hk with hk; exact .inl hk.symm)⟩
                have HSN2 : Aside0 (∀ b, bump sn' ks2[j] b = sn b + if b ∈ tl ++ [ks2[j]] then 1 else 0) := ⟨fun b => by
                  have h1 := hSN.out b
                  unfold bump
                  by_cases hb : b = ks2[j]
                  · rw [if_pos hb, if_pos (by rw [hb]; simp), h1, if_neg (by rw [hb]; exact HNT.out)]
                  · rw [if_neg hb, h1]
                    simp [hb]⟩
                clear ho9 hb9 hg9 ho10 HO10 hM10 hg10 hC9 hK9 hO8 hC8 hK8
                go_wp2_with fail
                go_roundg (ks2.length - (j + 1))
                case measure => omega
                case rel =>
                  refine ⟨j + 1, tl ++ [ks2[j]], A9, c9, _, _, bump sn' ks2[j], by omega, Nat.le_refl _, ?_, rfl, HTL2, hO11, hC10, HSN2, hK10⟩
                  first | exact congrArg (Value.int .i64) (wrap_succ j ks2.length hjl (by omega)) | exact congrArg (Value.int .i64) (by omega)
              · have g8 : ¬ ((cnt8 ks[i] : Nat) : Int) > 0 := by omega
                have hTL2 : Aside0 (tl = ringL (nextF lab es) ks[i] (ks2.take (j + 1))) := ⟨by
                  rw [HRT.out.2 (fun h => h8 (HR8.out.2 h))]
                  exact hTL.out⟩
                go_wp2_with fail
                go_roundg (ks2.length - (j + 1))
                case measure => omega
                case rel =>
                  refine ⟨j + 1, tl, An, cn, l4, c4', sn', by omega, Nat.le_refl _, ?_, rfl, hTL2, hO8, hC8, hSN, hK8⟩
                  first | exact congrArg (Value.int .i64) (wrap_succ j ks2.length hjl (by omega)) | exact congrArg (Value.int .i64) (by omega)
            · have hjj : j = ks2.length := by omega
              subst hjj
              rw [List.take_length] at hTL
              have HR9 : Aside0 (RingsInv (nextF lab es) (ks.take (i + 1)) (rs ++ [tl]) sn') := ⟨by
                rw [← HTK.out]
                refine hR0.more hsa HRA.out ?_ (fun b => ?_) hSN.out
                · rw [hTL.out]
                  exact HK2U.out.filter _
                · rw [hTL.out, mem_ringL, HK2.out]⟩
              have hs7r : w7.heap.size ≤ wr.heap.size := hKi.out.size
              have hO9 := Aside0.mk (own_move hO7.out (w1 := wr) (fun k hk => hKi.out.block k (own_block_lt hO7.out hk) (fun e => by
                have := own_base hO7.out k hk
                change k = w2.heap.size at e
                omega)))
              have hU9 := Aside0.mk (hU7.out.imp (fun v x h => TupAt.step (w' := wr) h (fun k hk hlt => hKi.out.block k hlt (fun e => by
                change k = w2.heap.size at e
                omega))))
              have hK9 : Aside0 (Kp w4 wr (· = w2.heap.size)) := ⟨hK7.out.trans hKi.out⟩
              have hT9 : Aside0 (TupAt wr (w7.heap.size ≤ ·) (.slice An tl.length cn) tl) := ⟨tup_ofOwn hOn.out (fun k hk => own_base hOn.out k hk)⟩
              have hrl : us.length ≤ 1000 := by
                have h1 := hR0.few
                rw [List.length_take] at h1
                have h2 := hU7.out.1
                omega
              clear hO7 hU7 hK7 hOn hKi hTL hSN
              go_wp2_with fail
              refine (clipI_calls wr hT9.out).mono ?_
              rintro e w9 ⟨⟨v9, rfl, ht9⟩, rfl⟩
              have HT9 := Aside0.mk (ht9.okmono (ok' := (w4.heap.size ≤ ·)) (fun k hk _ => by omega))
              obtain ⟨A0, c0, rfl, _⟩ := SlAt.shape ht9
              clear ht9 hT9
              go_wp2_with (at_builtin; refine print_append (w0 := w9) w4.heap.size rfl (.tmp 65) (.tmp 68) 84 66 (.slice none 0 0) 24 rfl Try.underlying84 info66 rfl (by decide) (.slice Ao us.length co) us (.slice A0 tl.length c0) rfl rfl ?c1 ?c2 ?c3 ?c4 ?c5 ?_)
              case c1 => rfl
              case c2 => exact hO9.out
              case c3 => exact Below.refl _ _
              case c4 => omega
              case c5 => omega
              intro v10 w10 ho10 hb10 hg10 _
              obtain ⟨A10, c10, rfl⟩ := own_slice ho10
              have hof : ∀ {v : Value} {x : List Int}, TupAt w9 (w4.heap.size ≤ ·) v x → TupAt w10 (w4.heap.size ≤ ·) v x := fun {v x} h => by
                rcases h with h | ⟨g, off, cap, cur, rfl, k1, k2, k3⟩
                · exact .inl h
                · refine .inr ⟨g, off, cap, cur, rfl, k1, (hg10.block g (Array.getElem?_eq_some_iff.1 k2).1 (fun e => ?_)).trans k2, k3⟩
                  exact own_ne_type hO9.out k2 (by decide) e
              have hU10 := Aside0.mk (TupsU.snoc (hU9.out.imp (fun v x h => hof h)) (hof HT9.out))
              have hK10 : Aside0 (Kp w4 w10 (· = w2.heap.size)) := ⟨hK9.out.grown hg10 (fun k hk => .inr (own_base hO9.out k hk))⟩
              have hC10 := Aside0.mk (hCn.out.step (hb10.block w2.heap.size (by omega)))
              have HO10 := Aside0.mk ho10
              clear ho10 hb10 hg10 hof hO9 hU9 hK9 hCn
              go_wp2_with fail
              go_roundg (ks.length - (i + 1))
              case measure => omega
              case rel =>
                refine ⟨i + 1, rs ++ [tl], us ++ [.slice A0 tl.length c0], A10, c10, _, _, sn', by omega, Nat.le_refl _, ?_, by simp, ?_, hU10, hC10, HR9, hK10⟩
                · first | exact congrArg (Value.int .i64) (wrap_succ i ks.length hlt (by omega)) | exact congrArg (Value.int .i64) (by omega)
                · exact ⟨by simpa using HO10.out⟩
    · have hii : i = ks.length := by omega
      subst hii
      rw [List.take_length] at hR
      go_wp2_with fail
      go_ret2
      have hsw : w.heap.size ≤ w4.heap.size := HB4.out.size
      refine ⟨.slice Ao us.length co, rs, rfl, ?_, ?_, ?_⟩
      · exact SlAt.ofOwn hO.out hU.out.1 (fun j u x hj hx => (hU.out.2 j u x hj hx).okmono (fun k hk _ => Nat.le_trans hsw hk)) (fun k hk => Nat.le_trans hsw (own_base hO.out k hk))
      · exact ⟨hR.out.up, hR.out.ring, fun a ha => hR.out.full a ((hks a).2 ((getA_mem a l).1 ((HA4.out.2.2.2.1 a).2 (reach_ne ha)))) ha, hR.out.apart⟩
      · exact HB4.out.trans (hK.out.below hsw (fun k hk => by rw [hk]; exact HB2.out.size))
end Go.Proofs.Ytcchcifcfcpjiaa.J
