/- span.reached: the walk. -/
import Derived.Test.YtcchcifcfcpjiaaSR
import Derived.Test.YtcchcifcfcpjiaaSO
set_option linter.unusedVariables false
set_option linter.unusedSimpArgs false
namespace Go.Proofs.Ytcchcifcfcpjiaa.J
open Go.RowKit Go.Proofs.YtcchcifcfcpjiaaW.PrintWords Go.Proofs.YtcchcifcfcpjiaaW.PrintLast Go.Proofs.YtcchcifcfcpjiaaW.PrintMore Go.Proofs.Ytcchcifcfcpjiaa.PJ

theorem cloneI_calls (w : World) {base : Nat} {v : Value} {xs : List Int} (ho : w.ownsRow base 3 1 v xs.length (nums .i64 xs)) (hl : xs.length ≤ 1000000) :
    Calls Try.prog 115 #[v] w fun e w' => ∃ v', e = .returned v' ∧ w'.ownsRow w.heap.size 3 1 v' xs.length (nums .i64 xs) ∧ Below w.heap.size w w' := by
  rcases ho.2 with ⟨rfl, h1⟩ | ⟨g, cap, cur, rfl, hb, hg, hn, hm, hs, ht⟩
  · have hx : xs = [] := List.eq_nil_of_length_eq_zero h1
    subst hx
    refine Calls.mono (Try.slices_Clone_int_nil 0 0 w) ?_
    rintro e w' ⟨rfl, rfl⟩
    exact ⟨_, rfl, World.ownsRow_nil _ _ _ _, Below.refl _ _⟩
  · rw [Nat.mul_one] at ht
    have hH := holds_of_blockI (ss := xs) hg (by rw [ht]; rfl)
    refine Calls.mono (Try.slices_Clone_int g 0 xs.length cap xs w (Nat.le_refl _) (by omega) (fun j hj => ?_)) ?_
    · have := (hH j (by simpa using hj)).1
      rw [this]
      simp [List.getD, hj]
    · rintro e w' ⟨v', rfl, h1, h2, h3⟩
      rw [List.take_length] at h1
      exact ⟨v', rfl, h1, h3⟩

set_option maxRecDepth 100000 in
set_option maxHeartbeats 4000000 in
theorem reached_calls (w : World) {base M : Nat} {l : List (Int × Value × Nat)} {cM : Nat} {fs : Int → List Int} (hA : Adj base w M l cM fs) (hl : ∀ x, (fs x).length ≤ 1000) (hk : l.length ≤ 1000) (a : Int) :
    Calls Try.prog 85 #[.map (some M), .int .i64 a] w fun e w' => ∃ R l2 c2 cnt, e = .returned (.map (some R)) ∧ w.heap.size ≤ R ∧ Cnt w' R l2 c2 cnt ∧ (∀ b, 0 < cnt b ↔ Reach fs a b) ∧ (∀ b, cnt b ≤ 2000000) ∧ Below w.heap.size w w' := by
  have HA := Aside0.mk hA
  clear hA
  have hmm := @run_makeMap Try.prog
  have hA1 : Aside0 (Adj base (w.alloc (.map #[] 0)) M l cM fs) := ⟨HA.out.below (below_alloc (Below.refl _ _) _)⟩
  have hlk := run_lookup_my (w := w.alloc (.map #[] 0)) key_int Try.underlying137 (.slice none 0 0) zero66 hA1.out.1 a
  change (Instr.lookup 137 (.map (some M)) (.int .i64 a) false).run Try.prog (w.alloc (.map #[] 0)) = .ok (valOf a l) (w.alloc (.map #[] 0)) at hlk
  go_enter Try.func85, Try.ntmps85
  go_wp2_with fail
  clear hmm hlk
  refine (cloneI_calls _ (hA1.out.2.2.2.2.1 a) (Nat.le_trans (hl a) (by omega))).mono ?_
  rintro e w1 ⟨v1, rfl, ho1, hB1⟩
  have hC1 := Aside0.mk ((Cnt.new w).step (hB1.block w.heap.size (by simp)))
  have hBl1 := Aside0.mk ((below_alloc (Below.refl w.heap.size w) (.map #[] 0)).trans (hB1.mono (by simp)))
  have hO1 := Aside0.mk ho1
  clear ho1 hB1 hA1
  go_wp2_with fail
  have HS := Aside0.mk (Srch.start fs a)
  have hT0 : (fs a).length + budget fs (fun _ => 0) (l.map (·.1)) ≤ 1001000 := by
    have h1 := budget_le fs (fun _ => 0) hl (l.map (·.1))
    rw [List.length_map] at h1
    have h2 : l.length * 1000 ≤ 1000 * 1000 := Nat.mul_le_mul_right _ hk
    have := hl a
    omega
  generalize hT : (fs a).length + budget fs (fun _ => 0) (l.map (·.1)) = T0 at hT0
  have hszw : (w.alloc (.map #[] 0)).heap.size = w.heap.size + 1 := by simp
  rw [hszw] at hO1
  clear hszw
  obtain ⟨A1, k1, rfl⟩ : ∃ A c, v1 = .slice A (fs a).length c := own_slice hO1.out
  go_loopg [6] T0 (fun gk s6 wr => ∃ (todo : List Int) (A : Option Addr) (cc : Nat) (l2 : List (Int × Value × Nat)) (c2 : Nat) (cnt : Int → Nat), s6 = .slice A todo.length cc ∧ todo.length + budget fs cnt (l.map (·.1)) ≤ gk ∧
    Aside0 (wr.ownsRow (w.heap.size + 1) 3 1 (.slice A todo.length cc) todo.length (nums .i64 todo)) ∧ Aside0 (Cnt wr w.heap.size l2 c2 cnt) ∧ Aside0 (Srch fs a todo cnt) ∧ Aside0 (Below w.heap.size w wr) ∧ Aside0 (∀ b, cnt b + gk ≤ T0))
  case atStart => exact ⟨fs a, A1, k1, [], 0, fun _ => 0, rfl, by omega, hO1, hC1, HS, hBl1, ⟨fun b => by show 0 + T0 ≤ T0; omega⟩⟩
  case round =>
    obtain ⟨todo, A, cc, l2, c2, cnt, rfl, hgk, hO, hC, hS, hB, hG⟩ := hrel
    clear hO1 hC1 hBl1 HS
    have htodo : todo = [] ∨ ∃ t n, todo = t ++ [n] := by
      rcases List.eq_nil_or_concat todo with h | ⟨t, n, h⟩
      · exact .inl h
      · exact .inr ⟨t, n, by rw [h, List.concat_eq_append]⟩
    rcases htodo with rfl | ⟨t, n, rfl⟩
    · go_wp2_with fail
      go_ret
      exact ⟨w.heap.size, l2, c2, cnt, rfl, Nat.le_refl _, hC.out, hS.out.done, fun b => by have := hG.out b; omega, hB.out⟩
    · have hlen : (t ++ [n]).length = t.length + 1 := by simp
      rw [hlen] at hO hgk ⊢
      rcases hO.out.2 with ⟨h0, h1⟩ | ⟨g, cap, cur, hv, hbg, hg, hn, hm, hs, ht⟩
      · omega
      cases hv
      have hcell : wr.cell? ⟨g, t.length, none⟩ = some (.int .i64 n) := by
        rw [hO.out.cellAt t.length (by omega), nums_append, List.getElem?_append_right (by simp [nums])]
        simp [nums]
      have hi1 : (t.length : Int) < ((t.length + 1 : Nat) : Int) := by omega
      have hi0 : (0 : Int) ≤ (t.length : Int) := by omega
      have hT1 : t.length + 1 ≤ 1001000 := by have := hG.out 0; omega
      go_upto_region 6 with fail
      have hcn : cnt n ≤ 1001000 := by have := hG.out n; omega
      have hO6 : Aside0 (wr.ownsRow (w.heap.size + 1) 3 1 (.slice (some ⟨g, 0, none⟩) t.length cc) t.length (nums .i64 t)) := ⟨⟨by simp [nums], .inr ⟨g, cc, cur, rfl, hbg, hg, by omega, hm, hs, by
        have h3 := congrArg (List.take t.length) ht
        rw [List.take_take, Nat.mul_one, Nat.min_eq_left (by omega), nums_append, List.take_left' (by simp [nums])] at h3
        rw [Nat.mul_one]
        exact h3⟩⟩⟩
      have hgR : g ≠ w.heap.size := by omega
      clear hO ht hcell hi1 hi0
      have hlk6 := run_lookup_my (w := wr) key_int Try.underlying143 (.int .i64 0) zero3 hC.out.1 n
      rw [hC.out.getD n] at hlk6
      have hM7 := Aside0.mk (mapIs_put hC.out.1 n (.int .i64 ((cnt n : Int) + 1)))
      have hupd6 := run_mapUpdate_my key_int Try.underlying143 hC.out.1 n (.int .i64 ((cnt n : Int) + 1))
      have hC7 := Aside0.mk (hC.out.bump (n := n) (v := .int .i64 ((cnt n : Int) + 1)) rfl hM7.out)
      have hg7 : Aside0 (wr.grownBy (setB wr w.heap.size (.map ((putA n (.int .i64 ((cnt n : Int) + 1)) c2 l2).map (mkE (.int .i64))).toArray (tick n c2 l2))) (some w.heap.size)) := ⟨setB_grown _⟩
      generalize setB wr w.heap.size (.map ((putA n (.int .i64 ((cnt n : Int) + 1)) c2 l2).map (mkE (.int .i64))).toArray (tick n c2 l2)) = w7 at *
      have hO7 := Aside0.mk (own_move hO6.out (w1 := w7) (fun k hk => hg7.out.block k (own_block_lt hO6.out hk) (fun e => by injection e with e; injection hk with hk; exact hgR (hk.trans e))))
      have hB7 := Aside0.mk (pw_below_grown hB.out _ hB.out.size hg7.out (fun j hj => by injection hj with hj; omega))
      have hlk7 := run_lookup_my (w := w7) key_int Try.underlying143 (.int .i64 0) zero3 hC7.out.1 n
      rw [hC7.out.getD n] at hlk7
      have hbn : bump cnt n n = cnt n + 1 := by simp [bump]
      rw [hbn] at hlk7
      clear hC hB hg hs hM7 hg7 hO6
      by_cases h0 : cnt n = 0
      · have e0 : ((0 : Nat) : Int) = 0 := rfl
        have e1 : (0 : Int) + 1 = 1 := rfl
        have e2 : ((0 + 1 : Nat) : Int) = 1 := rfl
        rw [h0, e0] at hlk6 hupd6
        rw [e1] at hupd6
        rw [h0, e2] at hlk7
        clear e0 e1 e2
        have hAd7 := Aside0.mk (HA.out.below hB7.out)
        have hlk8 := run_lookup_my (w := w7) key_int Try.underlying137 (.slice none 0 0) zero66 hAd7.out.1 n
        change (Instr.lookup 137 (.map (some M)) (.int .i64 n) false).run Try.prog w7 = .ok (valOf n l) w7 at hlk8
        have hbud : (t ++ fs n).length + budget fs (bump cnt n) (l.map (·.1)) ≤ gk - 1 := by
          rw [List.length_append]
          by_cases hm2 : n ∈ l.map (·.1)
          · have := budget_bump fs cnt n h0 _ hm2
            omega
          · have h1 : fs n = [] := Classical.byContradiction fun h2 => hm2 ((getA_mem n l).1 ((hAd7.out.2.2.2.1 n).2 h2))
            rw [h1]
            have := budget_bump_le fs cnt n (l.map (·.1))
            simp only [List.length_nil]
            omega
        have hG8 : ∀ b, bump cnt n b + (gk - 1) ≤ T0 := fun b => by
          have := hG.out b
          unfold bump
          split <;> omega
        rcases (hAd7.out.2.2.2.2.1 n).2 with ⟨hv, h1⟩ | ⟨g2, cap2, cur2, hv, hbg2, hg2, hn2, hm2, hs2, ht2⟩
        · have hf : fs n = [] := List.eq_nil_of_length_eq_zero h1
          rw [hv] at hlk8
          rw [hf, List.append_nil] at hbud
          have hS8 := hS.out.new
          rw [hf, List.append_nil] at hS8
          have HS8 := Aside0.mk hS8
          clear hS8
          go_wp2_with fail
          go_roundg (gk - 1)
          case measure => omega
          case rel => exact ⟨t, _, cc, _, _, bump cnt n, rfl, hbud, hO7, hC7, HS8, hB7, ⟨hG8⟩⟩
        · rw [hv] at hlk8
          have hf : fs n ≠ [] := fun h1 => by
            have h2 : getA n l = none := by
              have := hAd7.out.2.2.2.1 n
              cases hq : getA n l with
              | none => rfl
              | some x => rw [hq] at this; exact absurd h1 (this.1 rfl)
            unfold valOf at hv
            rw [h2] at hv
            cases hv
          have hfl : 0 < (fs n).length := List.length_pos_iff.2 hf
          have hnw := hAd7.out.2.2.2.2.1 n
          rw [hv] at hnw
          have hbw7 : w.heap.size + 1 ≤ w7.heap.size := by have := hC7.out.1; have := (Array.getElem?_eq_some_iff.1 this.1).1; omega
          have HI : Aside0 (∃ i, Try.prog.info? 3 = some i ∧ i.zero = some (.int .i64 0) ∧ i.size = 1 ∧ i.bytes = 8) := ⟨info_parts info3⟩
          have HNW := Aside0.mk hnw
          clear hnw
          go_wp2_with (at_builtin; refine wpList_append_lies _ rfl (.tmp 35) (.tmp 38) 66 rfl (w.heap.size + 1) 3 HI.out.choose (.int .i64 0) 1 8 Try.underlying66 HI.out.choose_spec.1 HI.out.choose_spec.2.1 HI.out.choose_spec.2.2.1 HI.out.choose_spec.2.2.2 rfl (by omega) _ _ _ rfl hO7.out ⟨g2, 0, none⟩ (fs n).length cap2 (nums .i64 (fs n)) rfl ?c1 ?c2 ?c3 hfl ?c4 ?c5 hbw7 w7.heap.size rfl ?_)
          case c1 => simp [nums]
          case c2 => exact fun j u hu => HNW.out.cells (g := g2) rfl j u hu
          case c3 =>
            intro u hu
            obtain ⟨x, _, rfl⟩ := List.mem_map.1 hu
            rfl
          case c4 => simp only [maxLen]; have := hl n; omega
          case c5 => have := hl n; omega
          intro g8 cap8 w8 ho8 hg8 hat8 hlt8
          have hO8 : Aside0 (w8.ownsRow (w.heap.size + 1) 3 1 (.slice (some ⟨g8, 0, none⟩) (t ++ fs n).length cap8) (t ++ fs n).length (nums .i64 (t ++ fs n))) := ⟨by
            rw [nums_append, List.length_append]
            exact ho8⟩
          have hC8 := Aside0.mk (hC7.out.step (hg8.block w.heap.size (by have := hC7.out.1; exact (Array.getElem?_eq_some_iff.1 this.1).1) (fun e => by injection e with e; exact hgR e.symm)))
          have hB8 := Aside0.mk (pw_below_grown hB7.out _ hB7.out.size hg8 (fun j hj => by have := own_base hO7.out j hj; omega))
          have HS8 := Aside0.mk hS.out.new
          clear ho8 hg8 hat8 hlt8 hO7 hC7 hAd7 hB7
          go_wp2_with fail
          go_roundg (gk - 1)
          case measure => omega
          case rel => exact ⟨t ++ fs n, _, cap8, _, _, bump cnt n, by rw [List.length_append], hbud, hO8, hC8, HS8, hB8, ⟨hG8⟩⟩
      · have hb1 : (((cnt n : Int) + 1) == 1) = false := by simp; omega
        go_wp2_with fail
        go_roundg (gk - 1)
        case measure => omega
        case rel =>
          refine ⟨t, _, cc, _, _, bump cnt n, rfl, ?_, hO7, hC7, ⟨hS.out.again (by omega)⟩, hB7, ⟨fun b => ?_⟩⟩
          · have := budget_bump_le fs cnt n (l.map (·.1))
            omega
          · have := hG.out b
            unfold bump
            split <;> omega
end Go.Proofs.Ytcchcifcfcpjiaa.J
