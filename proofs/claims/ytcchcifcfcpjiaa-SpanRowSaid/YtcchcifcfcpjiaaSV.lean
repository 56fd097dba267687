/- span.Pairs: the walk. -/
import Derived.Test.YtcchcifcfcpjiaaSS
import Derived.Test.YtcchcifcfcpjiaaST
import Derived.Test.YtcchcifcfcpjiaaSU
import Derived.Test.YtcchcifcfcpjiaaSW
import Derived.Test.YtcchcifcfcpjiaaSX
import Derived.Test.YtcchcifcfcpjiaaJE
import Derived.Test.YtcchcifcfcpjiaaJX
set_option linter.unusedVariables false
set_option linter.unusedSimpArgs false
namespace Go.Proofs.Ytcchcifcfcpjiaa.J
open Go.RowKit Go.Proofs.YtcchcifcfcpjiaaW.PrintWords Go.Proofs.YtcchcifcfcpjiaaW.PrintLast Go.Proofs.YtcchcifcfcpjiaaW.PrintMore Go.Proofs.Ytcchcifcfcpjiaa.PJ

theorem RG.off {w : World} {b r : Nat} {l : List (Int × Value × Nat)} {c : Nat} {seen : Array Nat} (hR : RG (.int .i64) w b r l c seen) {base e size n : Nat} {v : Value} {us : List Value} (ho : w.ownsRow base e size v n us) : v.ownBlock ≠ some r ∧ v.ownBlock ≠ some b := by
  obtain ⟨since, c0, h1, h2, h3⟩ := hR
  refine ⟨fun e => ?_, fun e => ?_⟩
  · obtain ⟨cells, hc⟩ := own_typed ho r e
    rw [h2] at hc
    cases hc
  · obtain ⟨cells, hc⟩ := own_typed ho b e
    rw [h1.1] at hc
    cases hc
theorem TupAt.iter {w w' : World} {ok : Nat → Prop} {v : Value} {xs : List Int} (h : TupAt w ok v xs) {b r : Nat} {l : List (Int × Value × Nat)} {c : Nat} {seen : Array Nat} (hR : RG (.int .i64) w b r l c seen) (hg : w.grownBy w' (some r)) : TupAt w' ok v xs := by
  obtain ⟨since, c0, h1, h2, h3⟩ := hR
  rcases h with h | ⟨g', off, cap, cur, rfl, k1, k2, k3⟩
  · exact .inl h
  · refine .inr ⟨g', off, cap, cur, rfl, k1, (hg.block g' (Array.getElem?_eq_some_iff.1 k2).1 ?_).trans k2, k3⟩
    intro e
    injection e with e
    rw [e, h2] at k2
    cases k2
set_option maxRecDepth 100000 in
set_option maxHeartbeats 4000000 in
theorem pairs_calls (w : World) {lab : ByteArray} {A : Option Addr} {c : Nat} {es : List S82} (hn : nameB lab = true) (hC : Kd.C k82 w A es.length es) (hl : es.length ≤ 1000) (hwf : ∀ e ∈ es, (Lit.int .i64 e.f0).wf = true)
    (hfull : ∀ xs : List (List Int), xs.Nodup → (∀ t ∈ xs, ∃ a b, t = [a, b] ∧ Reach (nextF lab es) a b) → xs.length ≤ 4000) :
    Calls Try.prog 39 #[.string lab, .slice A es.length c] w fun e w' => ∃ v, ∃ ps : List (List Int), e = .returned (.tuple #[v, .int .i64 0]) ∧ TupsAt w' (w.heap.size ≤ ·) v ps ∧ ps.Pairwise (fun a b => cmpL a b < 0) ∧ (∀ t, t ∈ ps ↔ ∃ a b, t = [a, b] ∧ Reach (nextF lab es) a b) ∧ Below w.heap.size w w' := by
  have HC := Aside0.mk hC
  clear hC
  go_enter Try.func39, Try.ntmps39
  go_wp2_with fail
  refine (spanBad_calls lab w hn).mono ?_
  rintro e w1 ⟨rfl, hB1⟩
  have HB1 := Aside0.mk hB1
  clear hB1
  go_wp2_with fail
  refine (next_calls w1 (Kd.C_below HC.out HB1.out) hl).mono ?_
  rintro e w2 ⟨l, cM, rfl, hA2, hB2⟩
  have HA2 := Aside0.mk hA2
  have HB2 := Aside0.mk (HB1.out.trans (hB2.mono HB1.out.size))
  have hkeys : ∀ a ∈ l.map (·.1), a ∈ es.map (·.f0) := fun a ha => nextF_key ((hA2.2.2.2.1 a).1 ((getA_mem a l).2 ha))
  have hll : l.length ≤ 1000 := by
    have := nodup_len hA2.2.2.1 hkeys
    rw [List.length_map, List.length_map] at this
    omega
  have hkwf : ∀ e ∈ l, (Lit.int .i64 e.1).wf = true := fun e he => by
    obtain ⟨x, hx, h1⟩ := List.mem_map.1 (hkeys e.1 (List.mem_map_of_mem he))
    rw [← h1]
    exact hwf x hx
  clear hA2 hB2
  go_wp2_with fail
  refine (keysA_calls (some w1.heap.size) w2).mono ?_
  rintro e w3 ⟨rfl, rfl⟩
  go_wp2_with fail
  refine (sortedKeysA_calls w2 HA2.out.1 HA2.out.2.2.1 hkwf (by omega)).mono ?_
  rintro e w4 ⟨v4, rfl, ho4, hB4⟩
  have HO4 := Aside0.mk ho4
  have HA4 := Aside0.mk (HA2.out.below hB4)
  have HB4 := Aside0.mk (HB2.out.trans (hB4.mono HB2.out.size))
  clear ho4 hB4 HA2 HB2
  have hks : ∀ a, a ∈ sortI (l.map (·.1)) ↔ a ∈ l.map (·.1) := fun a => List.mem_mergeSort
  obtain ⟨A4, c4, rfl⟩ : ∃ A c, v4 = .slice A (sortI (l.map (·.1))).length c := own_slice HO4.out
  have hksn : (sortI (l.map (·.1))).Nodup := (List.mergeSort_perm _ _).nodup_iff.2 HA4.out.2.2.1
  have hB4s : w.heap.size ≤ w4.heap.size := HB4.out.size
  have hksl : (sortI (l.map (·.1))).length ≤ 1000 := by unfold sortI; rw [List.length_mergeSort, List.length_map]; exact hll
  generalize hKS : sortI (l.map (·.1)) = ks at *
  go_wp2_with fail
  go_loopg [7, 20] ks.length (fun gk s7 s20 wr => ∃ (i : Nat) (xss : List (List Int)) (us : List Value) (Ao : Option Addr) (co : Nat), i ≤ ks.length ∧ ks.length - i ≤ gk ∧ s20 = .int .i64 i ∧ s7 = .slice Ao us.length co ∧
    Aside0 (wr.ownsRow w4.heap.size 75 1 (.slice Ao us.length co) us.length us) ∧ Aside0 (TupsU wr (w4.heap.size ≤ ·) us xss) ∧ Aside0 (PairsInv (nextF lab es) (ks.take i) xss) ∧ Aside0 (Below w4.heap.size w4 wr))
  case atStart => exact ⟨0, [], [], none, 0, Nat.zero_le _, by omega, rfl, rfl, ⟨World.ownsRow_nil _ _ _ _⟩, ⟨TupsU.nil _ _⟩, ⟨PairsInv.start _⟩, ⟨Below.refl _ _⟩⟩
  case round =>
    obtain ⟨i, xss, us, Ao, co, hi, hgk, rfl, rfl, hO, hU, hP, hB⟩ := hrel
    by_cases hlt : i < ks.length
    · have hBw := Aside0.mk (HB4.out.trans (hB.out.mono hB4s))
      have hA5 : Aside0 (Adj w1.heap.size wr w1.heap.size l cM (nextF lab es)) := ⟨HA4.out.below hB.out⟩
      have hcell : ∃ g, A4 = some ⟨g, 0, none⟩ ∧ wr.cell? ⟨g, i, none⟩ = some (.int .i64 ks[i]) := by
        rcases HO4.out.2 with ⟨h0, h1⟩ | ⟨g, cap, cur, hv, _, _⟩
        · omega
        · have hO4' := HO4.out
          injection hv with hv1 _ hv2
          subst hv1
          refine ⟨g, rfl, ?_⟩
          rw [hB.out.cell (World.block_lt_of_cell? _ ⟨g, i, none⟩ (u := .int .i64 ks[i]) (by rw [hO4'.cellAt i (by omega)]; simp [nums, hlt])), hO4'.cellAt i (by omega)]
          simp [nums, hlt]
      obtain ⟨g4, rfl, hcell⟩ := hcell
      have i1 : (i : Int) < (ks.length : Int) := by omega
      have i0 : (0 : Int) ≤ (i : Int) := by omega
      go_wp2_with fail
      refine (reached_calls wr hA5.out (fun x => Nat.le_trans (nextF_le lab es x) hl) hll ks[i]).mono ?_
      rintro e w5 ⟨R, l2, c2, cnt, rfl, hR, hcnt, hreach, hcb, hB5⟩
      obtain ⟨w6, hrange, hRG, hB6, hsz6⟩ := run_range_my (P := Try.prog) Try.underlying143 hcnt.1
      have hO6 := Aside0.mk (pw_own_below (pw_own_below hO.out hB5) hB6)
      have hU6 := Aside0.mk ((hU.out.imp (fun v x h => TupAt.step h (fun k hk hlt => hB5.block k hlt))).imp (fun v x h => TupAt.step (w' := w6) h (fun k hk hlt => hB6.block k hlt)))
      have hB6w := Aside0.mk ((hB.out.trans (hB5.mono hB.out.size)).trans (hB6.mono (Nat.le_trans hB.out.size hB5.size)))
      have hRG6 := Aside0.mk hRG
      have hkeys2 : ∀ b, b ∈ l2.map (·.1) ↔ Reach (nextF lab es) ks[i] b := fun b => by
        rw [← hreach, ← getA_mem, hcnt.2.2 b]
        split
        · rename_i h0; simp [h0]
        · rename_i h0; simp; omega
      have hnk2 := hcnt.2.1
      have hHP := Aside0.mk (HalfPairs.start hP.out ks[i] l2)
      have hRlt : R ≠ w5.heap.size := fun e => hRG.ne e.symm
      have hr5 : w4.heap.size ≤ w5.heap.size := Nat.le_trans hB.out.size hB5.size
      have hR4 : w4.heap.size ≤ R := Nat.le_trans hB.out.size hR
      have hni : ks[i] ∉ ks.take i := by
        intro hmem
        obtain ⟨j, hj, h1⟩ := List.mem_iff_getElem.1 hmem
        rw [List.getElem_take] at h1
        have hj2 : j < i := by rw [List.length_take] at hj; omega
        have := (List.getElem_inj (h₀ := by omega) (h₁ := hlt) hksn).1 h1
        omega
      clear hO hU hP hB hcell hcnt hB5 hRG hB6 hcb hreach hsz6
      go_wp2_with fail
      clear hrange
      generalize w5.heap.size = r5 at *
      go_loopg [7] l2.length (fun gk2 s7 wi => ∃ (xs2 : List (List Int)) (us2 : List Value) (Ai : Option Addr) (ci : Nat) (seen : Array Nat), s7 = .slice Ai us2.length ci ∧ leftN l2 seen ≤ gk2 ∧
        Aside0 (wi.ownsRow w4.heap.size 75 1 (.slice Ai us2.length ci) us2.length us2) ∧ Aside0 (TupsU wi (w4.heap.size ≤ ·) us2 xs2) ∧ Aside0 (HalfPairs (nextF lab es) (ks.take i) ks[i] l2 seen xs2) ∧ Aside0 (RG (.int .i64) wi R r5 l2 c2 seen) ∧ Aside0 (Below w4.heap.size w4 wi))
      case atStart => exact ⟨xss, us, Ao, co, #[], rfl, List.length_filter_le _ _, hO6, hU6, hHP, hRG6, hB6w⟩
      case round =>
        obtain ⟨xs2, us2, Ai, ci, seen, rfl, hgk2, hO7, hU7, hH7, hR7, hB7⟩ := hrel
        rcases hR7.out.next (P := Try.prog) 0 with ⟨h0, hrun⟩ | ⟨x, hx, hsn, w7, hrun, hR8, hg8, hsz8, hent⟩
        · have hP9 := hH7.out.done h0 hni hkeys2
          have htk : ks.take i ++ [ks[i]] = ks.take (i + 1) := by rw [List.take_add_one, List.getElem?_eq_getElem hlt]; rfl
          rw [htk] at hP9
          have HP9 := Aside0.mk hP9
          clear hP9 htk h0
          go_wp2_with fail
          go_roundg (ks.length - (i + 1))
          case measure => omega
          case rel =>
            refine ⟨i + 1, xs2, us2, Ai, ci, by omega, Nat.le_refl _, ?_, rfl, hO7, hU7, HP9, hB7⟩
            first | exact congrArg (Value.int .i64) (wrap_succ i ks.length hlt (by omega)) | exact congrArg (Value.int .i64) (by omega)
        · have hlp := leftN_push hx hsn
          have HH8 := Aside0.mk (hH7.out.step hnk2 hx hsn hR7.out.map.2.2)
          obtain ⟨b, bv, st⟩ := x
          simp only at hrun hent hlp HH8 hR8
          have hO8 := Aside0.mk (own_move hO7.out (w1 := w7) (fun k hk => hg8.block k (own_block_lt hO7.out hk) (fun e => (hR7.out.off hO7.out).1 (by rw [hk, e]))))
          have hU8 := Aside0.mk (hU7.out.imp (fun v x h => TupAt.iter (w' := w7) h hR7.out hg8))
          have hr5' : w4.heap.size ≤ r5 := hr5
          have hB8 := Aside0.mk (pw_below_grown hB7.out _ hB7.out.size hg8 (fun j hj => by injection hj with hj; omega))
          have HR8 := Aside0.mk hR8
          have HRun := Aside0.mk hrun
          clear hO7 hU7 hB7 hR7 hR8 hg8 hsz8 hH7
          have hx8 := HH8.out.sound hni hkeys2
          have hl8 : us2.length + 1 ≤ 4000 := by
            have h1 := hfull _ hx8.1 hx8.2
            rw [List.length_append, List.length_singleton, ← hU8.out.1] at h1
            exact h1
          have hng : ¬ ((us2.length : Int) + 1) > 4000 := by omega
          have hB9 : Below w7.heap.size w7 (w7.alloc (.cells #[.int .i64 ks[i], .int .i64 b] 3)) := below_alloc (Below.refl _ _) _
          have hO9 := Aside0.mk (pw_own_below hO8.out hB9)
          have hU9 := Aside0.mk (hU8.out.imp (fun v x h => TupAt.step (w' := w7.alloc (.cells #[.int .i64 ks[i], .int .i64 b] 3)) h (fun k hk hlt => hB9.block k hlt)))
          have hB9w := Aside0.mk (hB8.out.trans (hB9.mono hB8.out.size))
          have hR9 := Aside0.mk (HR8.out.step (hB9.block _ HR8.out.lt.1) (hB9.block _ HR8.out.lt.2))
          have hT9 : Aside0 (TupAt (w7.alloc (.cells #[.int .i64 ks[i], .int .i64 b] 3)) (w4.heap.size ≤ ·) (.slice (some ⟨w7.heap.size, 0, none⟩) 2 2) [ks[i], b]) := ⟨.inr ⟨w7.heap.size, 0, 2, _, rfl, hB8.out.size, heap_alloc_new _ _, by simp, by decide, by simp, fun j x hx => by
            match j, hx with
            | 0, hx => simp at hx; subst hx; exact ⟨_, by simp, rfl⟩
            | 1, hx => simp at hx; subst hx; exact ⟨_, by simp, rfl⟩⟩⟩
          have hs9 : w4.heap.size ≤ (w7.alloc (.cells #[.int .i64 ks[i], .int .i64 b] 3)).heap.size := hB9w.out.size
          clear hO8 hU8 hB8 hB9 HR8
          go_wp2_with (at_builtin; refine print_append (w0 := w4) w4.heap.size rfl (.tmp 32) (.tmp 36) 63 75 (.slice none 0 0) 24 rfl Try.underlying63 info75 rfl (by decide) (.slice Ai us2.length ci) us2 (.slice (some ⟨w7.heap.size, 0, none⟩) 2 2) rfl (by show Value.slice (some ⟨w7.heap.size + 1, 0, none⟩) 1 1 = _; simp) ?c1 ?c2 ?c3 ?c4 ?c5 ?_)
          case c1 => rfl
          case c2 => exact hO9.out
          case c3 => exact hB9w.out
          case c4 => have := hs9; simpa using this
          case c5 => omega
          intro v1 w9 ho9 hb9 hg9 _
          have hl9 : (us2 ++ [Value.slice (some ⟨w7.heap.size, 0, none⟩) 2 2]).length = us2.length + 1 := by simp
          obtain ⟨A9, c9, rfl⟩ := own_slice ho9
          have hU10 := Aside0.mk (TupsU.snoc (hU9.out.imp (fun v x h => TupAt.grown75 h hO9.out hg9)) (TupAt.grown75 hT9.out hO9.out hg9))
          have hR10 := Aside0.mk (hR9.out.step (hg9.block R hR9.out.lt.1 (fun e => (hR9.out.off hO9.out).2 e.symm)) (hg9.block r5 hR9.out.lt.2 (fun e => (hR9.out.off hO9.out).1 e.symm)))
          have HO10 := Aside0.mk ho9
          have HB10 := Aside0.mk hb9
          have hng2 : ¬ (((us2.length + 1 : Nat) : Int) > 4000) := by omega
          clear ho9 hb9 hg9 hO9 hU9 hR9 hT9 hB9w hs9
          go_wp2_with fail
          go_roundg (leftN l2 (seen.push st))
          case measure => omega
          case rel =>
            refine ⟨xs2 ++ [[ks[i], b]], us2 ++ [.slice (some ⟨w7.heap.size, 0, none⟩) 2 2], A9, c9, seen.push st, by rw [hl9], Nat.le_refl _, ?_, hU10, HH8, hR10, HB10⟩
            have h := HO10.out
            rw [hl9]
            exact ⟨h⟩
    · have hii : i = ks.length := by omega
      subst hii
      have hTA := Aside0.mk (hU.out.ofOwn hO.out (fun k hk => own_base hO.out k hk))
      rw [List.take_length] at hP
      have hxl : xss.length ≤ 4000 := hfull xss hP.out.nod (fun t ht => by
        obtain ⟨a, _, b, h1, h2⟩ := hP.out.sound t ht
        exact ⟨a, b, h1, h2⟩)
      go_wp2_with fail
      refine (set_calls wr hTA.out (by omega) (fun t ht => by
        obtain ⟨a, _, b, h1, h2⟩ := hP.out.sound t ht
        rw [h1]; simp)).mono ?_
      rintro e w5 ⟨⟨v5, ys, rfl, hset, hT5⟩, hB5⟩
      have HT5 := Aside0.mk hT5
      have hBw := Aside0.mk (HB4.out.trans (hB.out.mono hB4s))
      clear hT5
      go_wp2_with fail
      go_ret2
      refine ⟨v5, ys, rfl, ?_, hset.up, fun t => ?_, ?_⟩
      · exact TupsAt.okmono HT5.out (fun k hk _ => Nat.le_trans hBw.out.size hk)
      · rw [hset.mem]
        constructor
        · intro ht
          obtain ⟨a, _, b, h1, h2⟩ := hP.out.sound t ht
          exact ⟨a, b, h1, h2⟩
        · rintro ⟨a, b, rfl, h2⟩
          exact hP.out.full a ((hks a).2 ((getA_mem a l).1 ((HA4.out.2.2.2.1 a).2 (reach_ne h2)))) b h2
      · exact hBw.out.trans (hB5.mono (Nat.le_trans hB4s hB.out.size))
end Go.Proofs.Ytcchcifcfcpjiaa.J
