/- slices.CompactFunc at tuples. -/
import Derived.Test.YtcchcifcfcpjiaaJC
import Derived.Lib.SlicesCompact
import Derived.Lib.SliceRun
import Derived.BigQuiet
set_option linter.unusedVariables false
set_option linter.unusedSimpArgs false
namespace Go.Proofs.Ytcchcifcfcpjiaa.J
open Go.RowKit Go.Proofs.YtcchcifcfcpjiaaW.PrintWords Go.Proofs.YtcchcifcfcpjiaaW.PrintLast Go.Proofs.YtcchcifcfcpjiaaW.PrintMore Go.Proofs.Ytcchcifcfcpjiaa.PJ
open Go.Sort (putRow grow putCells mapBlock onCells Holds putRow_set putRow_self getElem!_set_same getElem!_set_other)

section
variable {α : Type} [Inhabited α] (key : α → List Int)
/-- Place j stays: it is the first, or reads otherwise than the place ahead of it. -/
def stays (d : Array α) (j : Nat) : Bool := decide (j = 0 ∨ key d[j]! ≠ key d[j - 1]!)
/-- What stays of the first m places. -/
def kept (d : Array α) (m : Nat) : List α := ((List.range m).filter (stays key d)).map (d[·]!)
variable {key}
theorem kept_succ (d : Array α) (m : Nat) : kept key d (m + 1) = kept key d m ++ (if stays key d m then [d[m]!] else []) := by
  unfold kept
  rw [List.range_succ, List.filter_append, List.map_append]
  cases h : stays key d m <;> simp [h]
theorem kept_all (d : Array α) (m : Nat) (h : ∀ j, j < m → stays key d j = true) : kept key d m = (List.range m).map (d[·]!) := by
  unfold kept
  rw [List.filter_eq_self.2 (fun j hj => h j (List.mem_range.1 hj))]
theorem kept_le (d : Array α) (m : Nat) : (kept key d m).length ≤ m := by
  unfold kept
  rw [List.length_map]
  exact Nat.le_trans (List.length_filter_le _ _) (by simp)
/-- m places have been looked at; k of them stay, and lie at the head; from k on all is as it was. -/
structure Sq (key : α → List Int) (d : Array α) (m k : Nat) (dk : Array α) : Prop where
  size : dk.size = d.size
  len : (kept key d m).length = k
  lt : k < m
  low : ∀ j, j < k → (kept key d m)[j]? = some dk[j]!
  high : ∀ j, k ≤ j → dk[j]! = d[j]!
theorem Sq.start {d : Array α} {k : Nat} (hall : ∀ j, j < k → stays key d j = true) (hd : stays key d k = false) : Sq key d (k + 1) k d := by
  have h : kept key d (k + 1) = (List.range k).map (d[·]!) := by rw [kept_succ, hd, kept_all d k hall]; simp
  exact ⟨rfl, by rw [h]; simp, Nat.lt_succ_self _, fun j hj => by rw [h]; simp [hj], fun _ _ => rfl⟩
theorem Sq.keep {d dk : Array α} {m k : Nat} (h : Sq key d m k dk) (hm : m < d.size) (hk : stays key d m = true) : Sq key d (m + 1) (k + 1) (dk.setIfInBounds k d[m]!) := by
  have e : kept key d (m + 1) = kept key d m ++ [d[m]!] := by rw [kept_succ, hk]; rfl
  have hl := h.len
  have hs := h.size
  have ht := h.lt
  refine ⟨by simp [hs], by rw [e]; simp [hl], by omega, fun j hj => ?_, fun j hj => by rw [getElem!_set_other dk k j _ (by omega)]; exact h.high j (by omega)⟩
  rw [e]
  rcases Nat.lt_or_eq_of_le (Nat.le_of_lt_succ hj) with h1 | h1
  · rw [List.getElem?_append_left (by omega), h.low j h1, getElem!_set_other dk k j _ (by omega)]
  · subst h1
    rw [List.getElem?_append_right (by omega), hl, Nat.sub_self, getElem!_set_same dk j _ (by omega)]
    rfl
theorem Sq.skip {d dk : Array α} {m k : Nat} (h : Sq key d m k dk) (hk : stays key d m = false) : Sq key d (m + 1) k dk := by
  have e : kept key d (m + 1) = kept key d m := by rw [kept_succ, hk]; simp
  exact ⟨h.size, by rw [e]; exact h.len, by have := h.lt; omega, fun j hj => by rw [e]; exact h.low j hj, h.high⟩
theorem Sq.done {d dk : Array α} {k : Nat} (h : Sq key d d.size k dk) (z : α) : Lib.lay dk k (List.replicate (d.size - k) z) = (kept key d d.size ++ List.replicate (d.size - k) z).toArray := by
  have hl := h.len
  have hs := h.size
  have ht := h.lt
  apply Array.ext_getElem?
  intro j
  rw [Lib.lay_get? _ _ _ _ (by simp; omega), show (kept key d d.size ++ List.replicate (d.size - k) z).toArray[j]? = (kept key d d.size ++ List.replicate (d.size - k) z)[j]? from List.getElem?_toArray]
  simp only [List.length_replicate]
  by_cases c : j < k
  · rw [if_neg (by omega), List.getElem?_append_left (by omega), h.low j c, getElem!_pos dk j (by omega), Array.getElem?_eq_getElem]
  · rw [List.getElem?_append_right (by omega), hl]
    by_cases c2 : j < d.size
    · rw [if_pos (by omega)]
    · rw [if_neg (by omega), Array.getElem?_eq_none (by omega), List.getElem?_eq_none (by simp; omega)]
theorem stays_pos {d : Array α} {m : Nat} (h : key d[m]! ≠ key d[m - 1]!) : stays key d m = true := decide_eq_true (.inr h)
theorem stays_neg {d : Array α} {m : Nat} (hm : 0 < m) (h : key d[m]! = key d[m - 1]!) : stays key d m = false := decide_eq_false (fun h2 => h2.elim (fun h3 => by omega) (fun h3 => h3 h))
theorem stays_one (d : Array α) : ∀ j, j < 1 → stays key d j = true := fun j hj => decide_eq_true (.inl (by omega))
end

section
variable {α : Type} [Inhabited α] {enc : α → Value} {w : World} {blk off m : Nat} {dk : Array α}
theorem pw_block {k : Nat} (hk : k < w.heap.size) (hne : k ≠ blk) : (putRow enc (Go.Sort.ahead w m) blk off dk).heap[k]? = w.heap[k]? := by
  have h := sw_block (enc := enc) (off := off) (m := m) (dk := dk) (os := #[]) hk hne
  simpa [sortWorld, Go.Sort.grow_empty] using h
theorem pw_cell {d : Array α} (hH : Holds enc w blk off d) (hs : dk.size = d.size) (j : Nat) (hj : j < dk.size) : (putRow enc (Go.Sort.ahead w m) blk off dk).cell? ⟨blk, off + j, none⟩ = some (enc dk[j]!) ∧ (putRow enc (Go.Sort.ahead w m) blk off dk).frozen? ⟨blk, off + j, none⟩ = false :=
  Go.Sort.holds_putRow enc _ blk off d dk (Go.Sort.holds_ahead enc w m blk off d hH) hs j hj
end

theorem kept_whole {α : Type} [Inhabited α] {key : α → List Int} (enc : α → Value) {w : World} {blk off : Nat} {d : Array α} (hH : Holds enc w blk off d) (q : Nat) (h : ∀ j, j < d.size → stays key d j = true) :
    (kept key d d.size).length = d.size ∧ w.drewN q = putRow enc (Go.Sort.ahead w q) blk off (kept key d d.size ++ List.replicate (d.size - (kept key d d.size).length) default).toArray := by
  have e : kept key d d.size = d.toList := by
    rw [kept_all d _ h]
    apply List.ext_getElem
    · simp
    · intro i h1 h2
      have hi : i < d.size := by simpa using h2
      simp [getElem!_pos, hi]
  rw [e]
  refine ⟨by simp, ?_⟩
  simp only [Array.length_toList, Nat.sub_self, List.replicate_zero, List.append_nil, Array.toArray_toList]
  exact (putRow_self enc (Go.Sort.ahead w q) blk off d (Go.Sort.holds_ahead enc w q blk off d hH)).symm

theorem zero75 : ∀ w, (zeroValue 75).run Try.prog w = .ok (.slice none 0 0) w := fun w => Try.zeroValue75 w

/-- Two neighbours held against each other. -/
theorem sameEl_calls {w : World} {ok : Nat → Prop} {g : Nat} {W : World} (x y : El w (fun k => ok k ∧ k ≠ g)) (hW : ∀ k, k < w.heap.size → k ≠ g → W.heap[k]? = w.heap[k]?) {A A2 : Option Addr} {n n2 c c2 : Nat} (hx : x.1.1 = .slice A n c) (hy : y.1.1 = .slice A2 n2 c2) :
    Calls Try.prog 101 #[.slice A n c, .slice A2 n2 c2] W fun e w' => e = .returned (.bool (decide (x.1.2 = y.1.2))) ∧ ∃ q, w' = W.drewN q := by
  have h := same_calls W (x.2.1.step (fun k hk hlt => hW k hlt hk.2)) (y.2.1.step (fun k hk hlt => hW k hlt hk.2)) (by have := x.2.2; omega)
  rw [hx, hy] at h
  exact h

set_option maxHeartbeats 4000000 in
set_option maxRecDepth 100000 in
theorem compact_core (w : World) {ok : Nat → Prop} (g off cap : Nat) (d : Array (El w (fun k => ok k ∧ k ≠ g))) (hH : Holds El.enc w g off d) (hsz : d.size ≤ 1000000) (hcap : d.size ≤ cap) :
    Calls Try.prog 100 #[.slice (some ⟨g, off, none⟩) d.size cap, .func (.func 101) #[] #[]] w fun e w' => e = .returned (.slice (some ⟨g, off, none⟩) (kept (fun x : El w (fun k => ok k ∧ k ≠ g) => x.1.2) d d.size).length cap) ∧
      ∃ q, w' = putRow El.enc (Go.Sort.ahead w q) g off (kept (fun x : El w (fun k => ok k ∧ k ≠ g) => x.1.2) d d.size ++ List.replicate (d.size - (kept (fun x : El w (fun k => ok k ∧ k ≠ g) => x.1.2) d d.size).length) default).toArray := by
  have HH : Aside0 (Holds El.enc w g off d) := ⟨hH⟩
  clear hH
  by_cases h2 : d.size < 2
  · go_enter Try.func100, Try.ntmps100
    go_wp2
    go_ret
    obtain ⟨e1, e2⟩ := kept_whole El.enc HH.out 0 (fun j hj => stays_one (key := fun x : El w (fun k => ok k ∧ k ≠ g) => x.1.2) d j (by omega))
    exact ⟨ret_eq (by rw [e1]; rfl), 0, e2⟩
  · go_enter Try.func100, Try.ntmps100
    go_wp2
    go_loopg [5] d.size (fun gk s5 wr => ∃ k q : Nat, 1 ≤ k ∧ k ≤ d.size ∧ d.size - k ≤ gk ∧ s5 = .int .i64 k ∧ wr = w.drewN q ∧ Aside0 (∀ j, j < k → stays (fun x : El w (fun k => ok k ∧ k ≠ g) => x.1.2) d j = true))
    case atStart => exact ⟨1, 0, Nat.le_refl _, by omega, by omega, rfl, rfl, ⟨stays_one d⟩⟩
    case round =>
      obtain ⟨k, q, hk1, hk, hg, rfl, hwr, hall⟩ := hrel
      have HW := Aside0.mk hwr
      obtain ⟨k, rfl⟩ : ∃ k', k = k' + 1 := ⟨k - 1, by omega⟩
      by_cases hlt : k + 1 < d.size
      · obtain ⟨c1, f1⟩ := HH.out (k + 1) hlt
        obtain ⟨c0, f0⟩ := HH.out k (by omega)
        generalize hx : d[k + 1]! = x at c1
        generalize hy : d[k]! = y at c0
        have B : Aside0 (d[k + 1]! = x ∧ d[k]! = y) := ⟨⟨hx, hy⟩⟩
        clear hx hy
        replace c1 : wr.cell? ⟨g, off + (k + 1), none⟩ = some (El.enc x) := by rw [hwr]; exact c1
        replace c0 : wr.cell? ⟨g, off + k, none⟩ = some (El.enc y) := by rw [hwr]; exact c0
        clear hwr f1 f0
        obtain ⟨A1, cc1, e1, _⟩ := SlAt.shape x.2.1
        obtain ⟨A2, cc2, e2, _⟩ := SlAt.shape y.2.1
        rw [show El.enc x = _ from e1] at c1
        rw [show El.enc y = _ from e2] at c0
        have E1 := Aside0.mk e1
        have E2 := Aside0.mk e2
        clear e1 e2
        have hs : ∀ n, Calls Try.prog 101 #[.slice A1 x.1.2.length cc1, .slice A2 y.1.2.length cc2] (wr.drewN n) fun e w' => e = .returned (.bool (decide (x.1.2 = y.1.2))) ∧ ∃ q', w' = (wr.drewN n).drewN q' := fun n => sameEl_calls (W := wr.drewN n) x y (fun k' _ _ => by show wr.heap[k']? = _; rw [HW.out]; rfl) E1.out E2.out
        have HS := Aside0.mk hs
        clear hs
        have i4 : (k : Int) < (d.size : Int) := by omega
        have i8 : IntKind.i64.wrap (k : Int) = (k : Int) := IntWalk.i64_in _ (by omega)
        have i5 : (k : Int) + 1 < (d.size : Int) := by omega
        have i6 : (0 : Int) ≤ (k : Int) + 1 := by omega
        have i7 : ((k : Int) + 1).toNat = k + 1 := by omega
        rcases Bool.eq_false_or_eq_true (decide (x.1.2 = y.1.2)) with hd1 | hd1
        · rw [hd1] at HS
          have HD := Aside0.mk (of_decide_eq_true hd1)
          clear hd1
          go_wp2_with fail
          go_quiet ((go_at_call 101; exact Calls.quiet_of (HS.out _)))
          go_wp2
          clear c0 c1 HS i4 i5 i6 i7 i8
          go_loopg [5, 7] d.size (fun gk s5 s7 wr2 => ∃ (kk t q2 : Nat) (dk : Array (El w (fun k => ok k ∧ k ≠ g))), s5 = .int .i64 kk ∧ s7 = .int .i64 ((t + 1 : Nat) : Int) ∧ k + 1 + (t + 1) ≤ d.size ∧ d.size - (k + 1 + (t + 1)) ≤ gk ∧ Aside0 (wr2 = putRow El.enc (Go.Sort.ahead w q2) g off dk) ∧ Aside0 (Sq (fun x : El w (fun k => ok k ∧ k ≠ g) => x.1.2) d (k + 1 + (t + 1)) kk dk))
          case atStart =>
            refine ⟨k + 1, 0, q + nq, d, by go_num, by go_num, by omega, by omega, ⟨?_⟩, ⟨Sq.start hall.out (stays_neg (by omega) ?_)⟩⟩
            · rw [HW.out, putRow_self El.enc (Go.Sort.ahead w (q + nq)) g off d (Go.Sort.holds_ahead El.enc w (q + nq) g off d HH.out)]
              rw [World.drewN_drewN]
              rfl
            · show d[k + 1]!.1.2 = d[k + 1 - 1]!.1.2
              rw [Nat.add_sub_cancel, B.out.1, B.out.2]
              exact HD.out
          case round =>
            obtain ⟨kk, t, q2, dk, rfl, rfl, hle, hg2, W2, I2⟩ := hrel
            have hkk := I2.out.lt
            have hds := I2.out.size
            have hcell := fun j hj => pw_cell (m := q2) (dk := dk) HH.out hds j hj
            rw [← W2.out] at hcell
            have HC := Aside0.mk hcell
            clear hcell
            by_cases hlt2 : k + 1 + (t + 1) < d.size
            · obtain ⟨cm, _⟩ := HC.out (k + 1 + (t + 1)) (by omega)
              obtain ⟨cp, _⟩ := HC.out (k + 1 + t) (by omega)
              obtain ⟨ck, fk⟩ := HC.out kk (by omega)
              rw [I2.out.high (k + 1 + (t + 1)) (by omega), show off + (k + 1 + (t + 1)) = off + (k + 1) + (t + 1) by omega] at cm
              rw [I2.out.high (k + 1 + t) (by omega), show off + (k + 1 + t) = off + (k + 1) + t by omega] at cp
              generalize hx2 : d[k + 1 + (t + 1)]! = x2 at cm
              generalize hy2 : d[k + 1 + t]! = y2 at cp
              generalize dk[kk]! = old at ck
              have C : Aside0 (d[k + 1 + (t + 1)]! = x2 ∧ d[k + 1 + t]! = y2) := ⟨⟨hx2, hy2⟩⟩
              clear hx2 hy2
              obtain ⟨A3, cc3, e3, _⟩ := SlAt.shape x2.2.1
              obtain ⟨A4, cc4, e4, _⟩ := SlAt.shape y2.2.1
              rw [show El.enc x2 = _ from e3] at cm
              rw [show El.enc y2 = _ from e4] at cp
              have E3 := Aside0.mk e3
              have E4 := Aside0.mk e4
              clear e3 e4
              have hs2 : ∀ n, Calls Try.prog 101 #[.slice A3 x2.1.2.length cc3, .slice A4 y2.1.2.length cc4] (wr.drewN n) fun e w' => e = .returned (.bool (decide (x2.1.2 = y2.1.2))) ∧ ∃ q', w' = (wr.drewN n).drewN q' := fun n => sameEl_calls (W := wr.drewN n) x2 y2 (fun k' h1 h2 => by show wr.heap[k']? = _; rw [W2.out]; exact pw_block h1 h2) E3.out E4.out
              have HS2 := Aside0.mk hs2
              clear hs2
              have j1 : (t : Int) + 1 < ((d.size - (k + 1) : Nat) : Int) := by omega
              have j2 : (t : Int) < ((d.size - (k + 1) : Nat) : Int) := by omega
              have j3 : (0 : Int) ≤ (t : Int) + 1 := by omega
              have j4 : ((t : Int) + 1).toNat = t + 1 := by omega
              have j5 : IntKind.i64.wrap (t : Int) = (t : Int) := IntWalk.i64_in _ (by omega)
              have hkd : kk < d.size := by omega
              rcases Bool.eq_false_or_eq_true (decide (x2.1.2 = y2.1.2)) with hd2 | hd2
              · rw [hd2] at HS2
                have HD2 := Aside0.mk (of_decide_eq_true hd2)
                clear hd2
                go_wp2_with fail
                go_quiet ((go_at_call 101; exact Calls.quiet_of (HS2.out _)))
                go_wp2
                go_roundg (d.size - (k + 1 + (t + 1 + 1)))
                case measure => omega
                case rel =>
                  refine ⟨kk, t + 1, q2 + nq, dk, rfl, by go_num, by omega, Nat.le_refl _, ⟨by rw [W2.out]; exact Go.Proofs.putRow_drewN El.enc w q2 nq g off dk⟩, ⟨I2.out.skip (stays_neg (by omega) ?_)⟩⟩
                  show d[k + 1 + (t + 1)]!.1.2 = d[k + 1 + (t + 1) - 1]!.1.2
                  rw [show k + 1 + (t + 1) - 1 = k + 1 + t by omega, C.out.1, C.out.2]
                  exact HD2.out
              · rw [hd2] at HS2
                have HD2 := Aside0.mk (of_decide_eq_false hd2)
                clear hd2
                go_wp2_with fail
                go_quiet ((go_at_call 101; exact Calls.quiet_of (HS2.out _)))
                go_wp2
                go_roundg (d.size - (k + 1 + (t + 1 + 1)))
                case measure => omega
                case rel =>
                  refine ⟨kk + 1, t + 1, q2 + nq, dk.setIfInBounds kk x2, by go_num, by go_num, by omega, Nat.le_refl _, ⟨?_⟩, ⟨?_⟩⟩
                  · rw [W2.out, ← show El.enc x2 = _ from E3.out, Go.Proofs.putRow_drewN El.enc w q2 nq g off dk, putRow_set El.enc _ g off dk kk x2 (by omega)]
                  · have h3 := I2.out.keep hlt2 (stays_pos (by
                      show d[k + 1 + (t + 1)]!.1.2 ≠ d[k + 1 + (t + 1) - 1]!.1.2
                      rw [show k + 1 + (t + 1) - 1 = k + 1 + t by omega, C.out.1, C.out.2]
                      exact HD2.out))
                    rw [C.out.1] at h3
                    exact h3
            · have hend : k + 1 + (t + 1) = d.size := by omega
              have HE := Aside0.mk hend
              clear hend
              have hcl : ∀ ty, (Builtin.clear_ #[63] ty #[.slice (some ⟨g, off + kk, none⟩) (d.size - kk) (cap - kk)]).run Try.prog wr = .ok (.tuple #[]) (wr.setCells g (off + kk) (List.replicate (d.size - kk) (.slice none 0 0))) :=
                fun ty => Lib.run_clear_slice wr _ _ ty _ Try.underlying63 zero75 rfl rfl g (off + kk) _ _ (by omega) (fun j hj => by rw [show off + kk + j = off + (kk + j) by omega, (HC.out (kk + j) (by omega)).1]; rfl) (fun j hj => by rw [show off + kk + j = off + (kk + j) by omega]; exact (HC.out (kk + j) (by omega)).2)
              have hkd : kk < d.size := by omega
              have hkc : kk < cap := by omega
              go_wp2
              go_ret
              have hI := I2.out
              rw [HE.out] at hI
              refine ⟨ret_eq (by rw [hI.len]; rfl), q2, ?_⟩
              rw [hI.len, ← hI.done default, ← Lib.putRow_setCells El.enc _ g off _ dk kk (by simp; omega), ← W2.out, List.map_replicate]
              rfl
        · rw [hd1] at HS
          have HD := Aside0.mk (of_decide_eq_false hd1)
          clear hd1
          go_wp2_with fail
          go_quiet ((go_at_call 101; exact Calls.quiet_of (HS.out _)))
          go_wp2
          go_roundg (d.size - (k + 1 + 1))
          case measure => omega
          case rel =>
            refine ⟨k + 1 + 1, q + nq, by omega, by omega, Nat.le_refl _, by go_num, by rw [HW.out, World.drewN_drewN], ⟨fun j hj => ?_⟩⟩
            by_cases e : j = k + 1
            · subst e
              refine stays_pos ?_
              show d[k + 1]!.1.2 ≠ d[k + 1 - 1]!.1.2
              rw [Nat.add_sub_cancel, B.out.1, B.out.2]
              exact HD.out
            · exact hall.out j (by omega)
      · have hend : k + 1 = d.size := by omega
        have HE := Aside0.mk hend
        clear hend
        have hA := hall
        clear hwr
        go_wp2
        go_ret
        have hall' : ∀ j, j < d.size → stays (fun x : El w (fun k => ok k ∧ k ≠ g) => x.1.2) d j = true := by rw [← HE.out]; exact hA.out
        obtain ⟨e1, e2⟩ := kept_whole El.enc HH.out q hall'
        exact ⟨ret_eq (by rw [e1]; rfl), q, by rw [HW.out]; exact e2⟩
end Go.Proofs.Ytcchcifcfcpjiaa.J
