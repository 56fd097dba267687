/- rhizomelaw13.SpanRow: the walk. -/
import Derived.Test.YtcchcifcfcpjiaaTB
set_option linter.unusedVariables false
set_option linter.unusedSimpArgs false
namespace Go.Proofs.Ytcchcifcfcpjiaa.J
open Go.RowKit Go.Proofs.YtcchcifcfcpjiaaW.PrintWords Go.Proofs.YtcchcifcfcpjiaaW.PrintLast Go.Proofs.YtcchcifcfcpjiaaW.PrintMore Go.Proofs.Ytcchcifcfcpjiaa.PJ

theorem u64w (n : Int) : IntKind.u64.wrap n = n % 18446744073709551616 := by simp [IntKind.wrap, IntKind.bits, IntKind.signed]
theorem u64_small {m : Nat} (h : m < 1000) : IntKind.u64.wrap (m : Int) = m := by
  rw [u64w]
  omega
theorem u64_mod (n : Int) {m : Nat} (h0 : 0 < m) (h : m < 1000) : ∃ q : Nat, wrap64 ((IntKind.u64.wrap n).tmod m) = (q : Int) ∧ q < m := by
  rw [u64w, Int.tmod_eq_emod_of_nonneg (by omega)]
  have h1 := Int.emod_nonneg (n % 18446744073709551616) (b := (m : Int)) (by omega)
  have h2 := Int.emod_lt_of_pos (n % 18446744073709551616) (b := (m : Int)) (by omega)
  refine ⟨((n % 18446744073709551616) % m).toNat, ?_, by omega⟩
  unfold wrap64
  omega
theorem row_n (n : Int) : ∃ m : Nat, wrap64 (wrap64 ((IntKind.u64.wrap n).tmod 30) + 2) = (m : Int) + 1 ∧ 1 ≤ m ∧ m ≤ 30 := by
  obtain ⟨q, h1, h2⟩ := u64_mod n (m := 30) (by omega) (by omega)
  rw [show ((30 : Nat) : Int) = 30 from rfl] at h1
  rw [h1]
  refine ⟨q + 1, ?_, by omega, by omega⟩
  unfold wrap64
  omega

def lbR : ByteArray := ⟨#[114, 111, 119]⟩
def edR (m s : Nat) : S82 := ⟨7 * ((m : Int) - 1 - s), lbR, 7 * ((m : Int) - s)⟩
def rowE (m t : Nat) : List S82 := (List.range t).map (edR m)
theorem rowE_succ (m t : Nat) : rowE m (t + 1) = rowE m t ++ [edR m t] := by
  unfold rowE
  rw [List.range_succ, List.map_append]
  rfl
theorem rowE_len (m t : Nat) : (rowE m t).length = t := by simp [rowE]
theorem outsR (m : Nat) (a : Int) : ∀ t : Nat, t ≤ m → outs lbR (rowE m t) a = if a % 7 = 0 ∧ 7 * ((m : Int) - t) ≤ a ∧ a < 7 * m then [a + 7] else []
  | 0, _ => by
    rw [if_neg (by omega)]
    rfl
  | t + 1, h => by
    rw [rowE_succ]
    have h1 := outsR m a t (by omega)
    unfold outs at h1 ⊢
    rw [List.filter_append, List.map_append, h1]
    by_cases ha : 7 * ((m : Int) - 1 - t) = a
    · rw [if_neg (by omega), if_pos (by omega)]
      have : 7 * ((m : Int) - t) = a + 7 := by omega
      simp [edR, ha, this]
    · by_cases hc : a % 7 = 0 ∧ 7 * ((m : Int) - t) ≤ a ∧ a < 7 * m
      · rw [if_pos hc, if_pos (by omega)]
        simp [edR, ha]
      · rw [if_neg hc, if_neg (by omega)]
        simp [edR, ha]
theorem nextR (m : Nat) : nextF lbR (rowE m m) = fsR m := by
  funext a
  unfold nextF fsR
  rw [outsR m a m (Nat.le_refl _)]
  by_cases h : 0 ≤ a ∧ a % 7 = 0 ∧ a < 7 * m
  · rw [if_pos (by omega), if_pos h, norm_one]
  · rw [if_neg (by omega), if_neg h, norm_nil]
theorem rowE_wf {m t : Nat} (hm : m ≤ 30) (ht : t ≤ m) : ∀ e ∈ rowE m t, (Lit.int .i64 e.f0).wf = true ∧ (Lit.int .i64 e.f2).wf = true := fun e he => by
  obtain ⟨s, hs, rfl⟩ := List.mem_map.1 he
  rw [List.mem_range] at hs
  unfold edR
  refine ⟨?_, ?_⟩
  · have := wrap64_wf (7 * ((m : Int) - 1 - s))
    rwa [show wrap64 (7 * ((m : Int) - 1 - s)) = 7 * ((m : Int) - 1 - s) from by unfold wrap64; omega] at this
  · have := wrap64_wf (7 * ((m : Int) - s))
    rwa [show wrap64 (7 * ((m : Int) - s)) = 7 * ((m : Int) - s) from by unfold wrap64; omega] at this

set_option maxRecDepth 100000 in
theorem spanRow_walk (w : World) (n a b : Int) : Calls Try.prog 6 #[.int .i64 n, .int .i64 a, .int .i64 b] w fun e w' => e = .returned (.bool true) ∧ Below w.heap.size w w' := by
  go_enter Try.func6, Try.ntmps6
  go_wp2_with fail
  refine (awake13_walk w).mono ?_
  rintro e w1 ⟨rfl, hB1⟩
  have HB1 := Aside0.mk hB1
  clear hB1
  go_upto_region 4 with fail
  obtain ⟨m, hm, hm1, hm2⟩ := row_n n
  rw [hm]
  have hu : IntKind.u64.wrap ((m : Int) + 1) = (m : Int) + 1 := u64_small (m := m + 1) (by omega)
  have hz : ¬ ((m : Int) + 1 = 0) := by omega
  have hz2 : ((m : Int) + 1 == 0) = false := by simp; omega
  obtain ⟨p, hp, hp1⟩ := u64_mod a (m := m + 1) (by omega) (by omega)
  obtain ⟨q, hq, hq1⟩ := u64_mod b (m := m + 1) (by omega) (by omega)
  rw [show (((m + 1 : Nat)) : Int) = (m : Int) + 1 from rfl] at hp hq
  go_quiet (fail)
  rw [hp, hq]
  clear hz hz2 hu hm
  go_upto_region 7 with fail
  go_loopg [7, 8] m (fun gk s7 s8 wr => ∃ (t : Nat) (A : Option Addr) (c : Nat), t ≤ m ∧ m - t ≤ gk ∧ s8 = .int .i64 ((m : Int) - 1 - t) ∧ s7 = .slice A t c ∧
    Aside0 (Kd.R k82 82 wr w1.heap.size (fun _ => True) (.slice A t c) (rowE m t)) ∧ Aside0 (Below w1.heap.size w1 wr))
  case atStart =>
    refine ⟨0, none, 0, Nat.zero_le _, by omega, ?_, rfl, ⟨Kd.R_nil _ _ _ _ _⟩, ⟨pw_below_drewN (Below.refl _ _) _⟩⟩
    exact congrArg (Value.int .i64) (by omega)
  case round =>
    obtain ⟨t, A, c, ht, hgk, rfl, rfl, hR, hB⟩ := hrel
    by_cases hlt : t < m
    · have g1 : (m : Int) - 1 - t ≥ 0 := by omega
      have hpe : (⟨7 * ((m : Int) - 1 - t), ⟨#[114, 111, 119]⟩, 7 * ((m : Int) - 1 - t + 1)⟩ : S82) = edR m t := by
        unfold edR lbR
        congr 1
        omega
      have HPE := Aside0.mk hpe
      clear hpe
      go_wp2_with (at_builtin; refine Kd.R_append k82 (w0 := w1) w1.heap.size rfl (.tmp 41) (.tmp 48) 60 82 (.agg #[(.int .i64 0), (.string ⟨#[]⟩), (.int .i64 0)]) 32 rfl Try.underlying60 info82 rfl (by decide) (by omega) (.slice A t c) (rowE m t) (⟨7 * ((m : Int) - 1 - t), ⟨#[114, 111, 119]⟩, 7 * ((m : Int) - 1 - t + 1)⟩ : S82) [.int .i64 (7 * ((m : Int) - 1 - t)), .string ⟨#[114, 111, 119]⟩, .int .i64 (7 * ((m : Int) - 1 - t + 1))] (fun _ => True) (fun _ => False) rfl rfl ?aP (fun _ hk => hk.elim) ?aF ?aO ?aB ?aS ?aL ?_)
      case aP => exact k82_mkM _ _ _ (⟨7 * ((m : Int) - 1 - t), ⟨#[114, 111, 119]⟩, 7 * ((m : Int) - 1 - t + 1)⟩ : S82)
      case aF => exact fun _ _ => trivial
      case aO => exact hR.out
      case aB => exact hB.out
      case aS => exact hB.out.size
      case aL => rw [rowE_len]; omega
      intro v2 w2 ho hb hg hat
      rw [HPE.out, ← rowE_succ] at ho
      obtain ⟨A2, c2, rfl⟩ := Kd.R_slice ho
      rw [rowE_len] at ho ⊢
      have HO2 := Aside0.mk ho
      have HB2 := Aside0.mk hb
      clear ho hb hg hat hR hB
      go_wp2_with fail
      go_roundg (m - (t + 1))
      case measure => omega
      case rel =>
        refine ⟨t + 1, A2, c2, by omega, Nat.le_refl _, ?_, rfl, HO2, HB2⟩
        exact congrArg (Value.int .i64) (by omega)
    · obtain rfl : t = m := by omega
      have g1 : ¬ ((t : Int) - 1 - t ≥ 0) := by omega
      have hcr := Kd.R_reads' hR.out
      rw [rowE_len] at hcr
      have HC := Aside0.mk hcr.2.2
      clear hcr hR
      go_wp2_with fail
      have hwf := rowE_wf hm2 (Nat.le_refl t)
      have hes : (rowE t t).length ≤ 1000 := by rw [rowE_len]; omega
      have h39 := pairs_calls wr (lab := lbR) (es := rowE t t) (c := c) (by decide +kernel) (by rw [rowE_len]; exact HC.out) hes (fun e he => (hwf e he).1) (fun xs hx ht => by rw [nextR] at ht; exact row_le hm2 hx ht)
      rw [rowE_len, nextR] at h39
      refine h39.mono ?_
      clear h39
      rintro e w2 ⟨v2, ps, rfl, ht2, hup2, hmem2, hB2⟩
      have hl2 := row_count (lens_nodup hup2) hmem2
      obtain ⟨A2, c2, rfl, _⟩ := SlAt.shape ht2
      generalize ps.length = np at hl2
      have HB2 := Aside0.mk (hB.out.trans (hB2.mono hB.out.size))
      have HC2 := Aside0.mk (Kd.C_below HC.out hB2)
      clear ht2 hup2 hmem2 hB2
      go_wp2_with fail
      have h40 := rings_calls w2 (lab := lbR) (es := rowE t t) (c := c) (by decide +kernel) (by rw [rowE_len]; exact HC2.out) hes (fun e he => (hwf e he).1) (fun e he => (hwf e he).2)
      rw [rowE_len, nextR] at h40
      refine h40.mono ?_
      clear h40
      rintro e w3 ⟨v3, rs, rfl, ht3, hof, hB3⟩
      obtain rfl := row_rings hof
      obtain ⟨A3, c3, rfl, _⟩ := SlAt.shape ht3
      rw [List.length_nil]
      have HB3 := Aside0.mk (HB2.out.trans (hB3.mono HB2.out.size))
      have HC3 := Aside0.mk (Kd.C_below HC2.out hB3)
      clear ht3 hof hB3
      have hnp : np ≤ 1000 := by
        have : t * (t + 1) ≤ 30 * 31 := Nat.mul_le_mul hm2 (by omega)
        omega
      have hsp : (np : Int) = wrap64 ((wrap64 (((t : Int) + 1) * (t : Int))).tdiv 2) := by
        have h1 : ((2 * np : Nat) : Int) = ((t * (t + 1) : Nat) : Int) := by rw [hl2]
        have h2 : ((2 * np : Nat) : Int) = 2 * (np : Int) := by simp
        have h3 : ((t * (t + 1) : Nat) : Int) = (t : Int) * ((t : Int) + 1) := by simp
        have h4 : ((t : Int) + 1) * (t : Int) = 2 * (np : Int) := by rw [Int.mul_comm, ← h3, ← h1, h2]
        have hdiv : (2 * (np : Int)).tdiv 2 = np := by rw [Int.mul_comm]; exact Int.mul_tdiv_cancel _ (by omega)
        have h5 : wrap64 (2 * (np : Int)) = 2 * np := by unfold wrap64; omega
        rw [h4, h5, hdiv]
        unfold wrap64
        omega
      have HSP := Aside0.mk hsp
      clear hsp hl2
      go_wp2_with fail
      have h41 := way_calls w3 (lab := lbR) (es := rowE t t) (c := c) (a := 7 * (p : Int)) (b := 7 * (q : Int)) (by decide +kernel) (by rw [rowE_len]; exact HC3.out) hes
      rw [rowE_len, nextR] at h41
      refine h41.mono ?_
      clear h41
      rintro e w4 ⟨hB4, hw⟩
      have HB4 := Aside0.mk (HB3.out.trans (hB4.mono HB3.out.size))
      clear hB4
      rcases hw with ⟨v4, l, rfl, hwalk, _, ht4⟩ | ⟨rfl, hnr⟩
      · have hre := reachR.1 hwalk.reach
        have hrw := row_walk hwalk
        have hpq : (p : Int) < (q : Int) := by omega
        have hll : l.length + p + 1 = q := by omega
        obtain ⟨A4, c4, rfl, _⟩ := SlAt.shape ht4
        have HT4 := Aside0.mk ht4
        have HRW := Aside0.mk hrw.2
        clear ht4 hrw hre hwalk
        go_upto_region 13 with fail
        have hsp := HSP.out
        go_upto_region 15 with fail
        clear hsp
        have HX : Aside0 (∀ (i : Nat) (h : i < (7 * (p : Int) :: (l ++ [7 * (q : Int)])).length), (7 * (p : Int) :: (l ++ [7 * (q : Int)]))[i] = 7 * ((p : Int) + i)) := ⟨fun i h => by
          cases i with
          | zero => simp
          | succ i =>
            rw [List.getElem_cons_succ, List.getElem_append]
            split
            · rename_i hi
              have := HRW.out i _ (List.getElem?_eq_getElem hi)
              rw [this]
              omega
            · rename_i hi
              have hi2 : i = l.length := by
                simp at h
                omega
              subst hi2
              simp
              omega⟩
        have hlen : (7 * (p : Int) :: (l ++ [7 * (q : Int)])).length = l.length + 1 + 1 := by simp
        have HLN := Aside0.mk hlen
        clear hlen
        have hql : (q : Int) = (l.length : Int) + p + 1 := by omega
        go_upto_region 20 with fail
        go_loopg [116] (l.length + 1 + 1) (fun gk s116 wk => ∃ (i : Nat), i ≤ l.length + 1 + 1 ∧ l.length + 1 + 1 - i ≤ gk ∧ s116 = .int .i64 i ∧ wk = w4)
        case atStart => exact ⟨0, by omega, by omega, rfl, rfl⟩
        case round =>
          obtain ⟨i, hi, hgk2, rfl, rfl⟩ := hrel
          by_cases hil : i < l.length + 1 + 1
          · obtain ⟨g, o, u, rfl, hcell, _, hu, _⟩ := SlAt.at_ HT4.out i (by rw [HLN.out]; exact hil)
            rw [HX.out i (by rw [HLN.out]; exact hil)] at hu
            subst hu
            have i1 : (i : Int) < ((l.length + 1 + 1 : Nat) : Int) := by omega
            have i0 : (0 : Int) ≤ (i : Int) := by omega
            go_wp2_with fail
            go_roundg (l.length + 1 + 1 - (i + 1))
            case measure => omega
            case rel => exact ⟨i + 1, by omega, Nat.le_refl _, congrArg (Value.int .i64) (by omega), rfl⟩
          · obtain rfl : i = l.length + 1 + 1 := by omega
            go_wp2_with fail
            go_ret
            exact ⟨rfl, HB1.out.trans (HB4.out.mono HB1.out.size)⟩
      · have hpq : ¬ ((p : Int) < (q : Int)) := fun h => hnr (reachR.2 (by omega))
        go_upto_region 13 with fail
        have hsp := HSP.out
        go_wp2_with fail
        go_ret
        exact ⟨rfl, HB1.out.trans (HB4.out.mono HB1.out.size)⟩
end Go.Proofs.Ytcchcifcfcpjiaa.J
