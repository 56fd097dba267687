/- rhizomelaw11.awake (own work). -/
import Derived.Test.YtcchcifcfcpjiaaPKo
import Derived.Test.YtcchcifcfcpjiaaPJx4
set_option linter.unusedVariables false
set_option linter.unusedSimpArgs false
namespace Go.Proofs.Ytcchcifcfcpjiaa.PJ
open Go.RowKit Go.Proofs.YtcchcifcfcpjiaaW.PrintWords Go.Proofs.YtcchcifcfcpjiaaW.PrintLast Go.Proofs.YtcchcifcfcpjiaaW.PrintMore Go.Proofs.Ytcchcifcfcpjiaa.J

def sA : ByteArray := ⟨#[97]⟩
def sG : ByteArray := ⟨#[103]⟩
def sX : ByteArray := ⟨#[120]⟩
def sY : ByteArray := ⟨#[121]⟩
def esW : List S82 := [⟨1, sA, 2⟩, ⟨2, sA, 3⟩, ⟨1, sA, 3⟩]
def atsW : List S118 := [⟨sX, sA, sY⟩]
theorem w_vars : varsOf atsW = [sX, sY] := by decide +kernel
theorem w_check : checkB sG ⟨#[]⟩ [sX] atsW = true := by decide +kernel
theorem w_rows : allRows (varsOf atsW) esW atsW [[]] = some [[1, 2], [2, 3], [1, 3]] := by decide +kernel
theorem w_set : IsSet [[1, 2], [2, 3], [1, 3]] [[1, 2], [1, 3], [2, 3]] := ⟨by decide, fun x => by simp only [List.mem_cons, List.not_mem_nil, or_false]; grind⟩
theorem w_proj : ([[1, 2], [1, 3], [2, 3]] : List (List Int)).map (projR (varsOf atsW) [sX]) = [[1], [1], [2]] := by decide +kernel
theorem w_set2 : IsSet [[1], [1], [2]] [[1], [2]] := ⟨by decide, fun x => by simp only [List.mem_cons, List.not_mem_nil, or_false]; grind⟩

theorem alloc4 (w : World) (o1 o2 o3 o4 : Obj) : ((((w.alloc o1).alloc o2).alloc o3).alloc o4).heap[w.heap.size]? = some o1 ∧ ((((w.alloc o1).alloc o2).alloc o3).alloc o4).heap[w.heap.size + 1]? = some o2 ∧ ((((w.alloc o1).alloc o2).alloc o3).alloc o4).heap[w.heap.size + 1 + 1]? = some o3 ∧ ((((w.alloc o1).alloc o2).alloc o3).alloc o4).heap[w.heap.size + 1 + 1 + 1]? = some o4 ∧ Below w.heap.size w ((((w.alloc o1).alloc o2).alloc o3).alloc o4) := by
  obtain ⟨h1, h2, h3, hb⟩ := alloc3 w o1 o2 o3
  refine ⟨?_, ?_, ?_, ?_, below_alloc hb _⟩
  · rw [Below.heap_alloc _ _ _ (Array.getElem?_eq_some_iff.1 h1).1]; exact h1
  · rw [Below.heap_alloc _ _ _ (Array.getElem?_eq_some_iff.1 h2).1]; exact h2
  · rw [Below.heap_alloc _ _ _ (Array.getElem?_eq_some_iff.1 h3).1]; exact h3
  · have := heap_alloc_new (((w.alloc o1).alloc o2).alloc o3) o4
    simpa using this

theorem awake_result (w1 : World) (B c1 : Nat) (g1 : w1.heap[B]? = some (.cells #[.int .i64 1, .string ⟨#[97]⟩, .int .i64 2, .int .i64 2, .string ⟨#[97]⟩, .int .i64 3, .int .i64 1, .string ⟨#[97]⟩, .int .i64 3] 82)) (g2 : w1.heap[B + 1]? = some (.cells #[.string ⟨#[120]⟩] 9)) (g3 : w1.heap[B + 1 + 1]? = some (.cells #[.string ⟨#[120]⟩, .string ⟨#[97]⟩, .string ⟨#[121]⟩] 118)) :
    Calls Try.prog 28 #[.agg #[.string ⟨#[103]⟩, .int .i64 1, .slice (some ⟨B + 1, 0, none⟩) 1 1, .slice (some ⟨B + 1 + 1, 0, none⟩) 1 1, .string ⟨#[]⟩], .slice (some ⟨B, 0, none⟩) 3 3] w1 fun e w' =>
      ∃ v1 v2, e = .returned (.tuple #[v1, v2, .int .i64 0]) ∧ TupsAt w' (fun _ => True) v1 [[1], [2]] ∧ TupAt w' (fun _ => True) v2 [2, 1] ∧ Below w1.heap.size w1 w' := by
  have hE : Kd.C k82 w1 (some ⟨B, 0, none⟩) esW.length esW := ⟨rfl, by decide, fun _ => ⟨⟨B, 0, none⟩, rfl, fun j p hj => by
    match j, hj with
    | 0, hj => 
      injection hj with hj; subst hj
      refine ⟨_, rfl, k82_mk w1 _, fun i u hi => ?_⟩
      match i, hi with
      | 0, hi => injection hi with hi; subst hi; exact cell_at g1 0
      | 1, hi => injection hi with hi; subst hi; exact cell_at g1 1
      | 2, hi => injection hi with hi; subst hi; exact cell_at g1 2
    | 1, hj => 
      injection hj with hj; subst hj
      refine ⟨_, rfl, k82_mk w1 _, fun i u hi => ?_⟩
      match i, hi with
      | 0, hi => injection hi with hi; subst hi; exact cell_at g1 3
      | 1, hi => injection hi with hi; subst hi; exact cell_at g1 4
      | 2, hi => injection hi with hi; subst hi; exact cell_at g1 5
    | 2, hj => 
      injection hj with hj; subst hj
      refine ⟨_, rfl, k82_mk w1 _, fun i u hi => ?_⟩
      match i, hi with
      | 0, hi => injection hi with hi; subst hi; exact cell_at g1 6
      | 1, hi => injection hi with hi; subst hi; exact cell_at g1 7
      | 2, hi => injection hi with hi; subst hi; exact cell_at g1 8⟩⟩
  have hO : Kd.C Kd.string w1 (some ⟨B + 1, 0, none⟩) [sX].length [sX] := ⟨rfl, by decide, fun _ => ⟨⟨B + 1, 0, none⟩, rfl, fun j p hj => by
    match j, hj with
    | 0, hj =>
      injection hj with hj; subst hj
      refine ⟨[.string sX], rfl, rfl, fun i u hi => ?_⟩
      match i, hi with
      | 0, hi => injection hi with hi; subst hi; exact cell_at g2 0⟩⟩
  have hA : Kd.C k118 w1 (some ⟨B + 1 + 1, 0, none⟩) atsW.length atsW := ⟨rfl, by decide, fun _ => ⟨⟨B + 1 + 1, 0, none⟩, rfl, fun j p hj => by
    match j, hj with
    | 0, hj => 
      injection hj with hj; subst hj
      refine ⟨_, rfl, k118_mk w1 _, fun i u hi => ?_⟩
      match i, hi with
      | 0, hi => injection hi with hi; subst hi; exact cell_at g3 0
      | 1, hi => injection hi with hi; subst hi; exact cell_at g3 1
      | 2, hi => injection hi with hi; subst hi; exact cell_at g3 2⟩⟩
  obtain ⟨K1, hb1⟩ := bad_val sG ⟨#[]⟩ 1 [sX] atsW (by decide) (by decide)
  obtain ⟨K2, hv2⟩ := qvars_val sG ⟨#[]⟩ 1 [sX] atsW (by decide)
  have hb := hb1 (max K1 K2) (by omega)
  have hv := hv2 (max K1 K2) (by omega)
  rw [w_check] at hb
  have hix := idx_rounds (varsOf atsW) (by rw [w_vars]; decide)
  have h := result_good (w := w1) (nm := sG) (lb := ⟨#[]⟩) (kd := 1) (A1 := some ⟨B, 0, none⟩) (c1 := 3) (c2 := 1) (c3 := 1) (out := [sX]) (ats := atsW) (es := esW) hO (by decide) hA (by decide)
    (fun W hW => by
      have := rows_good W (nm := sG) (lb := ⟨#[]⟩) (kd := 1) (c1 := 3) (c2 := 1) (c3 := 1) (out := [sX]) (ats := atsW) (es := esW) (Kd.C_below hO hW) (by decide) (Kd.C_below hA hW) (by decide) (Kd.C_below hE hW) hb hv hix (by decide) (by decide)
      rw [w_rows] at this
      exact this) w_set (by decide) (by rw [w_vars]; decide) (by decide) (by rw [w_vars]; decide) hv hix
  rw [w_proj] at h
  refine h.mono ?_
  rintro e w' ⟨⟨v1, v2, set, rfl, hset, ht, hn⟩, hbw⟩
  obtain rfl : set = [[1], [2]] := hset.uniq w_set2
  exact ⟨v1, v2, rfl, ht.okmono (fun _ _ _ => trivial), hn.okmono (fun _ _ _ => trivial), hbw⟩

set_option maxRecDepth 100000 in
theorem awake_walk (w : World) : Calls Try.prog 24 #[] w fun e w' => e = .returned (.bool true) ∧ Below w.heap.size w w' := by
  obtain ⟨K3, hi3⟩ : ∃ k, rhizomeref01_Ints.f k [2, 1] [2, 1] = some true := ⟨10, by decide +kernel⟩
  have HI := Aside0.mk hi3
  clear hi3
  go_enter Try.func24, Try.ntmps24
  go_upto_region 3 with fail
  obtain ⟨g1, g2, g3, g4, gb⟩ := alloc4 w (.cells #[.int .i64 1, .string ⟨#[97]⟩, .int .i64 2, .int .i64 2, .string ⟨#[97]⟩, .int .i64 3, .int .i64 1, .string ⟨#[97]⟩, .int .i64 3] 82) (.cells #[.string ⟨#[120]⟩] 9) (.cells #[.string ⟨#[120]⟩, .string ⟨#[97]⟩, .string ⟨#[121]⟩] 118) (.cells #[.string ⟨#[103]⟩, .int .i64 1, .slice (some ⟨w.heap.size + 1, 0, none⟩) 1 1, .slice (some ⟨w.heap.size + 1 + 1, 0, none⟩) 1 1, .string ⟨#[]⟩] 59)
  have G1 := Aside0.mk g1
  have G2 := Aside0.mk g2
  have G3 := Aside0.mk g3
  have GB := Aside0.mk gb
  have k0 := cell_at g4 0
  have k1 := cell_at g4 1
  have k2 := cell_at g4 2
  have k3 := cell_at g4 3
  have k4 := cell_at g4 4
  clear g1 g2 g3 g4 gb
  generalize ((((w.alloc (.cells #[.int .i64 1, .string ⟨#[97]⟩, .int .i64 2, .int .i64 2, .string ⟨#[97]⟩, .int .i64 3, .int .i64 1, .string ⟨#[97]⟩, .int .i64 3] 82)).alloc (.cells #[.string ⟨#[120]⟩] 9)).alloc (.cells #[.string ⟨#[120]⟩, .string ⟨#[97]⟩, .string ⟨#[121]⟩] 118)).alloc (.cells #[.string ⟨#[103]⟩, .int .i64 1, .slice (some ⟨w.heap.size + 1, 0, none⟩) 1 1, .slice (some ⟨w.heap.size + 1 + 1, 0, none⟩) 1 1, .string ⟨#[]⟩] 59)) = w1 at *
  go_upto_region 4 with (go_at_call 28; (with_reducible refine (awake_result w1 w.heap.size 3 G1.out G2.out G3.out).mono ?_); rintro e w2 ⟨v1, v2, rfl, ht, hn, hb2⟩; (have HT := Aside0.mk ht); (have HN := Aside0.mk hn); (have HB2 := Aside0.mk hb2); clear ht hn hb2)
  obtain ⟨A1, c1, rfl, _⟩ := SlAt.shape HT.out
  obtain ⟨ga, oa, u, rfl, ha, _, hu, _⟩ := SlAt.at_ HT.out 0 (by decide)
  obtain ⟨A2, c2, rfl, hc2, hC2⟩ := TupAt.reads HN.out
  obtain ⟨Au, cu, rfl, _⟩ := SlAt.shape hu
  obtain ⟨gu, ou, x, rfl, hx, _, hxe, _⟩ := SlAt.at_ hu 0 (by decide)
  subst hxe
  clear k0 k1 k2 k3 k4 hu
  have HB3 : Aside0 (Below w2.heap.size w2 (w2.alloc (.cells #[.int .i64 2, .int .i64 1] 3))) := ⟨below_alloc (Below.refl _ _) _⟩
  have hq : (w2.alloc (.cells #[.int .i64 2, .int .i64 1] 3)).heap[w2.heap.size]? = some (.cells #[.int .i64 2, .int .i64 1] 3 (0, 0)) := heap_alloc_new _ _
  have HC3 : Aside0 (Kd.C (Kd.int .i64) (w2.alloc (.cells #[.int .i64 2, .int .i64 1] 3)) (some ⟨w2.heap.size, 0, none⟩) ([2, 1] : List Int).length [2, 1]) := ⟨⟨rfl, by decide, fun _ => ⟨⟨w2.heap.size, 0, none⟩, rfl, fun j p hj => by
    match j, hj with
    | 0, hj =>
      injection hj with hj; subst hj
      refine ⟨[.int .i64 2], rfl, rfl, fun i u hi => ?_⟩
      match i, hi with
      | 0, hi => injection hi with hi; subst hi; exact cell_at hq 0
    | 1, hj =>
      injection hj with hj; subst hj
      refine ⟨[.int .i64 1], rfl, rfl, fun i u hi => ?_⟩
      match i, hi with
      | 0, hi => injection hi with hi; subst hi; exact cell_at hq 1⟩⟩⟩
  have HC2 : Aside0 (Kd.C (Kd.int .i64) (w2.alloc (.cells #[.int .i64 2, .int .i64 1] 3)) A2 ([2, 1] : List Int).length [2, 1]) := ⟨Kd.C_below hC2 HB3.out⟩
  have HG2 := Aside0.mk hc2
  have hx2 := pw_cell_below HB3.out hx
  have ha2 := pw_cell_below HB3.out ha
  rw [Nat.add_zero] at hx2 ha2
  change _ = some (Value.int .i64 1) at hx2
  change _ = some (Value.slice (some ⟨gu, ou, none⟩) 1 cu) at ha2
  clear hq hC2 hc2 hx ha
  go_wp2_with (go_at_call 32; refine (rhizomeref01_Ints.calls K3 A2 c2 [2, 1] (some ⟨w2.heap.size, 0, none⟩) 2 [2, 1] true _ HC2.out HG2.out HC3.out (by decide) HI.out).mono ?_; rintro e w3 ⟨rfl, n3, rfl⟩)
  go_ret
  exact ⟨rfl, pw_below_drewN ((GB.out.trans (HB2.out.mono GB.out.size)).trans (HB3.out.mono (GB.out.trans (HB2.out.mono GB.out.size)).size)) _⟩

/-! ### rhizomelaw11_awake: function 24 -/
def rhizomelaw11_awake.f  : Option (Bool) := some true
theorem rhizomelaw11_awake.calls  (r : Bool) (w : World) (h : rhizomelaw11_awake.f  = some r) :
    Calls Try.prog 24 #[] w fun e w' => e = .returned (.bool r) ∧ Below w.heap.size w w' := by
  obtain rfl := Option.some.inj h
  exact awake_walk w
end Go.Proofs.Ytcchcifcfcpjiaa.PJ
