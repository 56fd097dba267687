/- join.extend, and the function value that join.Rows hands to it. -/
import Derived.Test.YtcchcifcfcpjiaaJE
import Derived.Test.YtcchcifcfcpjiaaJM
import Derived.Deep.RegionHeld3
import Derived.Deep.AppendLies
import Derived.BigQuiet
import Derived.StillTactics
import Derived.StillTailTactics
set_option linter.unusedVariables false
set_option linter.unusedSimpArgs false
namespace Go.Proofs.Ytcchcifcfcpjiaa.J
open Go.RowKit Go.Proofs.YtcchcifcfcpjiaaW.PrintWords Go.Proofs.YtcchcifcfcpjiaaW.PrintLast Go.Proofs.YtcchcifcfcpjiaaW.PrintMore Go.Proofs.Ytcchcifcfcpjiaa.PJ

/-- The variable next, boxed in block B: what has been taken so far. -/
def AccAt (W : World) (base B : Nat) (acc : List (List Int)) : Prop :=
  base ≤ B ∧ ∃ vn us, W.heap[B]? = some (.cells #[vn] 63 (0, 0)) ∧ W.ownsRow base 75 1 vn us.length us ∧ TupsU W (fun _ => True) us acc

theorem AccAt.below {W W' : World} {base B : Nat} {acc : List (List Int)} (h : AccAt W base B acc) (hb : Below W.heap.size W W') : AccAt W' base B acc := by
  obtain ⟨h1, vn, us, h2, h3, h4⟩ := h
  exact ⟨h1, vn, us, (hb.block B (Array.getElem?_eq_some_iff.1 h2).1).trans h2, pw_own_below h3 hb, h4.imp (fun _ _ hu => hu.below hb)⟩

theorem box_set {w : World} {B t : Nat} {v : Value} {fr : Nat × Nat} (h : w.heap[B]? = some (.cells #[v] t fr)) (u : Value) : (w.setCell ⟨B, 0, none⟩ u).heap[B]? = some (.cells #[u] t fr) := by
  simp [World.setCell, Array.getElem?_modify, h]
theorem own_far {w : World} {base n e B : Nat} {v : Value} {us : List Value} (h : w.ownsRow base e 1 v n us) (hne : some B ≠ v.ownBlock) (u : Value) : (w.setCell ⟨B, 0, none⟩ u).ownsRow base e 1 v n us :=
  own_move h (fun k hk => Below.heap_setCell w ⟨B, 0, none⟩ u k (fun e => hne (by rw [hk, e])))
theorem TupAt.far {w : World} {ok : Nat → Prop} {v : Value} {xs : List Int} (h : TupAt w ok v xs) {B t : Nat} {cells : Array Value} {fr : Nat × Nat} (hB : w.heap[B]? = some (.cells cells t fr)) (ht : t ≠ 3) (u : Value) : TupAt (w.setCell ⟨B, 0, none⟩ u) ok v xs :=
  ((h.off hB ht).step (fun k hk _ => Below.heap_setCell w ⟨B, 0, none⟩ u k hk.2)).okmono (fun k hk _ => hk.1)
theorem own_ne_type {w : World} {base n e B t : Nat} {v : Value} {us : List Value} {cells : Array Value} {fr : Nat × Nat} (h : w.ownsRow base e 1 v n us) (hB : w.heap[B]? = some (.cells cells t fr)) (ht : t ≠ e) : some B ≠ v.ownBlock := fun h2 => by
  obtain ⟨cells', hc⟩ := own_typed h B h2.symm
  rw [hB] at hc
  injection hc with hc
  injection hc with _ hc
  exact ht hc

set_option maxRecDepth 100000 in
theorem take_calls (w : World) {base B : Nat} {acc : List (List Int)} {ok : Nat → Prop} {u : Value} {x : List Int} (hA : AccAt w base B acc) (hu : TupAt w ok u x) (hl : acc.length ≤ 1000000) :
    Calls Try.prog 64 #[u, .pointer (some ⟨B, 0, none⟩)] w fun e w' => e = .returned (.bool (decide (acc.length + 1 ≤ 3000))) ∧ AccAt w' base B (acc ++ [x]) ∧ Below base w w' := by
  obtain ⟨hb, vn, us, hB, ho, hT⟩ := hA
  obtain ⟨A, c, rfl⟩ := own_slice ho
  obtain ⟨A2, c2, rfl, _⟩ := SlAt.shape hu
  have hBs := (Array.getElem?_eq_some_iff.1 hB).1
  have hcell : w.cell? ⟨B, 0, none⟩ = some (.slice A us.length c) := by simp [World.cell?, hB]
  have hfr : w.frozen? ⟨B, 0, none⟩ = false := by simp [World.frozen?, hB]
  have hne : some B ≠ (Value.slice A us.length c).ownBlock := fun e => by
    obtain ⟨cells, hc⟩ := own_typed ho B e.symm
    rw [hB] at hc
    injection hc with hc
    injection hc with _ hc
    exact absurd hc (by decide)
  have HO := Aside0.mk ho
  have HT := Aside0.mk hT
  have HU := Aside0.mk hu
  have HB := Aside0.mk hB
  have HN := Aside0.mk hne
  have HL := Aside0.mk hT.1
  clear ho hT hu hB hne
  go_enter Try.func64, Try.ntmps64
  go_wp2_with (at_builtin; refine print_append (w0 := w) base rfl (.tmp 4) (.tmp 6) 63 75 (.slice none 0 0) 24 rfl Try.underlying63 info75 rfl (by decide) (.slice A us.length c) us (.slice A2 x.length c2) rfl rfl ?c1 ?c2 ?c3 ?c4 ?c5 ?_)
  case c1 => rfl
  case c2 => exact HO.out
  case c3 => exact Below.refl _ _
  case c4 => omega
  case c5 => have := HL.out; omega
  intro v1 w1 ho1 hb1 hg1 _
  obtain ⟨A3, c3, rfl⟩ := own_slice ho1
  have hB1 : w1.heap[B]? = some (.cells #[.slice A us.length c] 63 (0, 0)) := (hg1.block B hBs HN.out).trans HB.out
  have hcell1 : w1.cell? ⟨B, 0, none⟩ = some (.slice A us.length c) := by simp [World.cell?, hB1]
  have hfr1 : w1.frozen? ⟨B, 0, none⟩ = false := by simp [World.frozen?, hB1]
  have HB1 := Aside0.mk hB1
  have HO1 := Aside0.mk ho1
  have HG1 := Aside0.mk hg1
  have HBl := Aside0.mk hb1
  clear hB1 ho1 hg1 hb1 hcell hfr
  go_wp2
  go_ret
  have hne3 : some B ≠ (Value.slice A3 (us.length + 1) c3).ownBlock := own_ne_type HO1.out HB1.out (by decide)
  refine ⟨ret_eq (by
    show Value.bool _ = _
    congr 1
    rw [HL.out, Bool.eq_iff_iff]
    simp only [decide_eq_true_eq]
    omega), ⟨hb, .slice A3 (us.length + 1) c3, us ++ [.slice A2 x.length c2], box_set HB1.out _, ?_, ?_⟩, HBl.out.setCell hb _⟩
  · have := own_far HO1.out hne3 (.slice A3 (us.length + 1) c3)
    simpa using this
  · refine TupsU.snoc (HT.out.imp fun v y hv => ?_) ?_
    · exact (hv.grown75 HO.out HG1.out).far HB1.out (by decide) _
    · exact ((HU.out.okmono (fun _ _ _ => trivial)).grown75 HO.out HG1.out).far HB1.out (by decide) _

def flatP (ps : List (Int × Int)) : List Value := ps.flatMap fun p => [.int .i64 p.1, .int .i64 p.2]
def froms (ps : List (Int × Int)) (a : Int) : List Int := (ps.filter fun p => decide (p.1 = a)).map (·.2)
/-- A label's edges, in block p. -/
def IxAt (w : World) (p : Nat) (ps : List (Int × Int)) : Prop :=
  ∃ bf v bh lf cf lh ch, w.heap[p]? = some (.cells #[.map (some bf), v, .map (some bh)] 161 (0, 0)) ∧ w.ownsRow 0 162 2 v ps.length (flatP ps) ∧
    MapIs (.int .i64) w bf lf cf ∧ (∀ a, ∃ u, (getA a lf).getD (.slice none 0 0) = u ∧ w.ownsRow 0 3 1 u (froms ps a).length (nums .i64 (froms ps a))) ∧
    MapIs encP w bh lh ch ∧ (∀ q, ∃ c : Int, (getA q lh).getD (.int .i64 0) = .int .i64 c ∧ (c = 0 ↔ q ∉ ps))
def XAt (w : World) (x : Value) (ps : List (Int × Int)) : Prop := (x = .pointer none ∧ ps = []) ∨ ∃ p, x = .pointer (some ⟨p, 0, none⟩) ∧ IxAt w p ps
theorem IxAt.below {w w' : World} {p : Nat} {ps : List (Int × Int)} (h : IxAt w p ps) (hb : Below w.heap.size w w') : IxAt w' p ps := by
  obtain ⟨bf, v, bh, lf, cf, lh, ch, h1, h2, h3, h4, h5, h6⟩ := h
  refine ⟨bf, v, bh, lf, cf, lh, ch, (hb.block p (Array.getElem?_eq_some_iff.1 h1).1).trans h1, pw_own_below h2 hb, h3.step (hb.block bf (Array.getElem?_eq_some_iff.1 h3.1).1), fun a => ?_, h5.step (hb.block bh (Array.getElem?_eq_some_iff.1 h5.1).1), h6⟩
  obtain ⟨u, hu, ho⟩ := h4 a
  exact ⟨u, hu, pw_own_below ho hb⟩
theorem XAt.below {w w' : World} {x : Value} {ps : List (Int × Int)} (h : XAt w x ps) (hb : Below w.heap.size w w') : XAt w' x ps := by
  rcases h with h | ⟨p, h1, h2⟩
  · exact .inl h
  · exact .inr ⟨p, h1, h2.below hb⟩

/-- The rows with an atom more. -/
def extM (ps : List (Int × Int)) (r : List Int) (f t : Nat) : List (List Int) :=
  if f < r.length then
    if t < r.length then (if (r.getD f 0, r.getD t 0) ∈ ps then [r] else [])
    else (froms ps (r.getD f 0)).map (fun b => r ++ [b])
  else ps.flatMap fun p => if t = r.length + 1 then [r ++ [p.1] ++ [p.2]] else if (r ++ [p.1]).getD t 0 = p.2 then [r ++ [p.1]] else []

theorem zero3 : ∀ w, (zeroValue 3).run Try.prog w = .ok (.int .i64 0) w := fun w => Try.zeroValue3 w
theorem zero66 : ∀ w, (zeroValue 66).run Try.prog w = .ok (.slice none 0 0) w := fun w => Try.zeroValue66 w

/-- What extend says and does. -/
def ExtPost (base B : Nat) (w1 : World) (acc new : List (List Int)) : Ending → World → Prop := fun e w' =>
  e = .returned (.bool (decide (acc.length + new.length ≤ 3000))) ∧ (acc.length + new.length ≤ 3000 → AccAt w' base B (acc ++ new)) ∧ Below base w1 w'

theorem extend_nil (w : World) {base B : Nat} {acc : List (List Int)} (v : Value) (f t : Int) (g : Value) (hA : AccAt w base B acc) (hl : acc.length ≤ 3000) :
    Calls Try.prog 65 #[.pointer none, v, .int .i64 f, .int .i64 t, g] w (ExtPost base B w acc []) := by
  have HA := Aside0.mk hA
  have HL := Aside0.mk (show decide (acc.length + ([] : List (List Int)).length ≤ 3000) = true from decide_eq_true (by simpa using hl))
  clear hA
  go_enter Try.func65, Try.ntmps65
  go_wp2
  go_ret
  exact ⟨ret_eq (by rw [HL.out]; rfl), fun _ => by simpa using HA.out, Below.refl _ _⟩

end Go.Proofs.Ytcchcifcfcpjiaa.J
