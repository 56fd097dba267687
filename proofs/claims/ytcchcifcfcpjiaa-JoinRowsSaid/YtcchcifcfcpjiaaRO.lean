/- The row's arguments opened: slices of texts, of structs, of numbers, and a struct that holds such. -/
import Derived.Test.YtcchcifcfcpjiaaPJx0
import Derived.Deep.Slices
import Derived.Deep.Strs
import Derived.ProofKit
set_option linter.unusedVariables false
set_option linter.unusedSimpArgs false
namespace Go.Proofs.Ytcchcifcfcpjiaa.PJ
open Go.RowKit Go.Proofs.YtcchcifcfcpjiaaW.PrintWords Go.Proofs.YtcchcifcfcpjiaaW.PrintLast Go.Proofs.YtcchcifcfcpjiaaW.PrintMore Go.Deep

section
variable {H : Type} {enc : TypeId × Value → H} {w : World} {base : Nat} {spare : Nat → Bool} {held : Bool}

theorem exists_upto {α : Type} {P : Nat → α → Prop} : ∀ n, (∀ i, i < n → ∃ z, P i z) → ∃ xs : List α, xs.length = n ∧ ∀ (i : Nat) (z : α), xs[i]? = some z → P i z
  | 0, _ => ⟨[], rfl, fun i z h => by simp at h⟩
  | n + 1, h => by
    obtain ⟨xs, h1, h2⟩ := exists_upto n (fun i hi => h i (by omega))
    obtain ⟨z, hz⟩ := h n (by omega)
    refine ⟨xs ++ [z], by simp [h1], fun i y hy => ?_⟩
    rcases Nat.lt_or_ge i xs.length with hi | hi
    · rw [List.getElem?_append_left hi] at hy
      exact h2 i y hy
    · rw [List.getElem?_append_right hi] at hy
      have h0 : i - xs.length = 0 := by
        have := (List.getElem?_eq_some_iff.1 hy).1
        simpa using this
      rw [h0] at hy
      have hyz : z = y := by simpa using hy
      subst hyz
      have : i = n := by omega
      rw [this]
      exact hz

theorem open_C {α : Type} (d : Kd α) (Pr : α → Prop) {t e : TypeId} {fuel : Nat} {cs : List Value} {x : DataW H × List MemPlace} (ht : Try.prog.underlying t = some (.slice e)) (hc : Try.prog.cellsOf e = d.sz)
    (hel : ∀ n cs' y, DataW.trod enc Try.prog w base spare held n e cs' = some y → ∃ z : α, d.K w z cs' ∧ Pr z)
    (h : DataW.trod enc Try.prog w base spare held fuel t cs = some x) : ∃ (A : Option Addr) (c : Nat) (xs : List α), cs = [.slice A xs.length c] ∧ xs.length ≤ c ∧ d.C w A xs.length xs ∧ ∀ z ∈ xs, Pr z := by
  rcases open_slice ht h with ⟨rfl, _⟩ | ⟨a, len, cap, m, n, D, Pl, rfl, hb, hl, hm, hmm, _, hcell⟩
  · exact ⟨none, 0, [], rfl, Nat.le_refl _, ⟨rfl, Nat.zero_le _, fun h => absurd h (Nat.lt_irrefl 0)⟩, fun z hz => by cases hz⟩
  · have hlm : len ≤ m := by rw [hmm]; split <;> omega
    obtain ⟨xs, hxl, hxs⟩ := exists_upto (P := fun i (z : α) => (∃ cs', w.cells? base (a.add (i * Try.prog.cellsOf e)) (Try.prog.cellsOf e) = some cs' ∧ d.K w z cs') ∧ Pr z) len (fun i hi => by
      obtain ⟨cs', h1, h2⟩ := hcell i (by omega)
      obtain ⟨z, hz, hp⟩ := hel n cs' _ h2
      exact ⟨z, ⟨cs', h1, hz⟩, hp⟩)
    have hml : maxLen = 9223372036854775807 := rfl
    refine ⟨some a, cap, xs, by rw [hxl], by omega, ⟨rfl, by omega, fun _ => ⟨a, rfl, fun j p hj => ?_⟩⟩, fun z hz => ?_⟩
    · obtain ⟨⟨cs', h1, h2⟩, _⟩ := hxs j p hj
      obtain ⟨_, h3, h4⟩ := World.cells?_some h1
      rw [hc] at h3 h4
      refine ⟨cs', h3, h2, fun i u hi => ?_⟩
      have hil : i < d.sz := by rw [← h3]; exact (List.getElem?_eq_some_iff.1 hi).1
      have h5 := h4 i hil
      have h6 : (a.add (j * d.sz)).add i = a.add (j * d.sz + i) := Go.Deep.add_add _ _ _
      rw [← h6, h5, hi]
    · obtain ⟨j, hj, rfl⟩ := List.getElem_of_mem hz
      exact (hxs j _ (List.getElem?_eq_getElem hj)).2

theorem el_string (n : Nat) (cs' : List Value) (y) (h : DataW.trod enc Try.prog w base spare held n 9 cs' = some y) : ∃ z : ByteArray, Kd.string.K w z cs' ∧ z.size ≤ maxLen := by
  obtain ⟨s, rfl, _, hs⟩ := DataW.trod_string Try.underlying9 h
  exact ⟨s, rfl, hs⟩
theorem el_int (n : Nat) (cs' : List Value) (y) (h : DataW.trod enc Try.prog w base spare held n 3 cs' = some y) : ∃ z : Int, (Kd.int .i64).K w z cs' ∧ True := by
  obtain ⟨z, rfl, _⟩ := DataW.trod_int Try.underlying3 h
  exact ⟨z, rfl, trivial⟩
theorem len3 {l : List Value} (h : l.length = 3) : ∃ a b c, l = [a, b, c] := by
  match l, h with
  | [a, b, c], _ => exact ⟨a, b, c, rfl⟩
theorem el_82 (n : Nat) (cs' : List Value) (y) (h : DataW.trod enc Try.prog w base spare held n 82 cs' = some y) : ∃ z : S82, k82.K w z cs' ∧ z.f1.size ≤ maxLen := by
  obtain ⟨y0, y1, y2, m, _, hl, h0, h1, h2⟩ := trod_struct3 Try.underlying82 h
  have hc : Try.prog.cellsOf 82 = 3 := by kernel_rfl
  rw [hc] at hl
  obtain ⟨a, b, c, rfl⟩ := len3 hl
  obtain ⟨z0, e0, _⟩ := DataW.trod_int Try.underlying3 h0
  obtain ⟨z1, e1, _, hs⟩ := DataW.trod_string Try.underlying9 h1
  obtain ⟨z2, e2, _⟩ := DataW.trod_int Try.underlying3 h2
  have ea : a = .int .i64 z0 := by simpa [show Try.prog.cellsOf 3 = 1 by kernel_rfl] using e0
  have eb : b = .string z1 := by simpa [show Try.prog.cellsOf 9 = 1 by kernel_rfl] using e1
  have ec : c = .int .i64 z2 := by simpa [show Try.prog.cellsOf 3 = 1 by kernel_rfl] using e2
  subst ea eb ec
  exact ⟨⟨z0, z1, z2⟩, k82_mk w ⟨z0, z1, z2⟩, hs⟩
theorem el_118 (n : Nat) (cs' : List Value) (y) (h : DataW.trod enc Try.prog w base spare held n 118 cs' = some y) : ∃ z : S118, k118.K w z cs' ∧ (z.f0.size ≤ maxLen ∧ z.f1.size ≤ maxLen ∧ z.f2.size ≤ maxLen) := by
  obtain ⟨y0, y1, y2, m, _, hl, h0, h1, h2⟩ := trod_struct3 Try.underlying118 h
  have hc : Try.prog.cellsOf 118 = 3 := by kernel_rfl
  rw [hc] at hl
  obtain ⟨a, b, c, rfl⟩ := len3 hl
  obtain ⟨z0, e0, _, s0⟩ := DataW.trod_string Try.underlying9 h0
  obtain ⟨z1, e1, _, s1⟩ := DataW.trod_string Try.underlying9 h1
  obtain ⟨z2, e2, _, s2⟩ := DataW.trod_string Try.underlying9 h2
  have ea : a = .string z0 := by simpa [show Try.prog.cellsOf 9 = 1 by kernel_rfl] using e0
  have eb : b = .string z1 := by simpa [show Try.prog.cellsOf 9 = 1 by kernel_rfl] using e1
  have ec : c = .string z2 := by simpa [show Try.prog.cellsOf 9 = 1 by kernel_rfl] using e2
  subst ea eb ec
  exact ⟨⟨z0, z1, z2⟩, k118_mk w ⟨z0, z1, z2⟩, s0, s1, s2⟩

theorem len5 {l : List Value} (h : l.length = 5) : ∃ a b c d e, l = [a, b, c, d, e] := by
  match l, h with
  | [a, b, c, d, e], _ => exact ⟨a, b, c, d, e, rfl⟩
/-- A view that came in. -/
theorem open_view {fuel : Nat} {cs : List Value} {x : DataW H × List MemPlace} (h : DataW.trod enc Try.prog w base spare held fuel 59 cs = some x) :
    ∃ (nm lb : ByteArray) (kd : Int) (A2 A3 : Option Addr) (c2 c3 : Nat) (out : List ByteArray) (ats : List S118), cs = [.string nm, .int .i64 kd, .slice A2 out.length c2, .slice A3 ats.length c3, .string lb] ∧
      out.length ≤ c2 ∧ ats.length ≤ c3 ∧ Kd.C Kd.string w A2 out.length out ∧ Kd.C k118 w A3 ats.length ats ∧ nm.size ≤ maxLen ∧ lb.size ≤ maxLen ∧ ∀ a ∈ ats, a.f0.size ≤ maxLen ∧ a.f1.size ≤ maxLen ∧ a.f2.size ≤ maxLen := by
  obtain ⟨xs, n, _, rfl, hl, hlen, hf⟩ := DataW.trod_struct Try.underlying59 h
  have hc : Try.prog.cellsOf 59 = 5 := by kernel_rfl
  have c9 : Try.prog.cellsOf 9 = 1 := by kernel_rfl
  have c3' : Try.prog.cellsOf 3 = 1 := by kernel_rfl
  have c30 : Try.prog.cellsOf 30 = 1 := by kernel_rfl
  have c57 : Try.prog.cellsOf 57 = 1 := by kernel_rfl
  rw [hc] at hl
  obtain ⟨a, b, c, d, e, rfl⟩ := len5 hl
  have get : ∀ i (hi : i < 5), ∃ y, xs[i]? = some y := fun i hi => ⟨_, List.getElem?_eq_getElem (by rw [hlen]; exact hi)⟩
  obtain ⟨y0, e0⟩ := get 0 (by omega)
  obtain ⟨y1, e1⟩ := get 1 (by omega)
  obtain ⟨y2, e2⟩ := get 2 (by omega)
  obtain ⟨y3, e3⟩ := get 3 (by omega)
  obtain ⟨y4, e4⟩ := get 4 (by omega)
  have f0 : DataW.trod enc Try.prog w base spare held n 9 [a] = some y0 := by
    have h := (hf 0 _ rfl).trans e0
    change DataW.trod enc Try.prog w base spare held n 9 (List.take (Try.prog.cellsOf 9) (List.drop 0 [a, b, c, d, e])) = some y0 at h
    rw [c9] at h
    exact h
  have f1 : DataW.trod enc Try.prog w base spare held n 3 [b] = some y1 := by
    have h := (hf 1 _ rfl).trans e1
    change DataW.trod enc Try.prog w base spare held n 3 (List.take (Try.prog.cellsOf 3) (List.drop 1 [a, b, c, d, e])) = some y1 at h
    rw [c3'] at h
    exact h
  have f2 : DataW.trod enc Try.prog w base spare held n 30 [c] = some y2 := by
    have h := (hf 2 _ rfl).trans e2
    change DataW.trod enc Try.prog w base spare held n 30 (List.take (Try.prog.cellsOf 30) (List.drop 2 [a, b, c, d, e])) = some y2 at h
    rw [c30] at h
    exact h
  have f3 : DataW.trod enc Try.prog w base spare held n 57 [d] = some y3 := by
    have h := (hf 3 _ rfl).trans e3
    change DataW.trod enc Try.prog w base spare held n 57 (List.take (Try.prog.cellsOf 57) (List.drop 3 [a, b, c, d, e])) = some y3 at h
    rw [c57] at h
    exact h
  have f4 : DataW.trod enc Try.prog w base spare held n 9 [e] = some y4 := by
    have h := (hf 4 _ rfl).trans e4
    change DataW.trod enc Try.prog w base spare held n 9 (List.take (Try.prog.cellsOf 9) (List.drop 4 [a, b, c, d, e])) = some y4 at h
    rw [c9] at h
    exact h
  obtain ⟨nm, g0, _, s0⟩ := DataW.trod_string Try.underlying9 f0
  obtain ⟨kd, g1, _⟩ := DataW.trod_int Try.underlying3 f1
  obtain ⟨A2, c2, out, g2, l2, C2, _⟩ := open_C Kd.string (fun z => z.size ≤ maxLen) Try.underlying30 (by kernel_rfl) el_string f2
  obtain ⟨A3, c3, ats, g3, l3, C3, P3⟩ := open_C k118 (fun z => z.f0.size ≤ maxLen ∧ z.f1.size ≤ maxLen ∧ z.f2.size ≤ maxLen) Try.underlying57 (by kernel_rfl) el_118 f3
  obtain ⟨lb, g4, _, s4⟩ := DataW.trod_string Try.underlying9 f4
  have ea : a = .string nm := by simpa using g0
  have eb : b = .int .i64 kd := by simpa using g1
  have ec : c = .slice A2 out.length c2 := by simpa using g2
  have ed : d = .slice A3 ats.length c3 := by simpa using g3
  have ee : e = .string lb := by simpa using g4
  subst ea eb ec ed ee
  exact ⟨nm, lb, kd, A2, A3, c2, c3, out, ats, rfl, l2, l3, C2, C3, s0, s4, P3⟩
end
end Go.Proofs.Ytcchcifcfcpjiaa.PJ
