/- Words of this seat's hand-made proofs: a slice of one-cell elements that lies in unfrozen blocks of its own (SlAt), tuples, lists of tuples; a world that keeps all blocks but some (Kp). -/
import Derived.Test.YtcchcifcfcpjiaaPJx0
set_option linter.unusedVariables false
set_option linter.unusedSimpArgs false
namespace Go.Proofs.Ytcchcifcfcpjiaa.J
open Go.RowKit Go.Proofs.YtcchcifcfcpjiaaW.PrintWords Go.Proofs.YtcchcifcfcpjiaaW.PrintLast Go.Proofs.YtcchcifcfcpjiaaW.PrintMore Go.Proofs.Ytcchcifcfcpjiaa.PJ

/-- w' is w but for the blocks of S and new ones. -/
structure Kp (w w' : World) (S : Nat → Prop) : Prop where
  os : w'.os = w.os
  tape : w'.tape = w.tape
  output : w'.output = w.output
  size : w.heap.size ≤ w'.heap.size
  block : ∀ k, k < w.heap.size → ¬ S k → w'.heap[k]? = w.heap[k]?
namespace Kp
variable {a b c w w' : World} {S S' : Nat → Prop}
theorem refl (w : World) (S : Nat → Prop) : Kp w w S := ⟨rfl, rfl, rfl, Nat.le_refl _, fun _ _ _ => rfl⟩
theorem trans (h : Kp a b S) (k : Kp b c S) : Kp a c S := ⟨k.os.trans h.os, k.tape.trans h.tape, k.output.trans h.output, Nat.le_trans h.size k.size, fun i hi hS => (k.block i (Nat.lt_of_lt_of_le hi h.size) hS).trans (h.block i hi hS)⟩
theorem trans' (h : Kp a b S) (k : Kp b c S') (hs : ∀ i, S' i → S i ∨ a.heap.size ≤ i) : Kp a c S :=
  ⟨k.os.trans h.os, k.tape.trans h.tape, k.output.trans h.output, Nat.le_trans h.size k.size, fun i hi hS => (k.block i (Nat.lt_of_lt_of_le hi h.size) (fun h2 => (hs i h2).elim hS (fun h3 => by omega))).trans (h.block i hi hS)⟩
theorem mono (h : Kp a b S) (hs : ∀ i, S i → S' i ∨ a.heap.size ≤ i) : Kp a b S' :=
  ⟨h.os, h.tape, h.output, h.size, fun i hi hS => h.block i hi (fun h2 => (hs i h2).elim hS (fun h3 => by omega))⟩
theorem below (h : Kp a b S) {B : Nat} (hB : B ≤ a.heap.size) (hs : ∀ i, S i → B ≤ i) : Below B a b := ⟨h.os, h.tape, h.output, h.size, fun i hi => h.block i (by omega) (fun h2 => by have := hs i h2; omega)⟩
theorem ofBelow {B : Nat} (h : Below B a b) (hs : ∀ i, B ≤ i → i < a.heap.size → S i) : Kp a b S := ⟨h.os, h.tape, h.output, h.size, fun i hi hS => h.block i (Nat.lt_of_not_le (fun h2 => hS (hs i h2 hi)))⟩
theorem ofBelow' (h : Below a.heap.size a b) : Kp a b S := ofBelow h (fun i h1 h2 => by omega)
theorem drew (h : Kp a w S) : Kp a w.drew S := ⟨h.os, h.tape, h.output, h.size, h.block⟩
theorem drewN (h : Kp a w S) (n : Nat) : Kp a (w.drewN n) S := ⟨h.os, h.tape, h.output, h.size, h.block⟩
theorem alloc (h : Kp a w S) (o : Obj) : Kp a (w.alloc o) S :=
  h.trans ⟨rfl, rfl, rfl, by simp, fun k hk _ => Below.heap_alloc _ _ _ hk⟩
theorem setCell (h : Kp a w S) {p : Addr} (hp : S p.block ∨ a.heap.size ≤ p.block) (u : Value) : Kp a (w.setCell p u) S :=
  ⟨h.os, h.tape, h.output, by simpa [World.setCell] using h.size, fun k hk hS => (Below.heap_setCell w p u k (fun e => by subst e; exact hp.elim hS (fun h2 => by omega))).trans (h.block k hk hS)⟩
theorem grown {row : Option Nat} (h : Kp a w S) (hg : w.grownBy w' row) (hr : ∀ k, row = some k → S k ∨ a.heap.size ≤ k) : Kp a w' S :=
  ⟨hg.os.trans h.os, hg.tape.trans h.tape, hg.output.trans h.output, Nat.le_trans h.size hg.size, fun k hk hS => (hg.block k (Nat.lt_of_lt_of_le hk h.size) (fun e => (hr k e.symm).elim hS (fun h2 => by omega))).trans (h.block k hk hS)⟩
theorem heap (h : Kp a b S) {k : Nat} {o : Obj} (hk : a.heap[k]? = some o) (hS : ¬ S k) : b.heap[k]? = some o := (h.block k (Array.getElem?_eq_some_iff.1 hk).1 hS).trans hk
theorem cell (h : Kp a b S) {p : Addr} {v : Value} (hc : a.cell? p = some v) (hS : ¬ S p.block) : b.cell? p = some v := (World.cell?_of_block (w := a) (h.block p.block (World.block_lt_of_cell? a p hc) hS)).trans hc
end Kp

/-- A slice of elements of one cell each, in an unfrozen block of ok. R: what an element's cell says. -/
def SlAt {α : Type} (w : World) (ok : Nat → Prop) (e : Nat) (R : Value → α → Prop) (v : Value) (xs : List α) : Prop :=
  (v = .slice none 0 0 ∧ xs = []) ∨ ∃ g off cap cur, v = .slice (some ⟨g, off, none⟩) xs.length cap ∧ ok g ∧ w.heap[g]? = some (.cells cur e (0, 0)) ∧ xs.length ≤ cap ∧ cap ≤ maxLen ∧ off + cap ≤ cur.size ∧
    ∀ j x, xs[j]? = some x → ∃ u, cur[off + j]? = some u ∧ R u x
namespace SlAt
variable {α : Type} {w w' : World} {ok ok' : Nat → Prop} {e : Nat} {R R' : Value → α → Prop} {v : Value} {xs : List α}
theorem nil (w : World) (ok : Nat → Prop) (e : Nat) (R : Value → α → Prop) : SlAt w ok e R (.slice none 0 0) [] := .inl ⟨rfl, rfl⟩
theorem shape (h : SlAt w ok e R v xs) : ∃ A c, v = .slice A xs.length c ∧ xs.length ≤ c := by
  rcases h with ⟨rfl, rfl⟩ | ⟨g, off, cap, cur, rfl, _, _, hl, _⟩
  · exact ⟨none, 0, rfl, Nat.le_refl _⟩
  · exact ⟨_, cap, rfl, hl⟩
theorem imp (h : SlAt w ok e R v xs) (hR : ∀ u x, x ∈ xs → R u x → R' u x) : SlAt w ok e R' v xs := by
  rcases h with h | ⟨g, off, cap, cur, rfl, h1, h2, h3, h4, h5, h6⟩
  · exact .inl h
  · refine .inr ⟨g, off, cap, cur, rfl, h1, h2, h3, h4, h5, fun j x hj => ?_⟩
    obtain ⟨u, hu, hr⟩ := h6 j x hj
    exact ⟨u, hu, hR u x (List.mem_of_getElem? hj) hr⟩
theorem okmono (h : SlAt w ok e R v xs) (hok : ∀ k, ok k → k < w.heap.size → ok' k) : SlAt w ok' e R v xs := by
  rcases h with h | ⟨g, off, cap, cur, rfl, h1, h2, h3⟩
  · exact .inl h
  · exact .inr ⟨g, off, cap, cur, rfl, hok g h1 (Array.getElem?_eq_some_iff.1 h2).1, h2, h3⟩
theorem step (h : SlAt w ok e R v xs) (hm : ∀ k, ok k → k < w.heap.size → w'.heap[k]? = w.heap[k]?) : SlAt w' ok e R v xs := by
  rcases h with h | ⟨g, off, cap, cur, rfl, h1, h2, h3⟩
  · exact .inl h
  · exact .inr ⟨g, off, cap, cur, rfl, h1, (hm g h1 (Array.getElem?_eq_some_iff.1 h2).1).trans h2, h3⟩
theorem kp {S : Nat → Prop} (h : SlAt w ok e R v xs) (hk : Kp w w' S) (hS : ∀ k, ok k → ¬ S k) : SlAt w' ok e R v xs := h.step (fun k ho hk2 => hk.block k hk2 (hS k ho))
theorem len_le (h : SlAt w ok e R v xs) : xs.length ≤ maxLen := by
  rcases h with ⟨rfl, rfl⟩ | ⟨g, off, cap, cur, rfl, _, _, h1, h2, _⟩
  · simp
  · omega
/-- Its cells, one by one. -/
theorem at_ {A : Option Addr} {n c : Nat} (h : SlAt w ok e R (.slice A n c) xs) (j : Nat) (hj : j < xs.length) : ∃ g off u, A = some ⟨g, off, none⟩ ∧ w.cell? ⟨g, off + j, none⟩ = some u ∧ w.frozen? ⟨g, off + j, none⟩ = false ∧ R u xs[j] ∧ ok g := by
  rcases h with ⟨h1, rfl⟩ | ⟨g, off, cap, cur, h1, h2, h3, h4, h5, h6, h7⟩
  · simp at hj
  · injection h1 with h1 _ _
    obtain ⟨u, hu, hr⟩ := h7 j xs[j] (List.getElem?_eq_getElem hj)
    refine ⟨g, off, u, h1, ?_, ?_, hr, h2⟩
    · simp [World.cell?, h3, hu]
    · simp [World.frozen?, h3]
theorem ofOwn {base n : Nat} {us : List Value} (h : w.ownsRow base e 1 v n us) (hlen : us.length = xs.length) (hR : ∀ (j : Nat) u x, us[j]? = some u → xs[j]? = some x → R u x) (hok : ∀ k, v.ownBlock = some k → ok k) : SlAt w ok e R v xs := by
  have hl := h.1
  rcases h.2 with ⟨rfl, rfl⟩ | ⟨g, cap, cur, rfl, hb, hh, hn, hm, hs, ht⟩
  · refine .inl ⟨rfl, ?_⟩
    have : xs.length = 0 := by omega
    exact List.eq_nil_of_length_eq_zero this
  · have hnx : n = xs.length := by omega
    subst hnx
    refine .inr ⟨g, 0, cap, cur, rfl, hok g rfl, hh, hn, hm, by omega, fun j x hj => ?_⟩
    have hjl := (List.getElem?_eq_some_iff.1 hj).1
    have hju : j < us.length := by omega
    refine ⟨us[j], ?_, hR j _ x (List.getElem?_eq_getElem hju) hj⟩
    have h2 : us[j]? = some us[j] := List.getElem?_eq_getElem hju
    have h3 : cur[j]? = us[j]? := by rw [← ht, List.getElem?_take, if_pos (by omega), Array.getElem?_toList]
    rw [Nat.zero_add, h3, h2]
end SlAt

/-- A tuple. -/
def TupAt (w : World) (ok : Nat → Prop) (v : Value) (xs : List Int) : Prop := SlAt w ok 3 (fun u x => u = .int .i64 x) v xs
/-- A list of tuples. -/
def TupsAt (w : World) (ok : Nat → Prop) (v : Value) (xss : List (List Int)) : Prop := SlAt w ok 75 (fun u xs => TupAt w ok u xs) v xss

variable {w w' : World} {ok ok' : Nat → Prop} {v : Value} {xs : List Int} {xss : List (List Int)}
theorem TupAt.step (h : TupAt w ok v xs) (hm : ∀ k, ok k → k < w.heap.size → w'.heap[k]? = w.heap[k]?) : TupAt w' ok v xs := SlAt.step h hm
theorem TupAt.okmono (h : TupAt w ok v xs) (hok : ∀ k, ok k → k < w.heap.size → ok' k) : TupAt w ok' v xs := SlAt.okmono h hok
theorem TupsAt.step (h : TupsAt w ok v xss) (hm : ∀ k, ok k → k < w.heap.size → w'.heap[k]? = w.heap[k]?) : TupsAt w' ok v xss := (SlAt.step h hm).imp (fun _ _ _ hu => hu.step hm)
theorem TupsAt.okmono (h : TupsAt w ok v xss) (hok : ∀ k, ok k → k < w.heap.size → ok' k) : TupsAt w ok' v xss := (SlAt.okmono h hok).imp (fun _ _ _ hu => hu.okmono hok)
theorem TupAt.below (h : TupAt w ok v xs) (hb : Below w.heap.size w w') : TupAt w' ok v xs := h.step (fun k _ hk => hb.block k hk)
theorem TupsAt.below (h : TupsAt w ok v xss) (hb : Below w.heap.size w w') : TupsAt w' ok v xss := h.step (fun k _ hk => hb.block k hk)
theorem TupAt.kp {S : Nat → Prop} (h : TupAt w ok v xs) (hk : Kp w w' S) (hS : ∀ k, ok k → ¬ S k) : TupAt w' ok v xs := h.step (fun k ho hk2 => hk.block k hk2 (hS k ho))
theorem TupsAt.kp {S : Nat → Prop} (h : TupsAt w ok v xss) (hk : Kp w w' S) (hS : ∀ k, ok k → ¬ S k) : TupsAt w' ok v xss := h.step (fun k ho hk2 => hk.block k hk2 (hS k ho))
theorem TupAt.bound (h : TupAt w ok v xs) : TupAt w (fun k => ok k ∧ k < w.heap.size) v xs := h.okmono (fun _ h1 h2 => ⟨h1, h2⟩)
theorem TupsAt.bound (h : TupsAt w ok v xss) : TupsAt w (fun k => ok k ∧ k < w.heap.size) v xss := h.okmono (fun _ h1 h2 => ⟨h1, h2⟩)

theorem add_at (g off j : Nat) : (⟨g, off, none⟩ : Addr).add j = ⟨g, off + j, none⟩ := by unfold Addr.add; split <;> simp_all

theorem TupAt.reads (h : TupAt w ok v xs) : ∃ A c, v = .slice A xs.length c ∧ xs.length ≤ c ∧ (Kd.int .i64).C w A xs.length xs := by
  have hl := SlAt.len_le h
  obtain ⟨A, c, rfl, hc⟩ := SlAt.shape h
  refine ⟨A, c, rfl, hc, rfl, by simp only [maxLen] at hl; omega, fun hp => ?_⟩
  obtain ⟨g, off, u, rfl, _⟩ := SlAt.at_ h 0 hp
  refine ⟨_, rfl, fun j p hj => ?_⟩
  obtain ⟨hjl, rfl⟩ := List.getElem?_eq_some_iff.1 hj
  obtain ⟨g2, off2, u2, he, hc2, _, rfl, _⟩ := SlAt.at_ h j hjl
  injection he with he
  injection he with he1 he2
  subst he1 he2
  refine ⟨[.int .i64 xs[j]], rfl, rfl, fun i u hu => ?_⟩
  have hi : i = 0 := by
    have := (List.getElem?_eq_some_iff.1 hu).1
    simpa using this
  subst hi
  have : u = .int .i64 xs[j] := by simpa using hu.symm
  subst this
  rw [add_at]
  show w.cell? ⟨g, off + (j * 1 + 0), none⟩ = _
  rw [Nat.mul_one, Nat.add_zero]
  exact hc2

theorem TupsAt.reads (h : TupsAt w ok v xss) : ∃ A c, v = .slice A xss.length c ∧ xss.length ≤ c ∧ (Kd.slice 3 (Kd.int .i64)).C w A xss.length xss := by
  have hl := SlAt.len_le h
  obtain ⟨A, c, rfl, hc⟩ := SlAt.shape h
  refine ⟨A, c, rfl, hc, rfl, by simp only [maxLen] at hl; omega, fun hp => ?_⟩
  obtain ⟨g, off, u, rfl, _⟩ := SlAt.at_ h 0 hp
  refine ⟨_, rfl, fun j p hj => ?_⟩
  obtain ⟨hjl, rfl⟩ := List.getElem?_eq_some_iff.1 hj
  obtain ⟨g2, off2, u2, he, hc2, _, hr, _⟩ := SlAt.at_ h j hjl
  injection he with he
  injection he with he1 he2
  subst he1 he2
  obtain ⟨A1, c1, rfl, hl1, hC1⟩ := TupAt.reads hr
  refine ⟨[_], rfl, ⟨A1, c1, rfl, hl1, hC1⟩, fun i u hu => ?_⟩
  have hi : i = 0 := by
    have := (List.getElem?_eq_some_iff.1 hu).1
    simpa using this
  subst hi
  have hu' := Option.some.inj hu
  subst hu'
  rw [add_at]
  show w.cell? ⟨g, off + (j * 1 + 0), none⟩ = _
  rw [Nat.mul_one, Nat.add_zero]
  exact hc2

/-- Values that are tuples, one by one. -/
def TupsU (w : World) (ok : Nat → Prop) (us : List Value) (xss : List (List Int)) : Prop := us.length = xss.length ∧ ∀ (j : Nat) u x, us[j]? = some u → xss[j]? = some x → TupAt w ok u x
namespace TupsU
variable {us : List Value}
theorem nil (w : World) (ok : Nat → Prop) : TupsU w ok [] [] := ⟨rfl, fun j u x h => by simp at h⟩
theorem snoc {u : Value} (h : TupsU w ok us xss) (hu : TupAt w ok u xs) : TupsU w ok (us ++ [u]) (xss ++ [xs]) := by
  refine ⟨by simp [h.1], fun j u' x hj hx => ?_⟩
  rcases Nat.lt_or_ge j us.length with hl | hl
  · rw [List.getElem?_append_left hl] at hj
    rw [List.getElem?_append_left (by rw [← h.1]; exact hl)] at hx
    exact h.2 j u' x hj hx
  · rw [List.getElem?_append_right hl] at hj
    rw [List.getElem?_append_right (by rw [← h.1]; exact hl)] at hx
    rw [← h.1] at hx
    have h0 : j - us.length = 0 := by
      have := (List.getElem?_eq_some_iff.1 hj).1
      simpa using this
    rw [h0] at hj hx
    simp at hj hx
    subst hj hx
    exact hu
theorem imp {w' : World} {ok' : Nat → Prop} (h : TupsU w ok us xss) (hi : ∀ u x, TupAt w ok u x → TupAt w' ok' u x) : TupsU w' ok' us xss := ⟨h.1, fun j u x hj hx => hi u x (h.2 j u x hj hx)⟩
theorem ofOwn {base n : Nat} (h : TupsU w ok us xss) (ho : w.ownsRow base 75 1 v n us) (hok : ∀ k, v.ownBlock = some k → ok k) : TupsAt w ok v xss := SlAt.ofOwn ho h.1 h.2 hok
end TupsU
/-- A block of another type is none of a tuple's. -/
theorem TupAt.off (h : TupAt w ok v xs) {g t : Nat} {cells : Array Value} {fr : Nat × Nat} (hg : w.heap[g]? = some (.cells cells t fr)) (ht : t ≠ 3) : TupAt w (fun k => ok k ∧ k ≠ g) v xs := by
  rcases h with h | ⟨g', off, cap, cur, rfl, h1, h2, h3⟩
  · exact .inl h
  · refine .inr ⟨g', off, cap, cur, rfl, ⟨h1, ?_⟩, h2, h3⟩
    rintro rfl
    rw [hg] at h2
    injection h2 with h2
    injection h2 with _ h2
    exact ht h2
theorem TupAt.grown75 (h : TupAt w ok v xs) {base n : Nat} {u : Value} {us : List Value} (ho : w.ownsRow base 75 1 u n us) (hg : w.grownBy w' u.ownBlock) : TupAt w' ok v xs := by
  cases hu : u.ownBlock with
  | none => exact h.step (fun k _ hk => hg.block k hk (by rw [hu]; simp))
  | some g =>
    obtain ⟨cells, hc⟩ := own_typed ho g hu
    exact ((h.off hc (by decide)).step (fun k hk hk2 => hg.block k hk2 (by rw [hu]; simp; exact hk.2))).okmono (fun _ h _ => h.1)
theorem TupAt.alloc (h : TupAt w ok v xs) (o : Obj) : TupAt (w.alloc o) ok v xs := h.step (fun k _ hk => Below.heap_alloc _ _ _ hk)

end Go.Proofs.Ytcchcifcfcpjiaa.J
