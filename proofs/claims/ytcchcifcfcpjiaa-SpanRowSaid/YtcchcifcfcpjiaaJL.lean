/- join.byLabel: what lies in the heap, told by whom each block belongs to. -/
import Derived.Test.YtcchcifcfcpjiaaJX
import Derived.Test.YtcchcifcfcpjiaaJN
set_option linter.unusedVariables false
set_option linter.unusedSimpArgs false
namespace Go.Proofs.Ytcchcifcfcpjiaa.J
open Go.RowKit Go.Proofs.YtcchcifcfcpjiaaW.PrintWords Go.Proofs.YtcchcifcfcpjiaaW.PrintLast Go.Proofs.YtcchcifcfcpjiaaW.PrintMore Go.Proofs.Ytcchcifcfcpjiaa.PJ

/-- Whose a block is: a label's, and there which. -/
abbrev Role := ByteArray × Nat × Int
def addP (ps : List (Int × Int)) (q : Int × Int) : List (Int × Int) := if q ∈ ps then ps else ps ++ [q]
def pairStep (l : ByteArray) (ps : List (Int × Int)) (e : S82) : List (Int × Int) := if e.f1 = l then addP ps (e.f0, e.f2) else ps
/-- A label's edges, once each. -/
def pairsOf (es : List S82) (l : ByteArray) : List (Int × Int) := es.foldl (pairStep l) []
theorem pairsOf_snoc (es : List S82) (e : S82) (l : ByteArray) : pairsOf (es ++ [e]) l = pairStep l (pairsOf es l) e := by simp [pairsOf]
theorem pairsOf_take (es : List S82) (l : ByteArray) {k : Nat} (hk : k < es.length) : pairsOf (es.take (k + 1)) l = pairStep l (pairsOf (es.take k) l) es[k] := by
  rw [List.take_add_one, List.getElem?_eq_getElem hk]
  exact pairsOf_snoc _ _ _
theorem pairStep_length (l : ByteArray) (ps : List (Int × Int)) (e : S82) : (pairStep l ps e).length ≤ ps.length + 1 := by
  unfold pairStep addP
  split
  · split
    · omega
    · rw [List.length_append, List.length_singleton]; omega
  · omega
theorem pairsOf_length (es : List S82) (l : ByteArray) : (pairsOf es l).length ≤ es.length := by
  have : ∀ (es : List S82) (acc : List (Int × Int)), (es.foldl (pairStep l) acc).length ≤ acc.length + es.length := by
    intro es
    induction es with
    | nil => intro acc; simp
    | cons e es ih =>
      intro acc
      have h1 := ih (pairStep l acc e)
      have h2 := pairStep_length l acc e
      simp only [List.foldl_cons, List.length_cons] at *
      omega
  simpa [pairsOf] using this es []

/-- A label's index at block p; each of its blocks is marked. -/
def Lab (w : World) (tg : Nat → Option Role) (l : ByteArray) (p : Nat) (ps : List (Int × Int)) (m : Nat) : Prop :=
  ∃ bf v bh lf cf lh ch, tg p = some (l, 0, 0) ∧ w.heap[p]? = some (.cells #[.map (some bf), v, .map (some bh)] 161 (0, 0)) ∧
    (∀ k, v.ownBlock = some k → tg k = some (l, 3, 0)) ∧ w.ownsRow 0 162 2 v ps.length (flatP ps) ∧
    tg bf = some (l, 1, 0) ∧ MapIs (.int .i64) w bf lf cf ∧
    (∀ a, ∃ u, (getA a lf).getD (.slice none 0 0) = u ∧ (∀ k, u.ownBlock = some k → tg k = some (l, 4, a)) ∧ w.ownsRow 0 3 1 u (froms ps a).length (nums .i64 (froms ps a))) ∧
    tg bh = some (l, 2, 0) ∧ MapIs encP w bh lh ch ∧ (∀ q, ∃ c : Nat, (getA q lh).getD (.int .i64 0) = .int .i64 c ∧ (c = 0 ↔ q ∉ ps) ∧ c ≤ m)

theorem Lab.ix {w : World} {tg : Nat → Option Role} {l : ByteArray} {p : Nat} {ps : List (Int × Int)} {m : Nat} (h : Lab w tg l p ps m) : IxAt w p ps := by
  obtain ⟨bf, v, bh, lf, cf, lh, ch, h1, h2, h3, h4, h5, h6, h7, h8, h9, h10⟩ := h
  refine ⟨bf, v, bh, lf, cf, lh, ch, h2, h4, h6, fun a => ?_, h9, fun q => ?_⟩
  · obtain ⟨u, g1, g2, g3⟩ := h7 a
    exact ⟨u, g1, g3⟩
  · obtain ⟨c, g1, g2, g3⟩ := h10 q
    exact ⟨c, g1, by rw [← g2]; omega⟩

theorem own_block_lt {w : World} {base n e size : Nat} {v : Value} {xs : List Value} (h : w.ownsRow base e size v n xs) {k : Nat} (hk : v.ownBlock = some k) : k < w.heap.size := (h.lt k hk).2

theorem Lab.step {w w' : World} {tg tg' : Nat → Option Role} {l : ByteArray} {p : Nat} {ps : List (Int × Int)} {m m' : Nat} (h : Lab w tg l p ps m)
    (hw : ∀ k r, tg k = some r → r.1 = l → k < w.heap.size → w'.heap[k]? = w.heap[k]?) (ht : ∀ k r, tg k = some r → tg' k = some r) (hm : m ≤ m') : Lab w' tg' l p ps m' := by
  obtain ⟨bf, v, bh, lf, cf, lh, ch, h1, h2, h3, h4, h5, h6, h7, h8, h9, h10⟩ := h
  have lt := fun {k : Nat} {o : Obj} (hk : w.heap[k]? = some o) => (Array.getElem?_eq_some_iff.1 hk).1
  refine ⟨bf, v, bh, lf, cf, lh, ch, ht _ _ h1, (hw p _ h1 rfl (lt h2)).trans h2, fun k hk => ht _ _ (h3 k hk), own_move h4 (fun k hk => hw k _ (h3 k hk) rfl (own_block_lt h4 hk)), ht _ _ h5, h6.step (hw bf _ h5 rfl (lt h6.1)), fun a => ?_, ht _ _ h8, h9.step (hw bh _ h8 rfl (lt h9.1)), fun q => ?_⟩
  · obtain ⟨u, g1, g2, g3⟩ := h7 a
    exact ⟨u, g1, fun k hk => ht _ _ (g2 k hk), own_move g3 (fun k hk => hw k _ (g2 k hk) rfl (own_block_lt g3 hk))⟩
  · obtain ⟨c, g1, g2, g3⟩ := h10 q
    exact ⟨c, g1, g2, Nat.le_trans g3 hm⟩

/-- The state of byLabel when k edges have been taken. -/
def LS (w0 w : World) (M : Nat) (es : List S82) (k : Nat) (lM : List (ByteArray × Value × Nat)) (cM : Nat) (tg : Nat → Option Role) : Prop :=
  Below w0.heap.size w0 w ∧ w0.heap.size ≤ M ∧ tg M = none ∧ MapIs .string w M lM cM ∧ (∀ j r, tg j = some r → w0.heap.size ≤ j ∧ j < w.heap.size) ∧
    ∀ l, (getA l lM = none ∧ pairsOf (es.take k) l = []) ∨ ∃ p, getA l lM = some (.pointer (some ⟨p, 0, none⟩)) ∧ Lab w tg l p (pairsOf (es.take k) l) k

theorem LS.below {w0 w w' : World} {M : Nat} {es : List S82} {k : Nat} {lM : List (ByteArray × Value × Nat)} {cM : Nat} {tg : Nat → Option Role} (h : LS w0 w M es k lM cM tg) (hb : Below w.heap.size w w') : LS w0 w' M es k lM cM tg := by
  obtain ⟨h1, h2, h3, h4, h5, h6⟩ := h
  refine ⟨h1.trans (hb.mono h1.size), h2, h3, h4.step (hb.block M (Array.getElem?_eq_some_iff.1 h4.1).1), fun j r hj => ⟨(h5 j r hj).1, Nat.lt_of_lt_of_le (h5 j r hj).2 hb.size⟩, fun l => ?_⟩
  rcases h6 l with h | ⟨p, g1, g2⟩
  · exact .inl h
  · exact .inr ⟨p, g1, g2.step (fun k _ _ _ hk => hb.block k hk) (fun _ _ h => h) (Nat.le_refl _)⟩

/-- A label's first edge: its index is made. -/
theorem LS.fresh {w0 w w1 w' : World} {M : Nat} {es : List S82} {k : Nat} {lM : List (ByteArray × Value × Nat)} {cM : Nat} {tg : Nat → Option Role} (h : LS w0 w M es k lM cM tg) {l : ByteArray} (hl : getA l lM = none)
    {bf bh p : Nat} (hb : Below w.heap.size w w1) (hbf : w.heap.size ≤ bf) (hbh : w.heap.size ≤ bh) (hp : w.heap.size ≤ p) (hne1 : bf ≠ bh) (hne2 : bf ≠ p) (hne3 : bh ≠ p)
    (m1 : MapIs (.int .i64) w1 bf [] 0) (m2 : MapIs encP w1 bh [] 0) (hpc : w1.heap[p]? = some (.cells #[.map (some bf), .slice none 0 0, .map (some bh)] 161 (0, 0)))
    (hM : MapIs .string w' M (putA l (.pointer (some ⟨p, 0, none⟩)) cM lM) (tick l cM lM)) (hg : w1.grownBy w' (some M)) :
    ∃ tg', LS w0 w' M es k (putA l (.pointer (some ⟨p, 0, none⟩)) cM lM) (tick l cM lM) tg' ∧ (∀ j r, tg j = some r → tg' j = some r) := by
  obtain ⟨h1, h2, h3, h4, h5, h6⟩ := h
  have hMlt := (Array.getElem?_eq_some_iff.1 h4.1).1
  have lt := fun {w : World} {k : Nat} {o : Obj} (hk : w.heap[k]? = some o) => (Array.getElem?_eq_some_iff.1 hk).1
  have hsz := hg.size
  have hb1 := lt m1.1
  have hb2 := lt m2.1
  have hb3 := lt hpc
  have hold : ∀ j r, tg j = some r → j ≠ p ∧ j ≠ bf ∧ j ≠ bh ∧ j ≠ M := fun j r hj => by
    have := h5 j r hj
    refine ⟨by omega, by omega, by omega, fun e => ?_⟩
    rw [e, h3] at hj
    cases hj
  let tg' : Nat → Option Role := fun j => if j = p then some (l, 0, 0) else if j = bf then some (l, 1, 0) else if j = bh then some (l, 2, 0) else tg j
  have t0 : ∀ j r, tg j = some r → tg' j = some r := fun j r hj => by
    obtain ⟨a1, a2, a3, _⟩ := hold j r hj
    simp only [tg', if_neg a1, if_neg a2, if_neg a3]
    exact hj
  refine ⟨tg', ⟨(h1.trans (hb.mono h1.size)).trans ?_, h2, ?_, hM, ?_, fun l' => ?_⟩, t0⟩
  · exact ⟨hg.os, hg.tape, hg.output, hg.size, fun j hj => hg.block j (by have := hb.size; have := h1.size; omega) (fun e => by injection e with e; omega)⟩
  · show tg' M = none
    have e1 : M ≠ p := by omega
    have e2 : M ≠ bf := by omega
    have e3 : M ≠ bh := by omega
    simp only [tg', if_neg e1, if_neg e2, if_neg e3]
    exact h3
  · intro j r hj
    have hw := h1.size
    have hbs := hb.size
    simp only [tg'] at hj
    split at hj
    · omega
    · split at hj
      · omega
      · split at hj
        · omega
        · have := h5 j r hj
          omega
  · rw [getA_put]
    by_cases hll : l' = l
    · subst hll
      rw [if_pos rfl]
      right
      have hps : pairsOf (es.take k) l' = [] := by
        rcases h6 l' with h | ⟨p, g1, _⟩
        · exact h.2
        · rw [hl] at g1; cases g1
      rw [hps]
      have hgm : ∀ j, j < w1.heap.size → j ≠ M → w'.heap[j]? = w1.heap[j]? := fun j hj hne => hg.block j hj (fun e => by injection e with e; exact hne e)
      refine ⟨p, rfl, bf, .slice none 0 0, bh, [], 0, [], 0, by simp [tg'], (hgm p hb3 (by omega)).trans hpc, fun k hk => by simp [Value.ownBlock] at hk, World.ownsRow_nil _ _ _ _, by simp [tg', hne2], m1.step (hgm bf hb1 (by omega)), fun a => ⟨.slice none 0 0, rfl, fun k hk => by simp [Value.ownBlock] at hk, World.ownsRow_nil _ _ _ _⟩, by simp [tg', hne3, Ne.symm hne1], m2.step (hgm bh hb2 (by omega)), fun q => ⟨0, rfl, by simp, Nat.zero_le _⟩⟩
    · rw [if_neg hll]
      rcases h6 l' with h | ⟨p', g1, g2⟩
      · exact .inl h
      · refine .inr ⟨p', g1, g2.step (fun j r hj _ hjl => ?_) t0 (Nat.le_refl _)⟩
        rw [hg.block j (by have := hb.size; omega) (fun e => by injection e with e; exact (hold j r hj).2.2.2 e)]
        exact hb.block j hjl

/-- An edge more. -/
theorem LS.next {w0 w w' : World} {M : Nat} {es : List S82} {k : Nat} {lM : List (ByteArray × Value × Nat)} {cM : Nat} {tg tg' : Nat → Option Role} (h : LS w0 w M es k lM cM tg) (hk : k < es.length) {l : ByteArray} (hl : es[k].f1 = l) {p : Nat}
    (hp : getA l lM = some (.pointer (some ⟨p, 0, none⟩))) (hb : Below w0.heap.size w0 w') (hsz : w.heap.size ≤ w'.heap.size) (hch : ∀ j, j < w.heap.size → (∀ r, tg j = some r → r.1 ≠ l) → w'.heap[j]? = w.heap[j]?)
    (ht : ∀ j r, tg j = some r → tg' j = some r) (ht2 : ∀ j r, tg' j = some r → tg j = some r ∨ (w.heap.size ≤ j ∧ j < w'.heap.size)) (hlab : Lab w' tg' l p (pairsOf (es.take (k + 1)) l) (k + 1)) : LS w0 w' M es (k + 1) lM cM tg' := by
  obtain ⟨h1, h2, h3, h4, h5, h6⟩ := h
  have hMlt := (Array.getElem?_eq_some_iff.1 h4.1).1
  have hw := h1.size
  refine ⟨hb, h2, ?_, h4.step (hch M hMlt (fun r hr => by rw [h3] at hr; cases hr)), ?_, fun l' => ?_⟩
  · cases ht' : tg' M with
    | none => rfl
    | some r =>
      rcases ht2 M r ht' with h | h
      · rw [h3] at h; cases h
      · omega
  · intro j r hj
    rcases ht2 j r hj with h | h
    · have := h5 j r h
      omega
    · omega
  · by_cases hll : l' = l
    · subst hll
      exact .inr ⟨p, hp, hlab⟩
    · have hps : pairsOf (es.take (k + 1)) l' = pairsOf (es.take k) l' := by
        rw [pairsOf_take es l' hk, pairStep, if_neg (by rw [hl]; exact fun e => hll e.symm)]
      rw [hps]
      rcases h6 l' with h | ⟨p', g1, g2⟩
      · exact .inl h
      · exact .inr ⟨p', g1, g2.step (fun j r hj hr hjl => hch j hjl (fun r' hr' => by rw [hj] at hr'; injection hr' with hr'; rw [← hr', hr]; exact hll)) ht (by omega)⟩
end Go.Proofs.Ytcchcifcfcpjiaa.J
