/- span.next: what lies in the heap while edges are taken; plain lists of those behind a node. -/
import Derived.Test.YtcchcifcfcpjiaaSM
import Derived.Test.YtcchcifcfcpjiaaJL
set_option linter.unusedVariables false
set_option linter.unusedSimpArgs false
namespace Go.Proofs.Ytcchcifcfcpjiaa.J
open Go.RowKit Go.Proofs.YtcchcifcfcpjiaaW.PrintWords Go.Proofs.YtcchcifcfcpjiaaW.PrintLast Go.Proofs.YtcchcifcfcpjiaaW.PrintMore Go.Proofs.Ytcchcifcfcpjiaa.PJ

/-- To which nodes the edges of a label go from a node, in the order in which they come. -/
def outs (lab : ByteArray) (es : List S82) (a : Int) : List Int := (es.filter (fun e => decide (e.f1 = lab) && decide (e.f0 = a))).map (·.f2)
theorem outs_take (lab : ByteArray) (es : List S82) (a : Int) {k : Nat} (hk : k < es.length) : outs lab (es.take (k + 1)) a = outs lab (es.take k) a ++ (if es[k].f1 = lab ∧ es[k].f0 = a then [es[k].f2] else []) := by
  unfold outs
  rw [List.take_add_one, List.getElem?_eq_getElem hk, List.filter_append, List.map_append]
  congr 1
  by_cases h1 : es[k].f1 = lab <;> by_cases h2 : es[k].f0 = a <;> simp [h1, h2]
theorem outs_length (lab : ByteArray) (es : List S82) (a : Int) : (outs lab es a).length ≤ es.length := by
  unfold outs
  rw [List.length_map]
  exact List.length_filter_le _ _

def valOf (a : Int) (l : List (Int × Value × Nat)) : Value := (getA a l).getD (.slice none 0 0)
/-- Block M is a map that holds, for each node a, a slice of the call's own, xs a; no two share a block. -/
def Adj (base : Nat) (w : World) (M : Nat) (l : List (Int × Value × Nat)) (c : Nat) (xs : Int → List Int) : Prop :=
  MapIs (.int .i64) w M l c ∧ base ≤ M ∧ (l.map (·.1)).Nodup ∧ (∀ a, (getA a l).isSome = true ↔ xs a ≠ []) ∧
    (∀ a, w.ownsRow base 3 1 (valOf a l) (xs a).length (nums .i64 (xs a))) ∧
    (∀ a b k, a ≠ b → (valOf a l).ownBlock = some k → (valOf b l).ownBlock ≠ some k)

theorem Adj.below {base : Nat} {w w' : World} {M : Nat} {l : List (Int × Value × Nat)} {c : Nat} {xs : Int → List Int} (h : Adj base w M l c xs) (hb : Below w.heap.size w w') : Adj base w' M l c xs := by
  obtain ⟨h1, h2, h3, h4, h5, h6⟩ := h
  exact ⟨h1.step (hb.block M (Array.getElem?_eq_some_iff.1 h1.1).1), h2, h3, h4, fun a => pw_own_below (h5 a) hb, h6⟩
theorem Adj.ne {base : Nat} {w : World} {M : Nat} {l : List (Int × Value × Nat)} {c : Nat} {xs : Int → List Int} (h : Adj base w M l c xs) (a : Int) : (valOf a l).ownBlock ≠ some M := fun e => by
  obtain ⟨cells, hc⟩ := own_typed (h.2.2.2.2.1 a) M e
  rw [h.1.1] at hc
  cases hc
theorem keys_putA (k : Int) (v : Value) (c : Nat) : ∀ l : List (Int × Value × Nat), (putA k v c l).map (·.1) = if k ∈ l.map (·.1) then l.map (·.1) else l.map (·.1) ++ [k]
  | [] => by simp [putA]
  | e :: l => by
    unfold putA
    by_cases h : k = e.1
    · rw [if_pos h, if_pos (by rw [h]; simp)]
      simp
    · rw [if_neg h, List.map_cons, keys_putA k v c l]
      have hm : k ∈ (e :: l).map (·.1) ↔ k ∈ l.map (·.1) := by
        rw [List.map_cons, List.mem_cons]
        exact ⟨fun h3 => h3.elim (fun h4 => absurd h4 h) id, .inr⟩
      by_cases h2 : k ∈ l.map (·.1)
      · rw [if_pos h2, if_pos (hm.2 h2)]
        rfl
      · rw [if_neg h2, if_neg (fun h3 => h2 (hm.1 h3))]
        rfl
theorem getA_mem (k : Int) : ∀ l : List (Int × Value × Nat), (getA k l).isSome = true ↔ k ∈ l.map (·.1)
  | [] => by simp [getA_nil]
  | e :: l => by
    rw [getA_cons]
    by_cases h : k = e.1
    · rw [if_pos h, h]; simp
    · rw [if_neg h, getA_mem k l, List.map_cons, List.mem_cons]
      simp [h]
theorem nodup_putA {k : Int} {v : Value} {c : Nat} {l : List (Int × Value × Nat)} (h : (l.map (·.1)).Nodup) : ((putA k v c l).map (·.1)).Nodup := by
  rw [keys_putA]
  split
  · exact h
  · rename_i hk
    rw [List.nodup_append]
    exact ⟨h, by simp, fun a ha b hb => by rw [List.mem_singleton] at hb; subst hb; exact fun e => hk (e ▸ ha)⟩

/-- A node's slice is another one now, in its old block or a new one; all else stays. -/
theorem Adj.put {base : Nat} {w w1 w' : World} {M : Nat} {l : List (Int × Value × Nat)} {c : Nat} {xs : Int → List Int} (h : Adj base w M l c xs) {a0 : Int} {u' : Value} {ys : List Int} (hys : ys ≠ [])
    (ho : w1.ownsRow base 3 1 u' ys.length (nums .i64 ys)) (hg1 : w.grownBy w1 (valOf a0 l).ownBlock) (hat : u'.ownBlock = (valOf a0 l).ownBlock ∨ ∃ b, u'.ownBlock = some b ∧ w.heap.size ≤ b)
    (hM : MapIs (.int .i64) w' M (putA a0 u' c l) (tick a0 c l)) (hg : w1.grownBy w' (some M)) : Adj base w' M (putA a0 u' c l) (tick a0 c l) (fun a => if a = a0 then ys else xs a) := by
  have hne := h.ne
  obtain ⟨h1, h2, h3, h4, h5, h6⟩ := h
  have hv : ∀ a, valOf a (putA a0 u' c l) = if a = a0 then u' else valOf a l := fun a => by
    unfold valOf
    rw [getA_put]
    by_cases h : a = a0
    · rw [if_pos h, if_pos h]; rfl
    · rw [if_neg h, if_neg h]
  have hMlt := (Array.getElem?_eq_some_iff.1 h1.1).1
  have huM : u'.ownBlock ≠ some M := fun e => by
    rcases hat with hat | ⟨b, hb, hlt⟩
    · exact hne a0 (hat ▸ e)
    · rw [hb] at e; injection e with e; omega
  refine ⟨hM, h2, nodup_putA h3, fun a => ?_, fun a => ?_, fun a b k hab hk => ?_⟩
  · rw [getA_put]
    by_cases h : a = a0
    · simp only [if_pos h]; simp [hys]
    · simp only [if_neg h]; exact h4 a
  · rw [hv]
    by_cases h : a = a0
    · simp only [if_pos h]
      exact own_move ho (fun k hk => hg.block k (own_block_lt ho hk) (fun e => huM (by rw [hk, e])))
    · simp only [if_neg h]
      refine own_move (h5 a) (fun k hk => ?_)
      have hkl := own_block_lt (h5 a) hk
      rw [hg.block k (Nat.lt_of_lt_of_le hkl hg1.size) (fun e => hne a (by rw [hk, e])), hg1.block k hkl (fun e => h6 a a0 k h hk e.symm)]
  · rw [hv] at hk ⊢
    by_cases ha : a = a0
    · rw [if_pos ha] at hk
      rw [if_neg (fun h => hab (ha.trans h.symm))]
      intro hb
      rcases hat with hat | ⟨q, hq, hlt⟩
      · rw [hat] at hk
        exact h6 a0 b k (fun e => hab (ha.trans e)) hk hb
      · rw [hq] at hk
        injection hk with hk
        have := own_block_lt (h5 b) hb
        omega
    · rw [if_neg ha] at hk
      by_cases hb : b = a0
      · rw [if_pos hb]
        intro hu
        rcases hat with hat | ⟨q, hq, hlt⟩
        · rw [hat] at hu
          exact h6 a a0 k ha hk hu
        · rw [hq] at hu
          injection hu with hu
          have := own_block_lt (h5 a) hk
          omega
      · rw [if_neg hb]
        exact h6 a b k hab hk
theorem Adj.congr {base : Nat} {w : World} {M : Nat} {l : List (Int × Value × Nat)} {c : Nat} {xs ys : Int → List Int} (h : Adj base w M l c xs) (he : ∀ a, xs a = ys a) : Adj base w M l c ys := by
  have : xs = ys := funext he
  rw [← this]
  exact h
theorem Adj.new (w : World) : Adj w.heap.size (w.alloc (.map #[] 0)) w.heap.size [] 0 (fun _ => []) :=
  ⟨mapIs_new w _, Nat.le_refl _, by simp, fun a => by simp [getA_nil], fun a => World.ownsRow_nil _ _ _ _, fun a b k _ hk => by simp [valOf, getA_nil, Value.ownBlock] at hk⟩
end Go.Proofs.Ytcchcifcfcpjiaa.J
