/- Maps of the call's own, told by their entries: look-up, store, 'm[k]++'; keys that are numbers, strings, pairs of numbers. -/
import Derived.Test.YtcchcifcfcpjiaaJA
import Derived.Laws.StructEq
import Derived.Laws.Tables
import Derived.Laws.Cover2
import Derived.KernelRfl
set_option linter.unusedVariables false
set_option linter.unusedSimpArgs false
namespace Go.Proofs.Ytcchcifcfcpjiaa.J
open Go.RowKit Go.Proofs.YtcchcifcfcpjiaaW.PrintWords Go.Proofs.YtcchcifcfcpjiaaW.PrintLast Go.Proofs.YtcchcifcfcpjiaaW.PrintMore Go.Proofs.Ytcchcifcfcpjiaa.PJ

def findA {κ : Type} [DecidableEq κ] (k : κ) : List (κ × Value × Nat) → Nat → Option (Nat × Value)
  | [], _ => none
  | e :: l, i => if k = e.1 then some (i, e.2.1) else findA k l (i + 1)
def mkE {κ : Type} (enc : κ → Value) (e : κ × Value × Nat) : MapEntry := ⟨enc e.1, e.2.1, e.2.2⟩

/-- What is needed of a type of keys. -/
structure KeyL {κ : Type} [DecidableEq κ] (P : Program) (t : Nat) (enc : κ → Value) : Prop where
  check : ∀ (em : Bool) (k : κ) (w : World), (Instr.checkKey em 10000 t (enc k)).run P w = .ok () w
  find : ∀ (k : κ) (l : List (κ × Value × Nat)) (w : World), (Instr.findKey t (enc k) (l.map (mkE enc))).run P w = .ok (findA k l 0) w
  same : ∀ (k : κ), Instr.sameBits 10000 (enc k) (enc k) = true

theorem findNow_eq {κ : Type} [DecidableEq κ] (d : TypeDesc) (enc : κ → Value) (h : ∀ a b, Instr.sameNow d (enc a) (enc b) = some (decide (a = b))) (k : κ) : ∀ (l : List (κ × Value × Nat)) (i : Nat), Instr.findNow d (enc k) (l.map (mkE enc)) i = some (findA k l i)
  | [], i => rfl
  | e :: l, i => by
    simp only [List.map_cons, Instr.findNow, findA]
    rw [show (mkE enc e).key = enc e.1 from rfl, h]
    by_cases hk : k = e.1
    · simp [hk, mkE]
    · simp [hk, findNow_eq d enc h k l (i + 1)]
theorem check_int (em : Bool) (k : Int) (w : World) (n : Nat) : (Instr.checkKey em (n + 1) 3 (.int .i64 k)).run Try.prog w = .ok () w := by
  unfold Instr.checkKey
  simp [run_underlying Try.underlying3]
theorem check_string (em : Bool) (k : ByteArray) (w : World) (n : Nat) : (Instr.checkKey em (n + 1) 9 (.string k)).run Try.prog w = .ok () w := by
  unfold Instr.checkKey
  simp [run_underlying Try.underlying9]
theorem key_int : KeyL Try.prog 3 (Value.int .i64) where
  check em k w := check_int em k w 9999
  find k l w := by
    unfold Instr.findKey
    simp [run_underlying Try.underlying3, findNow_eq (.int .i64) (Value.int .i64) (fun a b => by simp [Instr.sameNow]; rfl) k l 0]
  same k := by
    generalize 10000 = n
    cases n <;> simp [Instr.sameBits]
theorem key_string : KeyL Try.prog 9 Value.string where
  check em k w := check_string em k w 9999
  find k l w := by
    unfold Instr.findKey
    simp [run_underlying Try.underlying9, findNow_eq .string Value.string (fun a b => by simp only [Instr.sameNow]; congr 1; rw [Bool.eq_iff_iff, decide_eq_true_eq]; exact MapKept.bytes_beq a b) k l 0]
  same k := by
    have h : (k == k) = true := (MapKept.bytes_beq k k).2 rfl
    generalize 10000 = n
    cases n <;> simp [Instr.sameBits, h]
def encP (p : Int × Int) : Value := .agg #[.int .i64 p.1, .int .i64 p.2]
theorem check_pair (em : Bool) (k : Int × Int) (w : World) (n : Nat) : (Instr.checkKey em (n + 1 + 1) 162 (encP k)).run Try.prog w = .ok () w := by
  have u3 := Try.underlying3
  have a3 := Try.isAgg3
  have z3 := Try.sizeOf3
  have c3 := fun k w => check_int em k w n
  rw [Instr.checkKey]
  unfold encP
  simp only [Sem.run_bind, run_underlying Try.underlying162, Result.andThen_ok]
  simp only [Std.Legacy.Range.forIn_eq_forIn_range', Std.Legacy.Range.size, Nat.sub_zero, Nat.add_sub_cancel, Nat.div_one, List.range'_succ, List.range'_zero, List.forIn_cons, List.forIn_nil]
  go_simp
theorem equal_pair (a b : Int × Int) (w : World) (n : Nat) : (Op.equalIn (n + 1 + 1) 162 (encP a) (encP b)).run Try.prog w = .ok (decide (a = b)) w := by
  have u3 := Try.underlying3
  have a3 := Try.isAgg3
  have z3 := Try.sizeOf3
  rw [Op.equalIn]
  unfold encP
  simp only [Sem.run_bind, run_underlying Try.underlying162, Result.andThen_ok]
  simp only [Std.Legacy.Range.forIn_eq_forIn_range', Std.Legacy.Range.size, Nat.sub_zero, Nat.add_sub_cancel, Nat.div_one, List.range'_succ, List.range'_zero, List.forIn_cons, List.forIn_nil]
  obtain ⟨a1, a2⟩ := a
  obtain ⟨b1, b2⟩ := b
  go_simp
  by_cases h1 : a1 = b1 <;> by_cases h2 : a2 = b2 <;> simp [h1, h2]
theorem findAsk_pair (k : Int × Int) : ∀ (l : List ((Int × Int) × Value × Nat)) (i : Nat) (w : World), (Instr.findAsking 162 (encP k) (l.map (mkE encP)) i).run Try.prog w = .ok (findA k l i) w
  | [], i, w => by simp [Instr.findAsking, findA]
  | e :: l, i, w => by
    have h : ∀ w, Sem.run Try.prog (Op.equal 162 (encP k) (mkE encP e).key) w = .ok (decide (k = e.1)) w := fun w => equal_pair k e.1 w 9998
    simp only [List.map_cons, Instr.findAsking, findA, Sem.run_bind, h, Result.andThen_ok]
    by_cases hk : k = e.1
    · simp [hk, mkE]
    · simp [hk, findAsk_pair k l (i + 1)]
theorem key_pair : KeyL Try.prog 162 encP where
  check em k w := check_pair em k w 9998
  find k l w := by
    unfold Instr.findKey
    simp only [Sem.run_bind, run_underlying Try.underlying162, Result.andThen_ok]
    cases l with
    | nil => simp [Instr.findNow, findA]
    | cons e l =>
      have hn : Instr.findNow (.array 2 3) (encP k) ((e :: l).map (mkE encP)) 0 = none := by simp [Instr.findNow, Instr.sameNow, encP]
      rw [hn]
      exact findAsk_pair k (e :: l) 0 w
  same k := by
    have h : ∀ n, Instr.sameBits (n + 1 + 1) (encP k) (encP k) = true := fun n => by simp [Instr.sameBits, encP]
    exact h 9998

/-! ### A map by its entries -/
/-- Block b is a map; its entries, in the order in which they came: key, value, stamp. -/
def MapIs {κ : Type} (enc : κ → Value) (w : World) (b : Nat) (l : List (κ × Value × Nat)) (clock : Nat) : Prop :=
  w.heap[b]? = some (.map (l.map (mkE enc)).toArray clock) ∧ (∀ e ∈ l, e.2.2 < clock) ∧ l.Pairwise (fun e f => e.2.2 ≠ f.2.2)
/-- What key k has. -/
def getA {κ : Type} [DecidableEq κ] (k : κ) (l : List (κ × Value × Nat)) : Option Value := (findA k l 0).map (·.2)
/-- The map with key k's value turned to v. -/
def putA {κ : Type} [DecidableEq κ] (k : κ) (v : Value) (clock : Nat) : List (κ × Value × Nat) → List (κ × Value × Nat)
  | [] => [(k, v, clock)]
  | e :: l => if k = e.1 then (e.1, v, e.2.2) :: l else e :: putA k v clock l
def tick {κ : Type} [DecidableEq κ] (k : κ) (clock : Nat) (l : List (κ × Value × Nat)) : Nat := if (getA k l).isSome then clock else clock + 1
def setB (w : World) (b : Nat) (o : Obj) : World := { w with heap := w.heap.setIfInBounds b o }
section
variable {κ : Type} [DecidableEq κ] {enc : κ → Value}
theorem findA_shift (k : κ) : ∀ (l : List (κ × Value × Nat)) (i : Nat), findA k l i = (findA k l 0).map (fun x => (x.1 + i, x.2))
  | [], i => rfl
  | e :: l, i => by
    simp only [findA]
    by_cases h : k = e.1
    · simp [h]
    · rw [if_neg h, if_neg h, findA_shift k l (i + 1), findA_shift k l (0 + 1)]
      cases findA k l 0 with
      | none => rfl
      | some x => simp; omega
theorem getA_nil (k : κ) : getA k ([] : List (κ × Value × Nat)) = none := rfl
theorem getA_cons (k : κ) (e : κ × Value × Nat) (l : List (κ × Value × Nat)) : getA k (e :: l) = if k = e.1 then some e.2.1 else getA k l := by
  unfold getA
  simp only [findA]
  by_cases h : k = e.1
  · simp [h]
  · rw [if_neg h, if_neg h, findA_shift]
    cases findA k l 0 <;> rfl
theorem getA_put (k k' : κ) (v : Value) (c : Nat) : ∀ l : List (κ × Value × Nat), getA k' (putA k v c l) = if k' = k then some v else getA k' l
  | [] => by
    simp only [putA, getA_cons, getA_nil]
  | e :: l => by
    unfold putA
    by_cases h : k = e.1
    · rw [if_pos h, getA_cons, getA_cons]
      by_cases h2 : k' = k
      · simp [h2, h]
      · rw [if_neg h2, if_neg (by rw [← h]; exact h2), if_neg (by rw [← h]; exact h2)]
    · rw [if_neg h, getA_cons, getA_cons, getA_put k k' v c l]
      by_cases h2 : k' = k
      · subst h2; simp [h]
      · simp [h2]
theorem putA_none {k : κ} {v : Value} {c : Nat} : ∀ {l : List (κ × Value × Nat)}, getA k l = none → putA k v c l = l ++ [(k, v, c)]
  | [], _ => rfl
  | e :: l, h => by
    rw [getA_cons] at h
    by_cases hk : k = e.1
    · rw [if_pos hk] at h; cases h
    · rw [if_neg hk] at h
      simp [putA, hk, putA_none h]
theorem putA_some {k : κ} {v : Value} {c : Nat} : ∀ {l : List (κ × Value × Nat)} {i : Nat} {u : Value}, findA k l 0 = some (i, u) → ∃ e, l[i]? = some e ∧ e.1 = k ∧ e.2.1 = u ∧ putA k v c l = l.set i (e.1, v, e.2.2)
  | [], _, _, h => by simp [findA] at h
  | e :: l, i, u, h => by
    simp only [findA] at h
    by_cases hk : k = e.1
    · rw [if_pos hk] at h
      obtain ⟨rfl, rfl⟩ := Prod.mk.inj (Option.some.inj h)
      exact ⟨e, rfl, hk.symm, rfl, by simp [putA, hk]⟩
    · rw [if_neg hk, findA_shift] at h
      cases hf : findA k l 0 with
      | none => rw [hf] at h; cases h
      | some x =>
        rw [hf] at h
        obtain ⟨h1, h2⟩ := Prod.mk.inj (Option.some.inj h)
        obtain ⟨f, hf1, hf2, hf3, hf4⟩ := putA_some (v := v) (c := c) (l := l) (i := x.1) (u := x.2) (by rw [hf])
        refine ⟨f, ?_, hf2, hf3.trans h2, ?_⟩
        · rw [← h1]; simpa using hf1
        · rw [← h1]; simp [putA, hk, hf4]
theorem stamps_put {k : κ} {v : Value} {c : Nat} {l : List (κ × Value × Nat)} (h1 : ∀ e ∈ l, e.2.2 < c) (h2 : l.Pairwise (fun e f => e.2.2 ≠ f.2.2)) : (∀ e ∈ putA k v c l, e.2.2 < tick k c l) ∧ (putA k v c l).Pairwise (fun e f => e.2.2 ≠ f.2.2) := by
  cases hg : findA k l 0 with
  | none =>
    have hn : getA k l = none := by simp [getA, hg]
    rw [putA_none hn]
    simp only [tick, hn, Option.isSome_none, Bool.false_eq_true, if_false]
    refine ⟨fun e he => ?_, ?_⟩
    · rcases List.mem_append.1 he with h | h
      · have := h1 e h; omega
      · rw [List.mem_singleton.1 h]; simp
    · rw [List.pairwise_append]
      refine ⟨h2, List.pairwise_singleton _ _, fun a ha b hb => ?_⟩
      rw [List.mem_singleton.1 hb]
      have := h1 a ha
      show a.2.2 ≠ c
      omega
  | some x =>
    obtain ⟨e, he1, he2, he3, he4⟩ := putA_some (v := v) (c := c) (l := l) (i := x.1) (u := x.2) (by rw [hg])
    rw [he4]
    have hs : getA k l = some x.2 := by simp [getA, hg]
    simp only [tick, hs, Option.isSome_some, if_true]
    have hi := (List.getElem?_eq_some_iff.1 he1)
    have hmap : (l.set x.1 (e.1, v, e.2.2)).map (·.2.2) = l.map (·.2.2) := by
      rw [List.map_set]
      have : (l.map (·.2.2))[x.1]? = some e.2.2 := by rw [List.getElem?_map, he1]; rfl
      apply List.ext_getElem?
      intro j
      rw [List.getElem?_set]
      by_cases hj : x.1 = j
      · subst hj
        rw [if_pos rfl, this, if_pos (by simp [hi.1])]
      · rw [if_neg hj]
    refine ⟨fun f hf => ?_, ?_⟩
    · have hm : f.2.2 ∈ (l.set x.1 (e.1, v, e.2.2)).map (·.2.2) := List.mem_map_of_mem hf
      rw [hmap] at hm
      obtain ⟨g, hg1, hg2⟩ := List.mem_map.1 hm
      rw [← hg2]
      exact h1 g hg1
    · have h3 : ((l.set x.1 (e.1, v, e.2.2)).map (·.2.2)).Pairwise (· ≠ ·) := by
        rw [hmap, List.pairwise_map]; exact h2
      rw [List.pairwise_map] at h3
      exact h3
end

section
variable {κ : Type} [DecidableEq κ] {enc : κ → Value} {P : Program} {w : World} {b t e T : Nat} {l : List (κ × Value × Nat)} {clock : Nat}
theorem setB_size (w : World) (b : Nat) (o : Obj) : (setB w b o).heap.size = w.heap.size := by simp [setB]
theorem setB_same {o o' : Obj} (h : w.heap[b]? = some o) : (setB w b o').heap[b]? = some o' := by
  have := (Array.getElem?_eq_some_iff.1 h).1
  simp [setB, Array.getElem?_setIfInBounds, this]
theorem setB_other {o : Obj} {k : Nat} (h : k ≠ b) : (setB w b o).heap[k]? = w.heap[k]? := by
  simp only [setB, Array.getElem?_setIfInBounds]
  rw [if_neg (fun h2 => h h2.symm)]
theorem setB_grown (o : Obj) : w.grownBy (setB w b o) (some b) := ⟨rfl, rfl, rfl, by rw [setB_size]; exact Nat.le_refl _, fun k _ hk => setB_other (fun h => hk (by rw [h]))⟩

theorem run_lookup_my (K : KeyL P t enc) (hT : P.underlying T = some (.map t e)) (z : Value) (hz : ∀ w, (zeroValue e).run P w = .ok z w) (hM : MapIs enc w b l clock) (k : κ) :
    (Instr.lookup T (.map (some b)) (enc k) false).run P w = .ok ((getA k l).getD z) w := by
  have hg : (getObj b).run P w = .ok (.map (l.map (mkE enc)).toArray clock) w := MapKept.run_getObj_map hM.1
  have hf := K.find k l w
  unfold Instr.lookup
  simp only [Sem.run_bind, run_underlying hT, Result.andThen_ok, hg, Sem.run_pure, K.check, hf]
  unfold getA
  cases findA k l 0 with
  | none => simp [hz]
  | some x => simp
theorem run_mapUpdate_my (K : KeyL P t enc) (hT : P.underlying T = some (.map t e)) (hM : MapIs enc w b l clock) (k : κ) (v : Value) :
    (Instr.mapUpdate T (.map (some b)) (enc k) v).run P w = .ok () (setB w b (.map ((putA k v clock l).map (mkE enc)).toArray (tick k clock l))) := by
  have hg : (getObj b).run P w = .ok (.map (l.map (mkE enc)).toArray clock) w := MapKept.run_getObj_map hM.1
  have hf := K.find k l w
  unfold Instr.mapUpdate
  simp only [Sem.run_bind, run_underlying hT, Result.andThen_ok, hg, Sem.run_pure, K.check, hf]
  cases hfa : findA k l 0 with
  | none =>
    have hn : getA k l = none := by simp [getA, hfa]
    simp only [tick, hn, Option.isSome_none, Bool.false_eq_true, if_false, putA_none hn]
    rw [MapKept.run_setObj_map _ hM.1]
    simp [setB, mkE]
  | some x =>
    obtain ⟨f, hf1, hf2, hf3, hf4⟩ := putA_some (v := v) (c := clock) (l := l) (i := x.1) (u := x.2) (by rw [hfa])
    have hs : getA k l = some x.2 := by simp [getA, hfa]
    have hlt := (List.getElem?_eq_some_iff.1 hf1).1
    have hkey : ((((l.map (mkE enc)).toArray[x.1]?).map (·.key)).getD (enc k)) = enc k := by
      simp [hf1, mkE, hf2]
    simp only [hkey, Instr.keyThatStays, K.same, if_true, Sem.run_bind, Sem.run_pure, Result.andThen_ok, tick, hs, Option.isSome_some, hf4]
    rw [MapKept.run_setObj_map _ hM.1]
    congr 1
    unfold setB
    congr 2
    congr 1
    apply Array.ext'
    rw [Array.toList_modify]
    apply List.ext_getElem?
    intro j
    show _ = (List.map (mkE enc) (l.set x.1 (f.1, v, f.2.2)))[j]?
    rw [List.getElem?_modify, List.getElem?_map, List.getElem?_map, List.getElem?_set]
    by_cases hj : x.1 = j
    · subst hj
      rw [if_pos rfl, if_pos hlt, hf1]
      simp [mkE, hf2]
    · rw [if_neg hj]
      cases l[j]? <;> simp [hj]
/-- The stamp of key k's entry. -/
def stampOf (k : κ) (l : List (κ × Value × Nat)) : Nat := ((l.find? (fun e => decide (k = e.1))).map (·.2.2)).getD 0
theorem mapIs_put (hM : MapIs enc w b l clock) (k : κ) (v : Value) : MapIs enc (setB w b (.map ((putA k v clock l).map (mkE enc)).toArray (tick k clock l))) b (putA k v clock l) (tick k clock l) :=
  ⟨setB_same hM.1, (stamps_put hM.2.1 hM.2.2).1, (stamps_put hM.2.1 hM.2.2).2⟩
omit [DecidableEq κ] in
theorem MapIs.step {w' : World} (hM : MapIs enc w b l clock) (h : w'.heap[b]? = w.heap[b]?) : MapIs enc w' b l clock := ⟨h.trans hM.1, hM.2⟩
omit [DecidableEq κ] in
theorem mapIs_new (w : World) (enc : κ → Value) : MapIs enc (w.alloc (.map #[] 0)) w.heap.size [] 0 := ⟨heap_alloc_new w _, by simp, List.Pairwise.nil⟩

/-- At the operations, for the walk. -/
theorem wpList_lookup_my {ops : Array Oper} {rest : List Oper} {o : Oper} {a : Act} {Q : Exit → Act → World → Prop} (hg : o.guard = none) (m x : Operand) (hop : o.op = Op.lookup T m x false)
    (K : KeyL P t enc) (hT : P.underlying T = some (.map t e)) (z : Value) (hz : ∀ w, (zeroValue e).run P w = .ok z w) (hm : a.eval m = .map (some b)) (hM : MapIs enc w b l clock) (k : κ) (hx : a.eval x = enc k)
    (hK : wpList P ops Q rest (a.put o.dst ((getA k l).getD z)) w) : wpList P ops Q (o :: rest) a w := by
  refine wpList_plain hg fun K' hK' => ?_
  have hrun := run_lookup_my K hT z hz hM k
  unfold Oper.wp
  simp [execOp, hop, hm, hx, hrun, Result.andThen]
  exact hK' _ _ hK
theorem wpList_mapUpdate_my {ops : Array Oper} {rest : List Oper} {o : Oper} {a : Act} {Q : Exit → Act → World → Prop} (hg : o.guard = none) (m x v : Operand) (hop : o.op = Op.mapUpdate T m x v)
    (K : KeyL P t enc) (hT : P.underlying T = some (.map t e)) (hm : a.eval m = .map (some b)) (hM : MapIs enc w b l clock) (k : κ) (val : Value) (hx : a.eval x = enc k) (hv : a.eval v = val)
    (hK : ∀ w', MapIs enc w' b (putA k val clock l) (tick k clock l) → w.grownBy w' (some b) → w'.heap.size = w.heap.size → wpList P ops Q rest (a.put o.dst undef) w') : wpList P ops Q (o :: rest) a w := by
  refine wpList_plain hg fun K' hK' => ?_
  have hrun := run_mapUpdate_my K hT hM k val
  unfold Oper.wp
  simp [execOp, hop, hm, hx, hv, hrun, Result.andThen]
  exact hK' _ _ (hK _ (mapIs_put hM k val) (setB_grown _) (setB_size _ _ _))
end
end Go.Proofs.Ytcchcifcfcpjiaa.J
