/- A queue of whole numbers (a slice that moves on), a look-up that tells whether the key is there: lemmas for span.Way. -/
import Derived.Test.YtcchcifcfcpjiaaJB
import Derived.Test.YtcchcifcfcpjiaaJN
import Derived.ArgAppend
set_option linter.unusedVariables false
set_option linter.unusedSimpArgs false
namespace Go.Proofs.Ytcchcifcfcpjiaa.J
open Go.RowKit Go.Proofs.YtcchcifcfcpjiaaW.PrintWords Go.Proofs.YtcchcifcfcpjiaaW.PrintLast Go.Proofs.YtcchcifcfcpjiaaW.PrintMore Go.Proofs.Ytcchcifcfcpjiaa.PJ

section
variable {κ : Type} [DecidableEq κ] {enc : κ → Value} {P : Program} {w : World} {b t e T : Nat} {l : List (κ × Value × Nat)} {clock : Nat}
theorem run_lookupOk_my (K : KeyL P t enc) (hT : P.underlying T = some (.map t e)) (z : Value) (hz : ∀ w, (zeroValue e).run P w = .ok z w) (hM : MapIs enc w b l clock) (k : κ) :
    (Instr.lookup T (.map (some b)) (enc k) true).run P w = .ok (.tuple #[(getA k l).getD z, .bool (getA k l).isSome]) w := by
  have hg : (getObj b).run P w = .ok (.map (l.map (mkE enc)).toArray clock) w := MapKept.run_getObj_map hM.1
  have hf := K.find k l w
  unfold Instr.lookup
  simp only [Sem.run_bind, run_underlying hT, Result.andThen_ok, hg, Sem.run_pure, K.check, hf]
  unfold getA
  cases findA k l 0 with
  | none => simp [hz]
  | some x => simp
end

/-- A map from nodes to nodes. -/
def Pre (w : World) (R : Nat) (l : List (Int × Value × Nat)) (c : Nat) (pre : Int → Option Int) : Prop :=
  MapIs (.int .i64) w R l c ∧ ∀ b, getA b l = (pre b).map (.int .i64)
theorem Pre.step {w w' : World} {R : Nat} {l : List (Int × Value × Nat)} {c : Nat} {pre : Int → Option Int} (h : Pre w R l c pre) (hb : w'.heap[R]? = w.heap[R]?) : Pre w' R l c pre := ⟨h.1.step hb, h.2⟩
theorem Pre.new (w : World) : Pre (w.alloc (.map #[] 0)) w.heap.size [] 0 (fun _ => none) := ⟨mapIs_new w _, fun b => by simp [getA_nil]⟩
theorem Pre.put {w' : World} {R : Nat} {l : List (Int × Value × Nat)} {c : Nat} {pre : Int → Option Int} {w : World} (h : Pre w R l c pre) {m n : Int} (hM : MapIs (.int .i64) w' R (putA m (.int .i64 n) c l) (tick m c l)) : Pre w' R (putA m (.int .i64 n) c l) (tick m c l) (fun x => if x = m then some n else pre x) := by
  refine ⟨hM, fun b => ?_⟩
  rw [getA_put]
  by_cases hb : b = m
  · subst hb; simp
  · simp only [if_neg hb]; exact h.2 b

section
variable {w : World} {base : Nat} {v : Value} {xs : List Int}
/-- The first one off. -/
theorem tup_tail {ok : Nat → Prop} {A : Option Addr} {n c : Nat} {x : Int} (h : TupAt w ok (.slice A n c) (x :: xs)) : TupAt w ok (sliced A 1 n c 1) xs := by
  rcases h with ⟨h1, h2⟩ | ⟨g, off, cap, cur, h1, h2, h3, h4, h5, h6, h7⟩
  · cases h2
  · injection h1 with h1 h1n h1c
    subst h1 h1n h1c
    rw [List.length_cons] at h4 ⊢
    by_cases hc : c = 1
    · subst hc
      have hx : xs = [] := List.eq_nil_of_length_eq_zero (by omega)
      subst hx
      exact .inr ⟨g, off, 0, cur, by simp [sliced], h2, h3, by simp, by decide, by omega, fun j x hj => by simp at hj⟩
    · refine .inr ⟨g, off + 1, c - 1, cur, ?_, h2, h3, by omega, by omega, by omega, fun j y hj => ?_⟩
      · simp [sliced, hc, Addr.add]
      · obtain ⟨u, hu, hr⟩ := h7 (j + 1) y (by rw [List.getElem?_cons_succ]; exact hj)
        exact ⟨u, by rw [← hu]; congr 1; omega, hr⟩
theorem sliced_at (A : Option Addr) (n c : Nat) : ∃ A' c', sliced A 1 n c 1 = .slice A' (n - 1) c' := ⟨_, _, rfl⟩

theorem setCells_one (w : World) (b o : Nat) (v : Value) : w.setCells b o [v] = w.setCell ⟨b, o, none⟩ v := rfl
theorem box_set' {w : World} {B t o : Nat} {cur : Array Value} {fr : Nat × Nat} (h : w.heap[B]? = some (.cells cur t fr)) (u : Value) : (w.setCell ⟨B, o, none⟩ u).heap[B]? = some (.cells (cur.setIfInBounds o u) t fr) := by
  simp [World.setCell, Array.getElem?_modify, h]

/-- One number more. -/
theorem run_append_tup (hT : TupAt w (base ≤ ·) v xs) (ty : TypeId) (ad : Addr) (c : Nat) (n : Int) (hn : w.cell? ad = some (.int .i64 n)) (hl : xs.length ≤ 1000000) (hb : base ≤ w.heap.size) :
    ∃ v' w', (Builtin.append_ #[66, 66] ty #[v, .slice (some ad) 1 c]).run Try.prog w = .ok v' w' ∧ TupAt w' (base ≤ ·) v' (xs ++ [n]) ∧ Below base w w' := by
  obtain ⟨i, hi, hz, hsz, hby⟩ := info_parts info3
  have hnews : ∀ (j : Nat) (u : Value), [Value.int .i64 n][j]? = some u → w.cell? (ad.add j) = some u := fun j u hj => by
    cases j with
    | zero =>
      simp at hj
      subst hj
      have : ad.add 0 = ad := by cases ad; simp [Addr.add]
      rw [this]; exact hn
    | succ j => simp at hj
  have h1 : ∀ u ∈ [Value.int .i64 n], u.oneCell' = true := fun u hu => by rw [List.mem_singleton.1 hu]; rfl
  rcases hT with ⟨rfl, rfl⟩ | ⟨g, off, cap, cur, rfl, hg, hh, hlc, hm, hs, hx⟩
  · obtain ⟨v', w', hr, ho, hgr, _⟩ := run_append_own (P := Try.prog) w base 66 ty 3 i (.int .i64 0) 1 8 Try.underlying66 hi hz hsz hby rfl (by decide) (.slice none 0 0) 0 [] (World.ownsRow_nil _ _ _ _) ad 1 c [.int .i64 n] rfl hnews h1 (by decide) (by decide) hb
    refine ⟨v', w', hr, tup_ofOwn (base := base) (by simpa [nums] using ho) (fun k hk => own_base ho k hk), ?_⟩
    exact (Below.refl _ _).grown hgr hb (fun k hk => by simp [Value.ownBlock] at hk)
  · by_cases hroom : xs.length + 1 ≤ cap
    · have hcs : ∀ j, j < cap → (w.cell? ⟨g, off + j, none⟩).isSome = true ∧ w.frozen? ⟨g, off + j, none⟩ = false := fun j hj => by
        refine ⟨?_, ?_⟩
        · simp only [World.cell?, hh]
          rw [Array.getElem?_eq_getElem (by omega : off + j < cur.size)]
          rfl
        · simp [World.frozen?, hh]
      have hr := run_append_room_cells (P := Try.prog) w 66 ty 3 i Try.underlying66 hi g off xs.length cap ad 1 c [.int .i64 n] (by simp [hsz]) hnews h1 hroom
        (fun j hj => by simp only [List.length_singleton] at hj; rw [hsz, show off + xs.length * 1 + j = off + xs.length by omega]; exact (hcs _ (by omega)).1)
        (fun j hj => by simp only [List.length_singleton] at hj; rw [hsz, show off + xs.length * 1 + j = off + xs.length by omega]; exact (hcs _ (by omega)).2)
      rw [hsz, Nat.mul_one, setCells_one] at hr
      refine ⟨_, _, hr, .inr ⟨g, off, cap, cur.setIfInBounds (off + xs.length) (.int .i64 n), by simp, hg, box_set' hh _, by simp; omega, hm, by simp; omega, fun j x hj => ?_⟩, (Below.refl _ _).setCell hg _⟩
      rw [List.getElem?_append] at hj
      by_cases hjl : j < xs.length
      · rw [if_pos hjl] at hj
        obtain ⟨u, hu, hr⟩ := hx j x hj
        refine ⟨u, ?_, hr⟩
        rw [Array.getElem?_setIfInBounds, if_neg (by omega)]
        exact hu
      · rw [if_neg hjl] at hj
        have hj0 : j - xs.length = 0 := by
          rcases Nat.eq_zero_or_pos (j - xs.length) with h0 | h0
          · exact h0
          · rw [List.getElem?_eq_none (by simp; omega)] at hj; cases hj
        rw [hj0] at hj
        simp at hj
        subst hj
        refine ⟨.int .i64 n, ?_, rfl⟩
        rw [Array.getElem?_setIfInBounds, if_pos (by omega), if_pos (by omega)]
    · have holds : ∀ j u, (nums .i64 xs)[j]? = some u → w.cell? ((⟨g, off, none⟩ : Addr).add j) = some u := fun j u hj => by
        simp only [nums, List.getElem?_map] at hj
        obtain ⟨x, hx1, rfl⟩ := Option.map_eq_some_iff.1 hj
        obtain ⟨u, hu, hr⟩ := hx j x hx1
        rw [hr] at hu
        rw [Addr.add_lit]
        simp [World.cell?, hh, hu]
      obtain ⟨v', w', hr, ho, hgr⟩ := run_append_arg_grows (P := Try.prog) w 66 ty 3 i (.int .i64 0) 1 8 Try.underlying66 hi hz hsz hby rfl (by decide) ⟨g, off, none⟩ xs.length cap (nums .i64 xs) (by simp [nums]) holds ad 1 c [.int .i64 n] rfl hnews (by omega) (by simp only [maxLen]; omega) (by omega)
      refine ⟨v', w', hr, tup_ofOwn (base := w.heap.size) ?_ (fun k hk => Nat.le_trans hb (own_base ho k hk)), (Below.refl _ _).grown hgr hb (fun k hk => by cases hk)⟩
      have : nums .i64 (xs ++ [n]) = nums .i64 xs ++ [.int .i64 n] := by simp [nums]
      rw [this, List.length_append]
      exact ho
/-- .. at the operation. -/
theorem wpList_append_tup {ops : Array Oper} {rest : List Oper} {o : Oper} {a : Act} {Q : Exit → Act → World → Prop} (hgd : o.guard = none) (s x : Operand)
    (ho : o.op = .call { callee := .builtin .append, args := #[s, x], argTypes := #[66, 66] }) (hs : a.eval s = v) (hT : TupAt w (base ≤ ·) v xs) (ad : Addr) (c : Nat) (n : Int) (hx : a.eval x = .slice (some ad) 1 c)
    (hn : w.cell? ad = some (.int .i64 n)) (hl : xs.length ≤ 1000000) (hb : base ≤ w.heap.size)
    (h : ∀ v' w', TupAt w' (base ≤ ·) v' (xs ++ [n]) → Below base w w' → wpList Try.prog ops Q rest (a.put o.dst v') w') : wpList Try.prog ops Q (o :: rest) a w := by
  refine wpList_plain hgd fun K hK => ?_
  obtain ⟨v', w', hr, h1, h2⟩ := run_append_tup hT o.type ad c n hn hl hb
  unfold Oper.wp execOp
  simp only [ho, resolve, invoke, builtin, Sem.run_bind, Sem.run_pure, Result.andThen_ok, List.map_toArray, List.map_cons, List.map_nil, hs, hx, hr]
  exact hK _ _ (h v' w' h1 h2)
end
end Go.Proofs.Ytcchcifcfcpjiaa.J
