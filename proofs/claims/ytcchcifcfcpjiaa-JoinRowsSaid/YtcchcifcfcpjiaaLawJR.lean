/- For every view and every edges the law JoinRows returns true, and its arguments read afterwards as they did before. Conditions: none. The law JoinRows: the walk. Tuples whose numbers are turned, and that are appended to: what stays. -/
import Derived.Test.YtcchcifcfcpjiaaJB
import Derived.ArgAppend
import Derived.Test.YtcchcifcfcpjiaaKB
import Derived.Test.YtcchcifcfcpjiaaKS
import Derived.Test.YtcchcifcfcpjiaaPKs
import Derived.Test.YtcchcifcfcpjiaaRows
import Derived.Test.YtcchcifcfcpjiaaRO
import Derived.WalkKit
import Derived.ProofKit
import Derived.OpenShut
import Derived.ShutString
import Derived.ChangeOld
import Derived.Below
import Derived.SizedLaws
set_option linter.unusedVariables false
set_option linter.unusedSimpArgs false
namespace Go.Proofs.Ytcchcifcfcpjiaa.J
open Go.RowKit Go.Proofs.YtcchcifcfcpjiaaW.PrintWords Go.Proofs.YtcchcifcfcpjiaaW.PrintLast Go.Proofs.YtcchcifcfcpjiaaW.PrintMore Go.Proofs.Ytcchcifcfcpjiaa.PJ

/-- A tuple of n numbers, whatever they are. -/
def TZ (w : World) (ok : Nat → Prop) (u : Value) (n : Nat) : Prop := ∃ xs : List Int, xs.length = n ∧ TupAt w ok u xs
/-- Tuples of so many numbers. -/
def TsZ (w : World) (ok : Nat → Prop) (v : Value) (ns : List Nat) : Prop := SlAt w ok 75 (fun u n => TZ w ok u n) v ns
theorem TZ.step {w w' : World} {ok : Nat → Prop} {u : Value} {n : Nat} (h : TZ w ok u n) (hm : ∀ k, ok k → k < w.heap.size → w'.heap[k]? = w.heap[k]?) : TZ w' ok u n := by
  obtain ⟨xs, h1, h2⟩ := h
  exact ⟨xs, h1, h2.step hm⟩
theorem TsZ.step {w w' : World} {ok : Nat → Prop} {v : Value} {ns : List Nat} (h : TsZ w ok v ns) (hm : ∀ k, ok k → k < w.heap.size → w'.heap[k]? = w.heap[k]?) : TsZ w' ok v ns := (SlAt.step h hm).imp (fun _ _ _ hu => hu.step hm)
theorem TsZ.below {w w' : World} {ok : Nat → Prop} {v : Value} {ns : List Nat} (h : TsZ w ok v ns) (hb : Below w.heap.size w w') : TsZ w' ok v ns := h.step (fun k _ hk => hb.block k hk)
theorem TZ.below {w w' : World} {ok : Nat → Prop} {v : Value} {n : Nat} (h : TZ w ok v n) (hb : Below w.heap.size w w') : TZ w' ok v n := h.step (fun k _ hk => hb.block k hk)
theorem TsZ.of {w : World} {ok : Nat → Prop} {v : Value} {xss : List (List Int)} (h : TupsAt w ok v xss) : TsZ w ok v (xss.map List.length) := by
  rcases h with ⟨rfl, rfl⟩ | ⟨g, off, cap, cur, rfl, h1, h2, h3, h4, h5, h6⟩
  · exact .inl ⟨rfl, rfl⟩
  · refine .inr ⟨g, off, cap, cur, by rw [List.length_map], h1, h2, by rw [List.length_map]; exact h3, h4, h5, fun j n hj => ?_⟩
    rw [List.getElem?_map] at hj
    obtain ⟨x, hx, rfl⟩ := Option.map_eq_some_iff.1 hj
    obtain ⟨u, hu, hT⟩ := h6 j x hx
    exact ⟨u, hu, x, rfl, hT⟩
theorem TsZ.okmono {w : World} {ok ok' : Nat → Prop} {v : Value} {ns : List Nat} (h : TsZ w ok v ns) (hok : ∀ k, ok k → k < w.heap.size → ok' k) : TsZ w ok' v ns :=
  (SlAt.okmono h hok).imp (fun _ _ _ ⟨xs, h1, h2⟩ => ⟨xs, h1, h2.okmono hok⟩)

theorem setCell_heap {w : World} {g o : Nat} {cur : Array Value} {t : TypeId} {fr : Nat × Nat} (hg : w.heap[g]? = some (.cells cur t fr)) (v : Value) : (w.setCell ⟨g, o, none⟩ v).heap[g]? = some (.cells (cur.setIfInBounds o v) t fr) := by
  simp [World.setCell, Array.getElem?_modify, hg]

/-- A number in a tuple's block is turned: each is a tuple of as many numbers. -/
theorem TZ.setInt {w : World} {ok : Nat → Prop} {u : Value} {n : Nat} (h : TZ w ok u n) {g : Nat} {cur : Array Value} (hg : w.heap[g]? = some (.cells cur 3 (0, 0))) (o : Nat) (z : Int) : TZ (w.setCell ⟨g, o, none⟩ (.int .i64 z)) ok u n := by
  obtain ⟨xs, hl, h⟩ := h
  rcases h with ⟨rfl, rfl⟩ | ⟨g', off, cap, cur', rfl, h1, h2, h3, h4, h5, h6⟩
  · exact ⟨[], hl, .inl ⟨rfl, rfl⟩⟩
  · by_cases hgg : g' = g
    · subst hgg
      rw [hg] at h2
      injection h2 with h2
      injection h2 with h2 _ _
      subst h2
      have hll : ((List.range xs.length).map (fun j => if off + j = o then z else xs.getD j 0)).length = xs.length := by simp
      refine ⟨(List.range xs.length).map (fun j => if off + j = o then z else xs.getD j 0), by rw [hll]; exact hl, .inr ⟨g', off, cap, _, by rw [hll], h1, setCell_heap hg _, by rw [hll]; exact h3, h4, by rw [Array.size_setIfInBounds]; exact h5, fun j x hj => ?_⟩⟩
      have hjl : j < xs.length := by have := (List.getElem?_eq_some_iff.1 hj).1; simpa using this
      rw [List.getElem?_map, List.getElem?_range hjl] at hj
      obtain ⟨u, hu, he⟩ := h6 j xs[j] (List.getElem?_eq_getElem hjl)
      have hsz : off + j < cur.size := (Array.getElem?_eq_some_iff.1 hu).1
      have hx : (if off + j = o then z else xs.getD j 0) = x := by simpa using hj
      subst hx
      rw [Array.getElem?_setIfInBounds]
      by_cases ho : off + j = o
      · rw [if_pos ho.symm, if_pos (by omega), if_pos ho]
        exact ⟨_, rfl, rfl⟩
      · rw [if_neg (fun e => ho e.symm), if_neg ho, List.getD_eq_getElem?_getD, List.getElem?_eq_getElem hjl]
        exact ⟨u, hu, he⟩
    · refine ⟨xs, hl, .inr ⟨g', off, cap, cur', rfl, h1, ?_, h3, h4, h5, h6⟩⟩
      rw [Below.heap_setCell w ⟨g, o, none⟩ _ g' (fun e => hgg e)]
      exact h2
theorem TsZ.setInt {w : World} {ok : Nat → Prop} {v : Value} {ns : List Nat} (h : TsZ w ok v ns) {g : Nat} {cur : Array Value} (hg : w.heap[g]? = some (.cells cur 3 (0, 0))) (o : Nat) (z : Int) : TsZ (w.setCell ⟨g, o, none⟩ (.int .i64 z)) ok v ns := by
  rcases h with ⟨rfl, rfl⟩ | ⟨g', off, cap, cur', rfl, h1, h2, h3, h4, h5, h6⟩
  · exact .inl ⟨rfl, rfl⟩
  · have hne : g' ≠ g := fun e => by
      subst e
      rw [hg] at h2
      injection h2 with h2
      injection h2 with _ h2 _
      exact absurd h2 (by decide)
    refine .inr ⟨g', off, cap, cur', rfl, h1, ?_, h3, h4, h5, fun j n hj => ?_⟩
    · rw [Below.heap_setCell w ⟨g, o, none⟩ _ g' (fun e => hne e)]
      exact h2
    · obtain ⟨u, hu, hT⟩ := h6 j n hj
      exact ⟨u, hu, hT.setInt hg o z⟩
/-- A tuple's head is put into the list. -/
theorem TsZ.setRow {w : World} {ok : Nat → Prop} {ns : List Nat} {g off n cap : Nat} (h : TsZ w ok (.slice (some ⟨g, off, none⟩) n cap) ns) {i m : Nat} (hi : i < ns.length) {u : Value} (hu : TZ w ok u m) : TsZ (w.setCell ⟨g, off + i, none⟩ u) ok (.slice (some ⟨g, off, none⟩) n cap) (ns.set i m) := by
  rcases h with ⟨h0, _⟩ | ⟨g', off', cap', cur', he, h1, h2, h3, h4, h5, h6⟩
  · cases h0
  · injection he with hA hn hc
    injection hA with hA
    injection hA with hg ho _
    subst hg ho hn hc
    have hz : ∀ {x : Value} {q : Nat}, TZ w ok x q → TZ (w.setCell ⟨g, off + i, none⟩ u) ok x q := fun {x q} ⟨xs, hl, hx⟩ => ⟨xs, hl, ((hx.off h2 (by decide)).step (fun k hk _ => Below.heap_setCell w ⟨g, off + i, none⟩ u k hk.2)).okmono (fun k hk _ => hk.1)⟩
    refine .inr ⟨g, off, cap, _, by rw [List.length_set], h1, setCell_heap h2 _, by rw [List.length_set]; exact h3, h4, by rw [Array.size_setIfInBounds]; exact h5, fun j q hj => ?_⟩
    rw [List.getElem?_set] at hj
    rw [Array.getElem?_setIfInBounds]
    by_cases hij : i = j
    · subst hij
      rw [if_pos rfl, if_pos hi] at hj
      obtain rfl := Option.some.inj hj
      rw [if_pos rfl, if_pos (by omega)]
      exact ⟨u, rfl, hz hu⟩
    · rw [if_neg hij] at hj
      obtain ⟨x, hx, hT⟩ := h6 j q hj
      rw [if_neg (by omega)]
      exact ⟨x, hx, hz hT⟩

theorem TZ.okmono {w : World} {ok ok' : Nat → Prop} {u : Value} {n : Nat} (h : TZ w ok u n) (hok : ∀ k, ok k → k < w.heap.size → ok' k) : TZ w ok' u n := by
  obtain ⟨xs, h1, h2⟩ := h
  exact ⟨xs, h1, h2.okmono hok⟩
theorem TZ.shape {w : World} {ok : Nat → Prop} {u : Value} {n : Nat} (h : TZ w ok u n) : ∃ A c, u = .slice A n c := by
  obtain ⟨xs, rfl, h2⟩ := h
  obtain ⟨A, c, h, _⟩ := SlAt.shape h2
  exact ⟨A, c, h⟩
theorem TZ.at_ {w : World} {ok : Nat → Prop} {A : Option Addr} {n n' c : Nat} (h : TZ w ok (.slice A n c) n') (k : Nat) (hk : k < n') :
    ∃ g off x cur, A = some ⟨g, off, none⟩ ∧ w.heap[g]? = some (.cells cur 3 (0, 0)) ∧ w.cell? ⟨g, off + k, none⟩ = some (.int .i64 x) ∧ w.frozen? ⟨g, off + k, none⟩ = false ∧ ok g := by
  obtain ⟨xs, rfl, h⟩ := h
  rcases h with ⟨h0, rfl⟩ | ⟨g, off, cap, cur, he, h1, h2, h3, h4, h5, h6⟩
  · simp at hk
  · injection he with he _ _
    obtain ⟨u, hu, rfl⟩ := h6 k xs[k] (List.getElem?_eq_getElem hk)
    exact ⟨g, off, xs[k], cur, he, h2, by simp [World.cell?, h2, hu], by simp [World.frozen?, h2], h1⟩
theorem TsZ.at_ {w : World} {ok : Nat → Prop} {A : Option Addr} {n c : Nat} {ns : List Nat} (h : TsZ w ok (.slice A n c) ns) (k : Nat) (hk : k < ns.length) :
    ∃ g off u cur, A = some ⟨g, off, none⟩ ∧ w.heap[g]? = some (.cells cur 75 (0, 0)) ∧ w.cell? ⟨g, off + k, none⟩ = some u ∧ w.frozen? ⟨g, off + k, none⟩ = false ∧ ok g ∧ TZ w ok u ns[k] := by
  rcases h with ⟨h0, rfl⟩ | ⟨g, off, cap, cur, he, h1, h2, h3, h4, h5, h6⟩
  · simp at hk
  · injection he with he _ _
    obtain ⟨u, hu, hT⟩ := h6 k ns[k] (List.getElem?_eq_getElem hk)
    exact ⟨g, off, u, cur, he, h2, by simp [World.cell?, h2, hu], by simp [World.frozen?, h2], h1, hT⟩
theorem TsZ.len {w : World} {ok : Nat → Prop} {A : Option Addr} {n c : Nat} {ns : List Nat} (h : TsZ w ok (.slice A n c) ns) : n = ns.length := by
  obtain ⟨A', c', he, _⟩ := SlAt.shape h
  injection he

/-- What an append of one number does to a tuple, and to all others. -/
def Appended (W w' : World) (ok : Nat → Prop) (v' : Value) (n : Nat) : Prop :=
  TZ w' (fun k => ok k ∨ W.heap.size ≤ k) v' (n + 1) ∧ Kp W w' ok ∧ ∀ ok' v ns, TsZ W ok' v ns → TsZ w' ok' v ns

theorem append_TZ {ops : Array Oper} {rest : List Oper} {o : Oper} {a : Act} {Q : Exit → Act → World → Prop} {W : World} {ok : Nat → Prop} {u : Value} {n : Nat} {y : Int} (hgd : o.guard = none) (s x : Operand)
    (ho : o.op = .call { callee := .builtin .append, args := #[s, x], argTypes := #[75, 75] }) (hs : a.eval s = u) (hx : a.eval x = .slice (some ⟨W.heap.size, 0, none⟩) 1 1) (hT : TZ W ok u n) (hn : n ≤ 1000000)
    (h : ∀ v' w', Appended W w' ok v' n → (∃ A c, v' = .slice A (n + 1) c) → wpList Try.prog ops Q rest (a.put o.dst v') w') :
    wpList Try.prog ops Q (o :: rest) a (W.alloc (.cells #[.int .i64 y] 3)) := by
  obtain ⟨i0, hi, hz0, hz1, hz2⟩ := info_parts info3
  have hB : Below W.heap.size W (W.alloc (.cells #[.int .i64 y] 3)) := below_alloc (Below.refl _ _) _
  have hnew : (W.alloc (.cells #[.int .i64 y] 3)).heap[W.heap.size]? = some (.cells #[.int .i64 y] 3 (0, 0)) := heap_alloc_new _ _
  have hnc : ∀ j v, [Value.int .i64 y][j]? = some v → (W.alloc (.cells #[.int .i64 y] 3)).cell? ((⟨W.heap.size, 0, none⟩ : Addr).add j) = some v := fun j v hj => by
    cases j with
    | zero => 
      rw [add_at]
      have : v = .int .i64 y := by simpa using hj.symm
      subst this
      unfold World.cell?
      simp only [hnew]
      rfl
    | succ j => simp at hj
  have grow : ∀ {olds : List Int} v' w', olds.length = n → w'.ownsRow (W.alloc (.cells #[.int .i64 y] 3)).heap.size 3 1 v' (n + 1) (nums .i64 olds ++ [.int .i64 y]) → (W.alloc (.cells #[.int .i64 y] 3)).grownBy w' none → Appended W w' ok v' n := fun {olds} v' w' hol r1 r2 => by
    have hbl : Below W.heap.size W w' := hB.grown r2 hB.size (by intro k hk; cases hk)
    refine ⟨⟨olds ++ [y], by rw [List.length_append, List.length_singleton, hol], ?_⟩, Kp.ofBelow' hbl, fun ok' v ns hv => hv.below hbl⟩
    have r1' : w'.ownsRow (W.alloc (.cells #[.int .i64 y] 3)).heap.size 3 1 v' (olds ++ [y]).length (nums .i64 (olds ++ [y])) := by
      rw [nums_append, List.length_append, List.length_singleton, hol]
      exact r1
    exact tup_ofOwn r1' (fun k hk => .inr (Nat.le_trans hB.size (own_base r1' k hk)))
  obtain ⟨xs, hxl, hT⟩ := hT
  rcases hT with ⟨rfl, rfl⟩ | ⟨g, off, cap, cur, rfl, h1, h2, h3, h4, h5, h6⟩
  · have hn0 : n = 0 := by rw [← hxl]; rfl
    subst hn0
    refine wpList_append_grows _ hgd s x 75 ho 3 i0 _ 1 8 Try.underlying75 hi hz0 hz1 hz2 rfl (by omega) none 0 0 [] hs (fun _ => ⟨rfl, rfl⟩) rfl (fun b hb => by cases hb) ⟨W.heap.size, 0, none⟩ 1 1 [.int .i64 y] hx rfl hnc (by simp [Value.oneCell']) (by omega) (by simp [maxLen]) (by omega) ?_
    intro v' w' r1 r2
    have hA := grow (olds := []) v' w' rfl (by simpa [nums] using r1) r2
    refine h v' w' hA ?_
    obtain ⟨A, c, hv⟩ := own_slice r1
    exact ⟨A, c, hv⟩
  · subst hxl
    have hgl : g < W.heap.size := (Array.getElem?_eq_some_iff.1 h2).1
    have h2' : (W.alloc (.cells #[.int .i64 y] 3)).heap[g]? = some (.cells cur 3 (0, 0)) := (hB.block g hgl).trans h2
    refine wpList_append_arg _ hgd s x 75 ho 3 i0 _ 1 8 Try.underlying75 hi hz0 hz1 hz2 rfl (by omega) g off xs.length cap (nums .i64 xs) hs (by simp [nums]) (fun j u hj => ?_) ⟨W.heap.size, 0, none⟩ 1 1 [.int .i64 y] hx rfl hnc (by simp [Value.oneCell']) (fun hr j hj => ?_) (by simp only [maxLen]; omega) (by omega) (fun hr => ?_) (fun hr v' w' r1 r2 => ?_)
    · simp [nums] at hj
      obtain ⟨q, hq, rfl⟩ := hj
      obtain ⟨u, hu, rfl⟩ := h6 j q hq
      simp [World.cell?, h2', hu]
    · have hj0 : j = 0 := by simpa using hj
      subst hj0
      have : off + xs.length * 1 + 0 < cur.size := by omega
      simp [World.cell?, World.frozen?, h2', Nat.mul_one] at this ⊢
      omega
    · have e1 : (W.alloc (.cells #[.int .i64 y] 3)).setCells g (off + xs.length * 1) [.int .i64 y] = (W.alloc (.cells #[.int .i64 y] 3)).setCell ⟨g, off + xs.length, none⟩ (.int .i64 y) := by
        simp [World.setCells]
      rw [e1]
      refine h _ _ ⟨⟨xs ++ [y], by simp, .inr ⟨g, off, cap, _, by rw [List.length_append, List.length_singleton], .inl h1, setCell_heap h2' _, by rw [List.length_append, List.length_singleton]; exact hr, h4, by rw [Array.size_setIfInBounds]; exact h5, fun j q hj => ?_⟩⟩, ?_, fun ok' v ns hv => (hv.below hB).setInt h2' _ _⟩ ⟨_, _, rfl⟩
      · rw [Array.getElem?_setIfInBounds]
        by_cases hjx : j = xs.length
        · subst hjx
          rw [if_pos rfl, if_pos (by omega)]
          have : q = y := by simpa using hj.symm
          subst this
          exact ⟨_, rfl, rfl⟩
        · have hjl : j < xs.length := by
            have := (List.getElem?_eq_some_iff.1 hj).1
            rw [List.length_append, List.length_singleton] at this
            omega
          rw [if_neg (by omega)]
          rw [List.getElem?_append_left hjl] at hj
          exact h6 j q hj
      · exact (Kp.ofBelow' hB).setCell (.inl h1) _
    · refine h v' w' (grow (olds := xs) v' w' rfl r1 r2) ?_
      obtain ⟨A, c, hv⟩ := own_slice r1
      exact ⟨A, c, hv⟩
end Go.Proofs.Ytcchcifcfcpjiaa.J

set_option linter.unusedVariables false
set_option linter.unusedSimpArgs false
namespace Go.Proofs.Ytcchcifcfcpjiaa.J
open Go.RowKit Go.Proofs.YtcchcifcfcpjiaaW.PrintWords Go.Proofs.YtcchcifcfcpjiaaW.PrintLast Go.Proofs.YtcchcifcfcpjiaaW.PrintMore Go.Proofs.Ytcchcifcfcpjiaa.PJ

theorem own_val (nm lb : ByteArray) (kd : Int) (out : List ByteArray) (ats : List S118) (ho : out.length ≤ 12) (ha : ats.length ≤ 12) : rhizomelaw09_Own.f nm kd out ats lb = some (nm, kd, out, ats, lb) := by
  simp only [rhizomelaw09_Own.f, Option.bind_some, List.length_nil, Nat.zero_add, List.nil_append]
  rw [if_pos (by omega), if_pos (by omega)]
theorem fits_val (nm lb : ByteArray) (kd : Int) (out : List ByteArray) (ats : List S118) (es : List S82) (ho : out.length ≤ 12) (ha : ats.length ≤ 12) (he : es.length ≤ 25) : rhizomelaw11_Fits.f nm kd out ats lb es = some true := by
  unfold rhizomelaw11_Fits.f
  rw [if_pos (by omega), if_pos (by omega), decide_eq_true (by omega)]
theorem R_empty82 (w : World) : Kd.R k82 82 (w.alloc (.cells #[] 82)) w.heap.size (fun _ => True) (.slice (some ⟨w.heap.size, 0, none⟩) 0 0) [] :=
  ⟨fun _ _ => trivial, [], World.ownsRow_made w #[] 0 (Nat.le_refl _) (Nat.zero_le _) (by simp), Reps.none _ _⟩
/-- A view in a box. -/
def BoxAt (W : World) (g : Nat) (nm : ByteArray) (kd : Int) (v2 v3 : Value) (lb : ByteArray) : Prop := W.heap[g]? = some (.cells #[.string nm, .int .i64 kd, v2, v3, .string lb] 59 (0, 0))
theorem BoxAt.below {W W' : World} {g : Nat} {nm : ByteArray} {kd : Int} {v2 v3 : Value} {lb : ByteArray} (h : BoxAt W g nm kd v2 v3 lb) (hb : Below W.heap.size W W') : BoxAt W' g nm kd v2 v3 lb := (hb.block _ (Array.getElem?_eq_some_iff.1 h).1).trans h
theorem BoxAt.cells {W : World} {g : Nat} {nm : ByteArray} {kd : Int} {v2 v3 : Value} {lb : ByteArray} (h : BoxAt W g nm kd v2 v3 lb) :
    W.cell? ⟨g, 0, none⟩ = some (.string nm) ∧ W.cell? ⟨g, 1, none⟩ = some (.int .i64 kd) ∧ W.cell? ⟨g, 2, none⟩ = some v2 ∧ W.cell? ⟨g, 3, none⟩ = some v3 ∧ W.cell? ⟨g, 4, none⟩ = some (.string lb) :=
  ⟨cell_at h 0, cell_at h 1, cell_at h 2, cell_at h 3, cell_at h 4⟩

theorem rowsV_le (nm lb : ByteArray) (kd : Int) (out : List ByteArray) (ats : List S118) (es : List S82) (ha : ats.length ≤ 12) : (rowsV nm lb kd out ats es).1.length ≤ 3000 ∧ ∀ t ∈ (rowsV nm lb kd out ats es).1, t.length ≤ 100000 := by
  unfold rowsV
  split
  · cases hall : allRows (varsOf ats) es ats [[]] with
    | none => exact ⟨by simp, fun t h => by cases h⟩
    | some rows =>
      have hrl := rows_length es ats ats.length (Nat.le_refl _) rows (by rw [List.take_length]; exact hall)
      rw [List.take_length] at hrl
      have hr3 := allRows_small (varsOf ats) es ats [[]] rows (by simp) hall
      have hs3 := setOf_length rows
      have hvl := varsOf_length ats
      refine ⟨by show (setOf rows).length ≤ 3000; omega, fun t h => ?_⟩
      have := hrl t ((mem_setOf _ _).1 h)
      omega
  · exact ⟨by simp, fun t h => by cases h⟩
theorem resV_le (nm lb : ByteArray) (kd : Int) (out : List ByteArray) (ats : List S118) (es : List S82) (ho : out.length ≤ 12) (ha : ats.length ≤ 12) : (resV nm lb kd out ats es).1.length ≤ 3000 ∧ (∀ t ∈ (resV nm lb kd out ats es).1, t.length ≤ 100000) ∧ (resV nm lb kd out ats es).2.1.length ≤ 3000 := by
  unfold resV
  split
  · cases hall : allRows (varsOf ats) es ats [[]] with
    | none => exact ⟨by simp, (fun t h => by cases h), by simp⟩
    | some rows =>
      have hr3 := allRows_small (varsOf ats) es ats [[]] rows (by simp) hall
      have hs3 := setOf_length rows
      have hs4 := setOf_length ((setOf rows).map (projR (varsOf ats) out))
      rw [List.length_map] at hs4
      refine ⟨by show (setOf _).length ≤ 3000; omega, fun t h => ?_, by show (List.map _ _).length ≤ 3000; rw [List.length_map]; omega⟩
      have h1 := (mem_setOf _ _).1 h
      obtain ⟨r, _, rfl⟩ := List.mem_map.1 h1
      unfold projR
      rw [List.length_map]
      omega
  · exact ⟨by simp, (fun t h => by cases h), by simp⟩

set_option maxRecDepth 100000 in
set_option maxHeartbeats 4000000 in
theorem law_fit (w : World) {nm lb : ByteArray} {kd : Int} {A2 A3 A1 : Option Addr} {c2 c3 c1 : Nat} {out : List ByteArray} {ats : List S118} {es : List S82}
    (h2 : Kd.C Kd.string w A2 out.length out) (g2 : out.length ≤ c2) (h3 : Kd.C k118 w A3 ats.length ats) (g3 : ats.length ≤ c3) (hE : Kd.C k82 w A1 es.length es) (gE : es.length ≤ c1)
    (ho : out.length ≤ 12) (ha : ats.length ≤ 12) (he : es.length ≤ 25) (ht : TxtOk nm lb ats) :
    Calls Try.prog 4 #[.agg #[.string nm, .int .i64 kd, .slice A2 out.length c2, .slice A3 ats.length c3, .string lb], .slice A1 es.length c1] w fun e w' => e = .returned (.bool true) ∧ Below w.heap.size w w' := by
  have H2 := Aside0.mk h2
  have H3 := Aside0.mk h3
  have HE := Aside0.mk hE
  have HG2 := Aside0.mk g2
  have HG3 := Aside0.mk g3
  have HGE := Aside0.mk gE
  have HT := Aside0.mk ht
  have HFV := Aside0.mk (fits_val nm lb kd out ats es ho ha he)
  have HOV := Aside0.mk (own_val nm lb kd out ats ho ha)
  clear h2 h3 hE g2 g3 gE ht
  have hu59 := Try.underlying59
  go_enter Try.func4, Try.ntmps4
  go_upto_region 1 with fail
  have HB1 : Aside0 (Below w.heap.size w (w.alloc (.cells #[.string nm, .int .i64 kd, .slice A2 out.length c2, .slice A3 ats.length c3, .string lb] 59))) := ⟨below_alloc (Below.refl _ _) _⟩
  have HBX : Aside0 (BoxAt (w.alloc (.cells #[.string nm, .int .i64 kd, .slice A2 out.length c2, .slice A3 ats.length c3, .string lb] 59)) w.heap.size nm kd (.slice A2 out.length c2) (.slice A3 ats.length c3) lb) := ⟨heap_alloc_new _ _⟩
  generalize w.alloc (.cells #[.string nm, .int .i64 kd, .slice A2 out.length c2, .slice A3 ats.length c3, .string lb] 59) = w1 at *
  go_upto_if 29 with (first | (go_at_call 24; (with_reducible refine (rhizomelaw11_awake.calls true _ rfl).mono ?_); rintro e w2 ⟨rfl, hb2⟩; (have HB2 := Aside0.mk hb2); clear hb2; obtain ⟨k0, k1, k2, k3, k4⟩ := (HBX.out.below HB2.out).cells) | (go_at_call 25; (with_reducible refine (rhizomelaw11_Fits.calls nm kd _ _ out _ _ ats lb _ _ es true _ (Kd.C_below H2.out ?s1) HG2.out (Kd.C_below H3.out ?s1) HG3.out (Kd.C_below HE.out ?s1) HGE.out HFV.out).mono ?_); (case s1 => exact HB1.out.trans (HB2.out.mono HB1.out.size)); rintro e w3 ⟨rfl, hb3⟩; (have HB3 := Aside0.mk hb3); clear hb3))
  have HW3 : Aside0 (Below w.heap.size w w3) := ⟨(HB1.out.trans (HB2.out.mono HB1.out.size)).trans (HB3.out.mono (HB1.out.trans (HB2.out.mono HB1.out.size)).size)⟩
  have HBX3 := Aside0.mk ((HBX.out.below HB2.out).below HB3.out)
  clear k0 k1 k2 k3 k4 HB1 HB2 HB3 HBX
  obtain ⟨k0, k1, k2, k3, k4⟩ := HBX3.out.cells
  go_upto_region 4 with (first | (go_at_call 26; (with_reducible refine (rhizomelaw09_Own.calls nm kd _ _ out _ _ ats lb nm kd out ats lb _ (Kd.C_below H2.out HW3.out) HG2.out (Kd.C_below H3.out HW3.out) HG3.out HOV.out).mono ?_); rintro e w4 ⟨v2_, v3_, rfl, hR2, hR3, hb4⟩; obtain ⟨A2', c2', rfl⟩ := Kd.R_slice hR2; obtain ⟨A3', c3', rfl⟩ := Kd.R_slice hR3; (have HR2 := Aside0.mk (Kd.R_reads' hR2).2); (have HR3 := Aside0.mk (Kd.R_reads' hR3).2); (have HB4 := Aside0.mk hb4); clear hR2 hR3 hb4) | (at_builtin; refine Kd.R_append_rows k82 (w0 := w4) w4.heap.size rfl (.tmp 33) (.tmp 34) 60 82 (.agg #[.int .i64 0, .string ⟨#[]⟩, .int .i64 0]) 32 rfl Try.underlying60 info82 rfl (by decide) (by omega) (.slice (some ⟨w4.heap.size, 0, none⟩) 0 0) [] es A1 es.length c1 (fun _ => True) (fun _ => False) rfl rfl (R_empty82 _) (Kd.C_below HE.out (below_alloc (HW3.out.trans (HB4.out.mono HW3.out.size)) _)) (fun _ _ h => h) (fun _ h => h.elim) (fun _ _ => trivial) (below_alloc (Below.refl _ _) _) (by simp) (by simp; omega) ?_; intro v6 w6 hR6 hb6 _ _; obtain ⟨A6, c6, rfl⟩ := Kd.R_slice hR6; (have HR6 := Aside0.mk (Kd.R_reads' hR6).2); (have HB6 := Aside0.mk hb6); clear hR6 hb6))
  have HW4 : Aside0 (Below w.heap.size w w4) := ⟨HW3.out.trans (HB4.out.mono HW3.out.size)⟩
  have HW6 : Aside0 (Below w.heap.size w w6) := ⟨HW4.out.trans (HB6.out.mono HW4.out.size)⟩
  have HA6 : Aside0 (Below w6.heap.size w6 (w6.alloc (.cells #[.string nm, .int .i64 kd, .slice A2' out.length c2', .slice A3' ats.length c3', .string lb] 59))) := ⟨below_alloc (Below.refl _ _) _⟩
  have HBI : Aside0 (BoxAt (w6.alloc (.cells #[.string nm, .int .i64 kd, .slice A2' out.length c2', .slice A3' ats.length c3', .string lb] 59)) w6.heap.size nm kd (.slice A2' out.length c2') (.slice A3' ats.length c3') lb) := ⟨heap_alloc_new _ _⟩
  have HBV : Aside0 (BoxAt (w6.alloc (.cells #[.string nm, .int .i64 kd, .slice A2' out.length c2', .slice A3' ats.length c3', .string lb] 59)) w.heap.size nm kd (.slice A2 out.length c2) (.slice A3 ats.length c3) lb) := ⟨(((HBX3.out.below HB4.out).below HB6.out).below HA6.out)⟩
  have HI2 : Aside0 (out.length ≤ c2' ∧ Kd.C Kd.string (w6.alloc (.cells #[.string nm, .int .i64 kd, .slice A2' out.length c2', .slice A3' ats.length c3', .string lb] 59)) A2' out.length out) := ⟨HR2.out.1, Kd.C_below (Kd.C_below HR2.out.2 HB6.out) HA6.out⟩
  have HI3 : Aside0 (ats.length ≤ c3' ∧ Kd.C k118 (w6.alloc (.cells #[.string nm, .int .i64 kd, .slice A2' out.length c2', .slice A3' ats.length c3', .string lb] 59)) A3' ats.length ats) := ⟨HR3.out.1, Kd.C_below (Kd.C_below HR3.out.2 HB6.out) HA6.out⟩
  have HIL : Aside0 (es.length ≤ c6 ∧ Kd.C k82 (w6.alloc (.cells #[.string nm, .int .i64 kd, .slice A2' out.length c2', .slice A3' ats.length c3', .string lb] 59)) A6 es.length es) := ⟨HR6.out.1, Kd.C_below HR6.out.2 HA6.out⟩
  have HW7 : Aside0 (Below w.heap.size w (w6.alloc (.cells #[.string nm, .int .i64 kd, .slice A2' out.length c2', .slice A3' ats.length c3', .string lb] 59))) := ⟨HW6.out.trans (HA6.out.mono HW6.out.size)⟩
  clear HBX3 HW3 HW4 HW6 HR2 HR3 HR6 HB4 HB6 HA6 HFV HOV k0 k1 k2 k3 k4
  generalize w6.alloc (.cells #[.string nm, .int .i64 kd, .slice A2' out.length c2', .slice A3' ats.length c3', .string lb] 59) = w7 at *
  generalize w6.heap.size = g5 at *
  have hj27 := fun W (hW : Below w7.heap.size w7 W) => jrows_V W (nm := nm) (lb := lb) (kd := kd) (c1 := c6) (Kd.C_below HI2.out.2 hW) HI2.out.1 (Kd.C_below HI3.out.2 hW) HI3.out.1 (Kd.C_below HIL.out.2 hW) (by omega) (by omega) (by omega)
  have hj28 := fun W (hW : Below w7.heap.size w7 W) => jresult_V W (nm := nm) (lb := lb) (kd := kd) (c1 := c6) (Kd.C_below HI2.out.2 hW) HI2.out.1 (Kd.C_below HI3.out.2 hW) HI3.out.1 (Kd.C_below HIL.out.2 hW) (by omega) (by omega) (by omega)
  have hj29 := fun W (hW : Below w7.heap.size w7 W) => rrows_V W (nm := nm) (lb := lb) (kd := kd) (c1 := c1) (Kd.C_below H2.out (HW7.out.trans (hW.mono HW7.out.size))) HG2.out (Kd.C_below H3.out (HW7.out.trans (hW.mono HW7.out.size))) HG3.out (Kd.C_below HE.out (HW7.out.trans (hW.mono HW7.out.size))) HGE.out (by omega) (by omega) (by omega) HT.out
  have hj31 := fun W (hW : Below w7.heap.size w7 W) => rresult_V W (nm := nm) (lb := lb) (kd := kd) (c1 := c1) (Kd.C_below H2.out (HW7.out.trans (hW.mono HW7.out.size))) HG2.out (Kd.C_below H3.out (HW7.out.trans (hW.mono HW7.out.size))) HG3.out (Kd.C_below HE.out (HW7.out.trans (hW.mono HW7.out.size))) HGE.out (by omega) (by omega) (by omega) HT.out
  obtain ⟨l1, l2⟩ := rowsV_le nm lb kd out ats es ha
  obtain ⟨l3, l4, l5⟩ := resV_le nm lb kd out ats es ho ha
  rw [resV_code] at hj28 hj31
  generalize (rowsV nm lb kd out ats es).2 = cd at *
  generalize (rowsV nm lb kd out ats es).1 = ys at *
  generalize (resV nm lb kd out ats es).1 = set at *
  generalize (resV nm lb kd out ats es).2.1 = cn at *
  obtain ⟨q1, hq1⟩ := (same_val ys (by omega) (fun t h => by have := l2 t h; omega)).rounds
  obtain ⟨q2, hq2⟩ := (same_val set (by omega) (fun t h => by have := l4 t h; omega)).rounds
  obtain ⟨q3, hq3⟩ := (ints_val cn (by omega)).rounds
  obtain ⟨q4, hq4⟩ := (view_val nm lb kd out ats (by omega) (by omega)).rounds
  obtain ⟨q5, hq5⟩ := (edges_val es (by omega)).rounds
  have J27 := Aside0.mk hj27
  have J28 := Aside0.mk hj28
  have J29 := Aside0.mk hj29
  have J31 := Aside0.mk hj31
  have Q1 := Aside0.mk hq1
  have Q2 := Aside0.mk hq2
  have Q3 := Aside0.mk hq3
  have Q4 := Aside0.mk hq4
  have Q5 := Aside0.mk hq5
  have L2 := Aside0.mk l2
  clear hj27 hj28 hj29 hj31 hq1 hq2 hq3 hq4 hq5 l2 l4
  obtain ⟨k0, k1, k2, k3, k4⟩ := HBI.out.cells
  go_upto_region 5 with (go_at_call 27; (with_reducible refine (J27.out _ (Below.refl _ _)).mono ?_); rintro e w8 ⟨v7, rfl, ht7, hb8⟩; obtain ⟨A7, c7, rfl, hc7, hC7⟩ := TupsAt.reads ht7; (have T7 := Aside0.mk ht7); (have G7 := Aside0.mk hc7); (have C7 := Aside0.mk hC7); (have HB8 := Aside0.mk hb8); clear ht7 hc7 hC7 hb8)
  clear k0 k1 k2 k3 k4
  obtain ⟨k0, k1, k2, k3, k4⟩ := (HBI.out.below HB8.out).cells
  go_upto_region 6 with (go_at_call 28; (with_reducible refine (J28.out _ HB8.out).mono ?_); rintro e w9 ⟨v9, v10, rfl, ht9, ht10, hb9⟩; obtain ⟨A9, c9, rfl, hc9, hC9⟩ := TupsAt.reads ht9; obtain ⟨A10, c10, rfl, hc10, hC10⟩ := TupAt.reads ht10; (have G9 := Aside0.mk hc9); (have C9 := Aside0.mk hC9); (have G10 := Aside0.mk hc10); (have C10 := Aside0.mk hC10); (have HB9 := Aside0.mk hb9); clear ht9 ht10 hc9 hC9 hc10 hC10 hb9)
  clear k0 k1 k2 k3 k4
  have HW9 : Aside0 (Below w7.heap.size w7 w9) := ⟨HB8.out.trans (HB9.out.mono HB8.out.size)⟩
  obtain ⟨k0, k1, k2, k3, k4⟩ := (HBV.out.below HW9.out).cells
  go_upto_region 7 with (go_at_call 29; (with_reducible refine (J29.out _ HW9.out).mono ?_); rintro e w10 ⟨v12, rfl, ht12, hb10⟩; obtain ⟨A12, c12, rfl⟩ := Kd.V_slice ht12; (have G12 := Aside0.mk (Kd.V_reads' ht12).2.1); (have C12 := Aside0.mk (Kd.V_reads' ht12).2.2); (have HB10 := Aside0.mk hb10); clear ht12 hb10)
  clear k0 k1 k2 k3 k4
  have HW10 : Aside0 (Below w7.heap.size w7 w10) := ⟨HW9.out.trans (HB10.out.mono HW9.out.size)⟩
  have HB8' : Aside0 (Below w8.heap.size w8 w10) := ⟨HB9.out.trans (HB10.out.mono HB9.out.size)⟩
  have e1 : (cd != cd) = false := by simp
  have e2 : (cd == cd) = true := by simp
  go_upto_if 68 with (go_at_call 30; (with_reducible refine (rhizomeref10_Same.calls q1 A7 c7 ys A12 c12 ys true _ (Kd.C_below C7.out HB8'.out) G7.out C12.out G12.out Q1.out).mono ?_); rintro e w11 ⟨rfl, n11, rfl⟩)
  have HW11 : Aside0 (Below w7.heap.size w7 (w10.drewN n11)) := ⟨pw_below_drewN HW10.out _⟩
  have H911 : Aside0 (Below w9.heap.size w9 (w10.drewN n11)) := ⟨pw_below_drewN HB10.out _⟩
  have H811 : Aside0 (Below w8.heap.size w8 (w10.drewN n11)) := ⟨pw_below_drewN HB8'.out _⟩
  have HSZ10 : Aside0 (w8.heap.size ≤ (w10.drewN n11).heap.size) := ⟨HB8'.out.size⟩
  clear HW10 HB8' HB10 C12 G12
  generalize w10.drewN n11 = w11 at *
  obtain ⟨k0, k1, k2, k3, k4⟩ := (HBV.out.below HW11.out).cells
  go_upto_region 10 with (go_at_call 31; (with_reducible refine (J31.out _ HW11.out).mono ?_); rintro e w12 ⟨v14, v15, rfl, ht14, ht15, hb12⟩; obtain ⟨A14, c14, rfl⟩ := Kd.V_slice ht14; obtain ⟨A15, c15, rfl, hc15, hC15⟩ := TupAt.reads ht15; (have V14 := Aside0.mk ht14); (have G15 := Aside0.mk hc15); (have C15 := Aside0.mk hC15); (have HB12 := Aside0.mk hb12); clear ht14 ht15 hc15 hC15 hb12)
  clear k0 k1 k2 k3 k4
  have G14 := Aside0.mk (Kd.V_reads' V14.out).2.1
  have C14 := Aside0.mk (Kd.V_reads' V14.out).2.2
  have H912 : Aside0 (Below w9.heap.size w9 w12) := ⟨H911.out.trans (HB12.out.mono H911.out.size)⟩
  go_upto_if 85 with (first | (go_at_call 30; (with_reducible refine (rhizomeref10_Same.calls q2 A9 c9 set A14 c14 set true _ (Kd.C_below C9.out H912.out) G9.out C14.out G14.out Q2.out).mono ?_); rintro e w13 ⟨rfl, n13, rfl⟩) | (go_at_call 32; (with_reducible refine (rhizomeref01_Ints.calls q3 A10 c10 cn A15 c15 cn true _ (Kd.C_below C10.out (pw_below_drewN H912.out _)) G10.out (Kd.C_drewN C15.out _) G15.out Q3.out).mono ?_); rintro e w14 ⟨rfl, n14, rfl⟩))
  have H12m : Aside0 (Below w12.heap.size w12 (w12.drewN (n13 + n14))) := ⟨pw_below_drewN (Below.refl _ _) _⟩
  have H8m : Aside0 (Below w8.heap.size w8 (w12.drewN (n13 + n14))) := ⟨(H811.out.trans (HB12.out.mono H811.out.size)).trans (H12m.out.mono (H811.out.trans (HB12.out.mono H811.out.size)).size)⟩
  have H7m : Aside0 (Below w7.heap.size w7 (w12.drewN (n13 + n14))) := ⟨HB8.out.trans (H8m.out.mono HB8.out.size)⟩
  have V14m : Aside0 (Kd.V (Kd.slice 3 (Kd.int .i64)) 75 (w12.drewN (n13 + n14)) w11.heap.size (fun k_ => w11.heap.size ≤ k_) (.slice A14 set.length c14) set) := ⟨Kd.V_drewN V14.out _⟩
  have TS : Aside0 (TsZ (w12.drewN (n13 + n14)) (fun k => (w7.heap.size ≤ k ∧ k < w8.heap.size) ∨ (w12.drewN (n13 + n14)).heap.size ≤ k) (.slice A7 ys.length c7) (ys.map List.length)) := ⟨(TsZ.below (TsZ.of T7.out.bound) H8m.out).okmono (fun k h _ => .inl h)⟩
  have HSZ : Aside0 (w8.heap.size ≤ w11.heap.size ∧ w8.heap.size ≤ (w12.drewN (n13 + n14)).heap.size ∧ w7.heap.size ≤ w8.heap.size) := ⟨HSZ10.out, H8m.out.size, HB8.out.size⟩
  clear T7 C7 V14 C14 C15 C9 C10 G9 G10 G15 HB9 HW9 H911 H811 HW11 H912 HB12 H12m H8m HB8 HSZ10
  generalize w12.drewN (n13 + n14) = wm at *
  generalize hokk : (fun k => (w7.heap.size ≤ k ∧ k < w8.heap.size) ∨ wm.heap.size ≤ k) = ok at *
  have HOK := Aside0.mk hokk
  clear hokk
  go_wp2_with fail
  go_loopg [88] ys.length (fun gk s88 wr => ∃ (i : Nat) (ns : List Nat), i ≤ ys.length ∧ ys.length - i ≤ gk ∧ s88 = .int .i64 i ∧ Aside0 (ns.length = ys.length) ∧ Aside0 (∀ n ∈ ns, n ≤ 100000 + i) ∧ Aside0 (TsZ wr ok (.slice A7 ys.length c7) ns) ∧ Aside0 (Kp wm wr ok))
  case atStart => exact ⟨0, ys.map List.length, Nat.zero_le _, by omega, rfl, ⟨by rw [List.length_map]⟩, ⟨fun n hn => by obtain ⟨t, ht, rfl⟩ := List.mem_map.1 hn; have := L2.out t ht; omega⟩, TS, ⟨Kp.refl _ _⟩⟩
  case round =>
    obtain ⟨i, ns, hi, hgk, rfl, hnl, hnb, hTS, hKp⟩ := hrel
    clear TS
    by_cases hlt : i < ys.length
    · have i4 : (i : Int) < (ys.length : Int) := by omega
      have i0 : (0 : Int) ≤ (i : Int) := by omega
      have hin : i < ns.length := by rw [hnl.out]; exact hlt
      obtain ⟨g7, o7, u, cur7, hA7, hg7, hc7, hf7, hok7, hu7⟩ := TsZ.at_ hTS.out i hin
      subst hA7
      have hnbi : ns[i] ≤ 100000 + i := hnb.out _ (List.getElem_mem _)
      obtain ⟨Au, cu, rfl⟩ := hu7.shape
      have HG7 := Aside0.mk hg7
      have HOK7 := Aside0.mk hok7
      have HU7 := Aside0.mk hu7
      have HN : Aside0 (i < ns.length) := ⟨hin⟩
      have HCU7 : Aside0 (cur7[o7 + i]? = some (.slice Au ns[i] cu)) := ⟨by simpa [World.cell?, hg7] using hc7⟩
      clear hg7 hok7 hu7
      generalize ns[i] = n at *
      clear hin
      go_wp2_with fail
      clear hc7 hf7
      generalize wr = wo at *
      go_loopg [96] n (fun gk s96 wr => ∃ (k : Nat), k ≤ n ∧ n - k ≤ gk ∧ s96 = .int .i64 k ∧ Aside0 (wr.heap[g7]? = some (.cells cur7 75 (0, 0))) ∧ Aside0 (TZ wr ok (.slice Au n cu) n) ∧ Aside0 (TsZ wr ok (.slice (some ⟨g7, o7, none⟩) ys.length c7) ns) ∧ Aside0 (Kp wm wr ok))
      case atStart => exact ⟨0, Nat.zero_le _, by omega, rfl, HG7, HU7, hTS, hKp⟩
      case round =>
        obtain ⟨k, hk, hgk2, rfl, hG, hTZ, hTS2, hKp2⟩ := hrel
        have kh : wr.cell? ⟨g7, o7 + i, none⟩ = some (.slice Au n cu) := by simp [World.cell?, hG.out, HCU7.out]
        by_cases hlt2 : k < n
        · obtain ⟨gu, ou, x, curu, hAu, hgu, hcx, hfx, hoku⟩ := TZ.at_ hTZ.out k hlt2
          subst hAu
          have HGU := Aside0.mk hgu
          have HOKU := Aside0.mk hoku
          have hne : Aside0 (g7 ≠ gu) := ⟨fun e => by
            subst e
            have := hG.out
            rw [hgu] at this
            injection this with this
            injection this with _ this _
            exact absurd this (by decide)⟩
          have k0 : (0 : Int) ≤ (k : Int) := by omega
          have k1 : (k : Int) < (n : Int) := by omega
          clear hgu hoku
          go_wp2_with fail
          go_roundg (n - (k + 1))
          case measure => omega
          case rel =>
            refine ⟨k + 1, by omega, Nat.le_refl _, ?_, ⟨?_⟩, ⟨hTZ.out.setInt HGU.out _ _⟩, ⟨hTS2.out.setInt HGU.out _ _⟩, ⟨hKp2.out.setCell (.inl HOKU.out) _⟩⟩
            · first | exact congrArg (Value.int .i64) (wrap_succ k n hlt2 (by omega)) | exact congrArg (Value.int .i64) (by omega)
            · rw [Below.heap_setCell _ ⟨gu, ou + k, none⟩ _ g7 hne.out]
              exact hG.out
        · have hkk : k = n := by omega
          subst hkk
          have hkb : k ≤ 1000000 := by omega
          go_wp2_with (at_builtin; refine append_TZ (W := wr) (ok := ok) (u := .slice Au k cu) (n := k) (y := 9) rfl (.tmp 114) (.tmp 115) rfl rfl rfl hTZ.out hkb ?_; intro v' w' hA hv'; obtain ⟨A', c', rfl⟩ := hv'; obtain ⟨g7', o7', u', cur', he', hg', hc', hf', _, _⟩ := TsZ.at_ (hA.2.2 ok _ ns hTS2.out) i HN.out; injection he' with he'; injection he' with he1 he2 _; subst he1; subst he2; (have HA := Aside0.mk hA); clear hA hg' kh)
          go_roundg (ys.length - (i + 1))
          case measure => omega
          case rel =>
            refine ⟨i + 1, ns.set i (k + 1), by omega, Nat.le_refl _, ?_, ⟨by rw [List.length_set]; exact hnl.out⟩, ⟨fun q hq => ?_⟩, ⟨TsZ.setRow (HA.out.2.2 ok _ ns hTS2.out) HN.out (HA.out.1.okmono (fun q hq _ => hq.elim id (fun h => ?_)))⟩, ⟨(hKp2.out.trans HA.out.2.1).setCell (.inl HOK7.out) _⟩⟩
            · first | exact congrArg (Value.int .i64) (wrap_succ i ys.length hlt (by omega)) | exact congrArg (Value.int .i64) (by omega)
            · rcases List.mem_or_eq_of_mem_set hq with h | h
              · have := hnb.out q h; omega
              · omega
            · rw [← HOK.out]
              exact .inr (Nat.le_trans hKp2.out.size h)
    · have hii : i = ys.length := by omega
      subst hii
      have HBm : Aside0 (Below w7.heap.size w7 wr) := ⟨H7m.out.trans (hKp.out.below H7m.out.size (fun k hk => by
        rw [← HOK.out] at hk
        rcases hk with hk | hk
        · exact hk.1
        · exact Nat.le_trans H7m.out.size hk))⟩
      have V14r : Aside0 (Kd.C (Kd.slice 3 (Kd.int .i64)) wr A14 set.length set) := ⟨by
        obtain ⟨A', c', he, _, hF⟩ := V14m.out
        injection he with he _ _
        rw [he]
        exact hF wr (fun k hk hlt => hKp.out.block k hlt (fun h => by
          rw [← HOK.out] at h
          have := HSZ.out
          rcases h with h | h
          · omega
          · omega))⟩
      clear hTS hKp V14m H7m
      obtain ⟨k0, k1, k2, k3, k4⟩ := (HBI.out.below HBm.out).cells
      go_upto_region 23 with (go_at_call 28; (with_reducible refine (J28.out _ HBm.out).mono ?_); rintro e w20 ⟨v19, v20, rfl, ht19, ht20, hb20⟩; obtain ⟨A19, c19, rfl, hc19, hC19⟩ := TupsAt.reads ht19; obtain ⟨A20, c20, rfl, hc20, hC20⟩ := TupAt.reads ht20; (have G19 := Aside0.mk hc19); (have C19 := Aside0.mk hC19); (have HB20 := Aside0.mk hb20); clear ht19 ht20 hc19 hC19 hc20 hC20 hb20)
      clear k0 k1 k2 k3 k4
      have HB20' : Aside0 (Below w7.heap.size w7 w20) := ⟨HBm.out.trans (HB20.out.mono HBm.out.size)⟩
      have HBw : Aside0 (Below w.heap.size w w20) := ⟨HW7.out.trans (HB20'.out.mono HW7.out.size)⟩
      have C14r := Aside0.mk (Kd.C_below V14r.out HB20.out)
      obtain ⟨k0, k1, k2, k3, k4⟩ := (HBI.out.below HB20'.out).cells
      obtain ⟨m0, m1, m2, m3, m4⟩ := (HBV.out.below HB20'.out).cells
      go_wp2_with (first | (go_at_call 30; (with_reducible refine (rhizomeref10_Same.calls q2 A19 c19 set A14 c14 set true _ C19.out G19.out C14r.out G14.out Q2.out).mono ?_); rintro e w21 ⟨rfl, n21, rfl⟩) | (go_at_call 33; (with_reducible refine (rhizomeref09_Same.calls q4 nm kd A2' c2' out A3' c3' ats lb nm kd A2 c2 out A3 c3 ats lb true _ (Kd.C_drewN (Kd.C_below HI2.out.2 HB20'.out) _) HI2.out.1 (Kd.C_drewN (Kd.C_below HI3.out.2 HB20'.out) _) HI3.out.1 (Kd.C_drewN (Kd.C_below H2.out HBw.out) _) HG2.out (Kd.C_drewN (Kd.C_below H3.out HBw.out) _) HG3.out Q4.out).mono ?_); rintro e w22 ⟨rfl, hb22⟩; (have HB22 := Aside0.mk (HBw.out.trans ((pw_below_drewN (Below.refl _ _) n21).trans (hb22) |>.mono HBw.out.size))); (have HB22' := Aside0.mk (HB20'.out.trans ((pw_below_drewN (Below.refl _ _) n21).trans (hb22) |>.mono HB20'.out.size))); clear hb22) | (go_at_call 34; (with_reducible refine (rhizomeref07_SameEdges.calls q5 A6 c6 es A1 c1 es true _ (Kd.C_below HIL.out.2 HB22'.out) HIL.out.1 (Kd.C_below HE.out HB22.out) HGE.out Q5.out).mono ?_); rintro e w23 ⟨rfl, n23, rfl⟩))
      go_ret
      exact ⟨rfl, pw_below_drewN HB22.out _⟩
end Go.Proofs.Ytcchcifcfcpjiaa.J

namespace Go.Proofs.Ytcchcifcfcpjiaa.J
open Go.RowKit Go.Proofs.YtcchcifcfcpjiaaW.PrintWords Go.Proofs.YtcchcifcfcpjiaaW.PrintLast Go.Proofs.YtcchcifcfcpjiaaW.PrintMore Go.Proofs.Ytcchcifcfcpjiaa.PJ
set_option linter.unusedVariables false
set_option linter.unusedSimpArgs false
set_option maxRecDepth 100000 in
theorem law_unfit (w : World) {nm lb : ByteArray} {kd : Int} {A2 A3 A1 : Option Addr} {c2 c3 c1 : Nat} {out : List ByteArray} {ats : List S118} {es : List S82}
    (h2 : Kd.C Kd.string w A2 out.length out) (g2 : out.length ≤ c2) (h3 : Kd.C k118 w A3 ats.length ats) (g3 : ats.length ≤ c3) (hE : Kd.C k82 w A1 es.length es) (gE : es.length ≤ c1)
    (hf : rhizomelaw11_Fits.f nm kd out ats lb es = some false) :
    Calls Try.prog 4 #[.agg #[.string nm, .int .i64 kd, .slice A2 out.length c2, .slice A3 ats.length c3, .string lb], .slice A1 es.length c1] w fun e w' => e = .returned (.bool true) ∧ Below w.heap.size w w' := by
  have H2 := Aside0.mk h2
  have H3 := Aside0.mk h3
  have HE := Aside0.mk hE
  have HG2 := Aside0.mk g2
  have HG3 := Aside0.mk g3
  have HGE := Aside0.mk gE
  have HFV := Aside0.mk hf
  clear h2 h3 hE g2 g3 gE hf
  have hu59 := Try.underlying59
  go_enter Try.func4, Try.ntmps4
  go_upto_region 1 with fail
  have HB1 : Aside0 (Below w.heap.size w (w.alloc (.cells #[.string nm, .int .i64 kd, .slice A2 out.length c2, .slice A3 ats.length c3, .string lb] 59))) := ⟨below_alloc (Below.refl _ _) _⟩
  have HBX : Aside0 (BoxAt (w.alloc (.cells #[.string nm, .int .i64 kd, .slice A2 out.length c2, .slice A3 ats.length c3, .string lb] 59)) w.heap.size nm kd (.slice A2 out.length c2) (.slice A3 ats.length c3) lb) := ⟨heap_alloc_new _ _⟩
  generalize w.alloc (.cells #[.string nm, .int .i64 kd, .slice A2 out.length c2, .slice A3 ats.length c3, .string lb] 59) = w1 at *
  go_upto_if 29 with (first | (go_at_call 24; (with_reducible refine (rhizomelaw11_awake.calls true _ rfl).mono ?_); rintro e w2 ⟨rfl, hb2⟩; (have HB2 := Aside0.mk hb2); clear hb2; obtain ⟨k0, k1, k2, k3, k4⟩ := (HBX.out.below HB2.out).cells) | (go_at_call 25; (with_reducible refine (rhizomelaw11_Fits.calls nm kd _ _ out _ _ ats lb _ _ es false _ (Kd.C_below H2.out ?s1) HG2.out (Kd.C_below H3.out ?s1) HG3.out (Kd.C_below HE.out ?s1) HGE.out HFV.out).mono ?_); (case s1 => exact HB1.out.trans (HB2.out.mono HB1.out.size)); rintro e w3 ⟨rfl, hb3⟩; (have HB3 := Aside0.mk hb3); clear hb3))
  have HW3 : Aside0 (Below w.heap.size w w3) := ⟨(HB1.out.trans (HB2.out.mono HB1.out.size)).trans (HB3.out.mono (HB1.out.trans (HB2.out.mono HB1.out.size)).size)⟩
  clear k0 k1 k2 k3 k4 HB1 HB2 HB3 HBX
  go_wp2_with (go_at_call 24; (with_reducible refine (rhizomelaw11_awake.calls true _ rfl).mono ?_); rintro e w4 ⟨rfl, hb4⟩)
  go_ret
  exact ⟨rfl, HW3.out.trans (hb4.mono HW3.out.size)⟩

theorem law_any (w : World) {nm lb : ByteArray} {kd : Int} {A2 A3 A1 : Option Addr} {c2 c3 c1 : Nat} {out : List ByteArray} {ats : List S118} {es : List S82}
    (h2 : Kd.C Kd.string w A2 out.length out) (g2 : out.length ≤ c2) (h3 : Kd.C k118 w A3 ats.length ats) (g3 : ats.length ≤ c3) (hE : Kd.C k82 w A1 es.length es) (gE : es.length ≤ c1) (ht : TxtOk nm lb ats) :
    Calls Try.prog 4 #[.agg #[.string nm, .int .i64 kd, .slice A2 out.length c2, .slice A3 ats.length c3, .string lb], .slice A1 es.length c1] w fun e w' => e = .returned (.bool true) ∧ Below w.heap.size w w' := by
  by_cases hh : out.length ≤ 12 ∧ ats.length ≤ 12 ∧ es.length ≤ 25
  · exact law_fit w h2 g2 h3 g3 hE gE hh.1 hh.2.1 hh.2.2 ht
  · refine law_unfit w h2 g2 h3 g3 hE gE ?_
    unfold rhizomelaw11_Fits.f
    by_cases h5 : (es.length : Int) ≤ 25
    · rw [if_pos h5]
      by_cases h6 : (ats.length : Int) ≤ 12
      · rw [if_pos h6, decide_eq_false (by omega)]
      · rw [if_neg h6]
    · rw [if_neg h5]
end Go.Proofs.Ytcchcifcfcpjiaa.J
namespace Go.Proofs.Ytcchcifcfcpjiaa.joinRows
open Go.ChangeShapes Go.WideShapes Go.ChangeAt Go.RowKit Go.Proofs.Ytcchcifcfcpjiaa.PJ Go.Proofs.Ytcchcifcfcpjiaa.J Go.Proofs.YtcchcifcfcpjiaaW.PrintWords
open Go.ChangeMaps (open_string shut_string)
set_option linter.unusedVariables false
theorem own : ownKnob Try.prog.godebug = none := by kernel_rfl
theorem laidOut : laidOutB Try.prog = true := by kernel_rfl
set_option maxRecDepth 100000 in
theorem lifted (os : Os) (started : os.Started) (H : Type) (enc : TypeId × Value → H) :
    ReturnsInHanded {} Try.checked os 4 .any (Rows.joinRowsSpec.pre6 enc Try.prog Try.f4 Rows.joinRowsRow.domain false) (Rows.joinRowsSpec.post enc Try.prog Try.f4 false true false false) := by
  refine returnsInHanded_of_change_sized (C := Try.checked) own started (by kernel_rfl) Try.func4
    (ChangeSpec.witness6 (enc := enc) (C := Try.checked) false ⟨#[], #[.agg #[.string ByteArray.empty, .int .i64 0, .slice none 0 0, .slice none 0 0, .string ByteArray.empty], .slice none 0 0], []⟩ 8 (by kernel_rfl) (by kernel_rfl) (by kernel_rfl) (by kernel_rfl)) ?_
  intro W base args ds gs before hval0 hW hcnd hsz0 _
  have hval : ∀ (j : Nat) t v, Try.f4.params[j]? = some t → args[j]? = some v → Value.okWide Try.prog W .any base t v := hval0
  have hW' := hW
  obtain ⟨p, q, hA0, hV, rfl, hfz, hnd⟩ := hW
  have hA : DataW.TrodAll enc Try.prog W 0 (fun _ => true) true Try.f4.params.toList args.toList ds p := hA0
  rw [Try.params4] at hA hval
  obtain ⟨v0, vs0, d0, ds0, p0, q0, hargs, rfl, rfl, h0, r0⟩ := trodAll_cons hA
  obtain ⟨v1, vs1, d1, ds1, p1, q1, rfl, rfl, rfl, h1, r1⟩ := trodAll_cons r0
  obtain ⟨rfl, rfl, rfl⟩ := trodAll_nil r1
  obtain rfl : args = #[v0, v1] := by cases args; simp_all
  obtain ⟨rfl, rfl⟩ := trodVars_none hV
  have k0 := h0
  have k1 := h1
  have lt0 : ∀ x ∈ p0, x.block < W.heap.size := by obtain ⟨m, hm⟩ := k0; exact DataW.trod_lt m _ _ _ hm
  have lt1 : ∀ x ∈ p1, x.block < W.heap.size := by obtain ⟨m, hm⟩ := k1; exact DataW.trod_lt m _ _ _ hm
  obtain ⟨cs0, rfl, _⟩ := okWide_struct Try.underlying59 (hval 0 59 v0 rfl rfl)
  obtain ⟨a1, len1, cap1, rfl⟩ := okWide_slice Try.underlying60 (hval 1 60 v1 rfl rfl)
  obtain ⟨n0, t0⟩ := h0
  obtain ⟨n1, t1⟩ := h1
  obtain ⟨nm, lb, kd, A2, A3, c2, c3, out, ats, hcs, l2, l3, C2, C3, s0, s4, P3⟩ := open_view t0
  obtain ⟨Ae, ce, es, he, le, Ce, _⟩ := open_C k82 (fun z => z.f1.size ≤ maxLen) Try.underlying60 (by kernel_rfl) el_82 t1
  have hcs' : (Value.agg cs0) = .agg #[.string nm, .int .i64 kd, .slice A2 out.length c2, .slice A3 ats.length c3, .string lb] := by
    congr 1
    apply Array.ext'
    simpa [Value.cells] using hcs
  have he' : (Value.slice a1 len1 cap1) = .slice Ae es.length ce := by simpa [Value.cells] using he
  have hc := law_any W (nm := nm) (lb := lb) (kd := kd) C2 l2 C3 l3 Ce le ⟨s0, s4, P3⟩
  rw [← hcs', ← he'] at hc
  clear hA0 hval0 hsz0
  refine hc.mono fun e W' ⟨he, bel⟩ => ?_
  subst he
  exact ⟨_, rfl, _, _, _, [], _, [], hW', trodAll_mk1 (shut_bool Try.underlying4 _), (trodAll_cons_mk (Below.trod laidOut (by kernel_rfl) (of_decide_eq_true (by kernel_rfl)) k0 bel lt0) (trodAll_cons_mk (Below.trod laidOut (by kernel_rfl) (of_decide_eq_true (by kernel_rfl)) k1 bel lt1) trodAll_mk0)), rfl, bel.frame _, fun h => by cases h⟩
theorem over : Rows.joinRowsRow.holds Try.pinned (OpenSpec.ofChange Rows.joinRowsSpec) :=
  OpenClaim.holds_of_wide 4 Try.f4 rfl rfl rfl rfl rfl rfl rfl ⟨rfl, rfl, rfl, rfl, rfl⟩ rfl rfl rfl rfl rfl (by kernel_rfl) Try.func4 (by kernel_rfl)
    (of_decide_eq_true (by kernel_rfl)) (by unfold Func.isWrapper; first | (rw [if_pos (by decide +kernel)]; kernel_rfl) | (rw [if_neg (by decide +kernel)]; exact ⟨rfl, rfl⟩))
    (fun os started H enc _ => lifted os started H enc)
theorem proved : Rows.JoinRowsSaid := over
#print axioms proved
end Go.Proofs.Ytcchcifcfcpjiaa.joinRows
namespace Go.Proofs.Ytcchcifcfcpjiaa
/-- The row, under a short name, for the claim. -/
theorem joinRows_holds : Rows.JoinRowsSaid := joinRows.proved
end Go.Proofs.Ytcchcifcfcpjiaa
