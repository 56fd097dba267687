/- slices.SortFunc at tuples. -/
import Derived.Test.YtcchcifcfcpjiaaJB
import Derived.Test.YtcchcifcfcpjiaaJP
import Derived.Test.YtcchcifcfcpjiaaShelfA
import Derived.Shelf.SlSortCmp.NoneTotal
set_option linter.unusedVariables false
set_option linter.unusedSimpArgs false
namespace Go.Proofs.Ytcchcifcfcpjiaa.J
open Go.RowKit Go.Proofs.YtcchcifcfcpjiaaW.PrintWords Go.Proofs.YtcchcifcfcpjiaaW.PrintLast Go.Proofs.YtcchcifcfcpjiaaW.PrintMore Go.Proofs.Ytcchcifcfcpjiaa.PJ

/-- tuple.Cmp, tuple.same. -/
theorem cmp_calls (w : World) {ok : Nat → Prop} {v u : Value} {xs ys : List Int} (h : TupAt w ok v xs) (k : TupAt w ok u ys) (hl : xs.length ≤ 4611686018427387904) :
    Calls Try.prog 69 #[v, u] w fun e w' => e = .returned (.int .i64 (cmpL xs ys)) ∧ ∃ q, w' = w.drewN q := by
  obtain ⟨A, c, rfl, hc, hC⟩ := h.reads
  obtain ⟨A2, c2, rfl, hc2, hC2⟩ := k.reads
  obtain ⟨n, hn⟩ := tupleCmp_val xs ys hl
  exact (tuple_Cmp.calls n _ _ _ _ _ _ _ w hC hc hC2 hc2 hn).mono fun e w' ⟨he, hd⟩ => ⟨he, hd.out⟩
theorem same_calls (w : World) {ok : Nat → Prop} {v u : Value} {xs ys : List Int} (h : TupAt w ok v xs) (k : TupAt w ok u ys) (hl : xs.length ≤ 4611686018427387904) :
    Calls Try.prog 101 #[v, u] w fun e w' => e = .returned (.bool (decide (xs = ys))) ∧ ∃ q, w' = w.drewN q := by
  obtain ⟨A, c, rfl, hc, hC⟩ := h.reads
  obtain ⟨A2, c2, rfl, hc2, hC2⟩ := k.reads
  obtain ⟨n, hn⟩ := tupleSame_val xs ys hl
  exact (tuple_same.calls n _ _ _ _ _ _ _ w hC hc hC2 hc2 hn).mono fun e w' ⟨he, hd⟩ => ⟨he, hd.out⟩

/-- The elements of a sort: a value that reads as a tuple, in an old world. -/
def El (w : World) (ok : Nat → Prop) : Type := { p : Value × List Int // TupAt w ok p.1 p.2 ∧ p.2.length ≤ 1000000 }
instance elInh (w : World) (ok : Nat → Prop) : Inhabited (El w ok) := ⟨⟨(.slice none 0 0, []), SlAt.nil _ _ _ _, by simp⟩⟩
def El.enc {w : World} {ok : Nat → Prop} (x : El w ok) : Value := x.1.1
def El.cf {w : World} {ok : Nat → Prop} (x y : El w ok) : Int := cmpL x.1.2 y.1.2
theorem El.one {w : World} {ok : Nat → Prop} : OneCell (El.enc (w := w) (ok := ok)) := fun x => by
  obtain ⟨A, c, h, _⟩ := SlAt.shape x.2.1
  show x.1.1.oneCell' = true
  rw [h]
  rfl
theorem El.swo {w : World} {ok : Nat → Prop} : Go.Sort.SWO (ltOf (El.cf (w := w) (ok := ok))) where
  irrefl x := decide_eq_false (by show ¬ cmpL _ _ < 0; rw [cmpL_refl]; omega)
  trans x y z h k := decide_eq_true (by
    have h1 : cmpL x.1.2 y.1.2 < 0 := of_decide_eq_true h
    have k1 : cmpL y.1.2 z.1.2 < 0 := of_decide_eq_true k
    exact cmpL_trans h1 k1)
  ntrans x y z h k := decide_eq_false (by
    have h1 : ¬ cmpL x.1.2 y.1.2 < 0 := of_decide_eq_false h
    have k1 : ¬ cmpL y.1.2 z.1.2 < 0 := of_decide_eq_false k
    intro h2
    have h2' : cmpL x.1.2 z.1.2 < 0 := h2
    rcases cmpL_range x.1.2 y.1.2 with h3 | h3 | h3
    · omega
    · rw [cmpL_eq h3] at h2'; exact k1 h2'
    · have h4 : cmpL y.1.2 x.1.2 < 0 := by rw [cmpL_anti]; omega
      exact k1 (cmpL_trans h4 h2'))

section
open Go.Sort (putRow grow putCells mapBlock onCells ahead)
variable {α : Type} [Inhabited α] {enc : α → Value} {w : World} {blk off m : Nat} {dk : Array α} {os : Array Obj}
theorem sw_size : (sortWorld enc w blk off m dk os).heap.size = w.heap.size + os.size := by
  simp [sortWorld, grow, putRow, mapBlock, ahead]
theorem sw_block {k : Nat} (hk : k < w.heap.size) (hne : k ≠ blk) : (sortWorld enc w blk off m dk os).heap[k]? = w.heap[k]? := by
  simp only [sortWorld, grow, putRow, mapBlock, ahead]
  rw [Array.getElem?_append_left (by simpa using hk), Array.getElem?_modify, if_neg (by omega)]
  rfl
theorem sw_at {cur : Array Value} {e : Nat} {fr : Nat × Nat} (h : w.heap[blk]? = some (.cells cur e fr)) : (sortWorld enc w blk off m dk os).heap[blk]? = some (.cells (putCells enc off dk cur) e fr) := by
  have hk := (Array.getElem?_eq_some_iff.1 h).1
  simp only [sortWorld, grow, putRow, mapBlock, ahead]
  rw [Array.getElem?_append_left (by simpa using hk), Array.getElem?_modify, if_pos rfl]
  show Option.map _ w.heap[blk]? = _
  rw [h]
  rfl
theorem sw_grown (blk' : Option Nat) (hb : blk' = some blk) : w.grownBy (sortWorld enc w blk off m dk os) blk' :=
  ⟨rfl, rfl, rfl, by rw [sw_size]; omega, fun k hk hne => sw_block hk (fun e => hne (by rw [hb, e]))⟩
end

/-- Tuples rise. -/
def Rising (xss : List (List Int)) : Prop := xss.Pairwise (fun a b => cmpL a b ≤ 0)

theorem getElem!_eq {α : Type} [Inhabited α] {d : Array α} {j : Nat} {x : α} (h : d[j]? = some x) : d[j]! = x := by
  rw [getElem!_def, h]

theorem exists_list {α : Type} (f : α → Value) (g : α → List Int) : ∀ (us : List Value) (xss : List (List Int)), us.length = xss.length → (∀ (j : Nat) u x, us[j]? = some u → xss[j]? = some x → ∃ a, f a = u ∧ g a = x) → ∃ d : List α, d.map f = us ∧ d.map g = xss
  | [], [], _, _ => ⟨[], rfl, rfl⟩
  | [], _ :: _, h, _ => by simp at h
  | _ :: _, [], h, _ => by simp at h
  | u :: us, x :: xss, h, hh => by
    obtain ⟨d, h1, h2⟩ := exists_list f g us xss (by simpa using h) (fun j u x hu hx => hh (j + 1) u x (by simpa using hu) (by simpa using hx))
    obtain ⟨a, h3, h4⟩ := hh 0 u x rfl rfl
    exact ⟨a :: d, by simp [h1, h3], by simp [h2, h4]⟩
theorem take_put {α : Type} [Inhabited α] (enc : α → Value) (cur : Array Value) (d : Array α) (h : d.size ≤ cur.size) : (Go.Sort.putCells enc 0 d cur).toList.take d.size = d.toList.map enc := by
  apply List.ext_getElem?
  intro k
  rw [List.getElem?_take, List.getElem?_map]
  by_cases hk : k < d.size
  · rw [if_pos hk, Array.getElem?_toList, Array.getElem?_toList, Go.Sort.putCells, Array.getElem?_mapIdx, Array.getElem?_eq_getElem (by omega), Array.getElem?_eq_getElem hk]
    simp only [Option.map_some, Nat.zero_le, Nat.zero_add, true_and, hk, if_true, Nat.sub_zero]
    rw [getElem!_pos d k hk]
  · rw [if_neg hk, Array.getElem?_toList, Array.getElem?_eq_none (by omega)]
    rfl
theorem size_put {α : Type} [Inhabited α] (enc : α → Value) (off : Nat) (cur : Array Value) (d : Array α) : (Go.Sort.putCells enc off d cur).size = cur.size := by simp [Go.Sort.putCells]

set_option maxRecDepth 100000 in
/-- slices.SortFunc(out, tuple.Cmp). -/
theorem sort_calls (w : World) {base : Nat} {ok : Nat → Prop} {v : Value} {us : List Value} {xss : List (List Int)} (ho : w.ownsRow base 75 1 v xss.length us) (hT : TupsU w ok us xss) (hl : xss.length ≤ 1000000) (hin : ∀ xs ∈ xss, xs.length ≤ 1000000) :
    Calls Try.prog 68 #[v, .func (.func 69) #[] #[]] w fun e w' => e = .returned (.tuple #[]) ∧ ∃ us' xss', xss'.Perm xss ∧ Rising xss' ∧ w'.ownsRow base 75 1 v xss.length us' ∧ TupsU w' ok us' xss' ∧ w.grownBy w' v.ownBlock := by
  by_cases h0 : xss.length = 0
  · have hx : xss = [] := List.eq_nil_of_length_eq_zero h0
    subst hx
    obtain ⟨A, c, rfl⟩ := own_slice ho
    refine (AnyF.slices_SortFunc_none (P := Try.prog) (ρ := Try.sortTup_ren) { Try.sortTup with } A c (.func (.func 69) #[] #[]) w).mono ?_
    rintro e w' ⟨rfl, rfl⟩
    exact ⟨rfl, us, [], List.Perm.refl _, List.Pairwise.nil, ho, hT, ⟨rfl, rfl, rfl, Nat.le_refl _, fun _ _ _ => rfl⟩⟩
  · have ho' := ho
    rcases ho.2 with ⟨rfl, h1⟩ | ⟨g, cap, cur, rfl, hb, hg, hn, hm, hs, ht⟩
    · omega
    · have hg' := (Array.getElem?_eq_some_iff.1 hg).1
      obtain ⟨d, hd1, hd2⟩ := exists_list (α := El w (fun k => ok k ∧ k ≠ g)) El.enc (fun x => x.1.2) us xss hT.1 (fun j u x hu hx => ⟨⟨(u, x), (hT.2 j u x hu hx).off hg (by decide), hin _ (List.mem_of_getElem? hx)⟩, rfl, rfl⟩)
      have hdl : d.toArray.size = xss.length := by rw [← hd2]; simp
      have hH : Go.Sort.Holds (El.enc (w := w) (ok := fun k => ok k ∧ k ≠ g)) w g 0 d.toArray := by
        intro j hj
        have hjd : j < d.length := by simpa using hj
        have hu : us[j]? = some (d[j].enc) := by rw [← hd1]; simp [hjd]
        have hc := ho'.cells (g := g) rfl j _ hu
        rw [add_at] at hc
        rw [getElem!_pos _ j hj]
        refine ⟨hc, ?_⟩
        simp [World.frozen?, hg]
      have hcmp : CmpLays1 Try.prog 69 #[] (El.enc (w := w) (ok := fun k => ok k ∧ k ≠ g)) El.cf g 0 d.toArray.size w := by
        intro m os dk hdk x y
        refine (cmp_calls (sortWorld El.enc w g 0 m dk os) (ok := fun k => ok k ∧ k ≠ g) (x.2.1.step (fun k hk hlt => sw_block hlt hk.2)) (y.2.1.step (fun k hk hlt => sw_block hlt hk.2)) (by have := x.2.2; omega)).mono ?_
        rintro e w' ⟨rfl, q, rfl⟩
        exact ⟨rfl, q, #[], by rw [Go.Sort.grow_empty]⟩
      have eg : ∀ args w, (callFunc 69 args).run Try.prog w = .ok (.enter 69 args) w := enters_of Try.func69 (by kernel_rfl) rfl
      have hcon := Any.slices_SortFunc Try.sortTup (El.enc (w := w) (ok := fun k => ok k ∧ k ≠ g)) El.one El.cf El.swo 69 #[] g 0 cap d.toArray w eg hcmp hH hg' (by omega)
      rw [hdl] at hcon
      refine Calls.mono (R := _) hcon ?_
      rintro e w' ⟨rfl, d', n, os, ⟨hp1, _, hp3⟩, hso, rfl⟩
      have hd's : d'.size = xss.length := hp1.trans hdl
      have hperm : d'.toList.Perm d := by
        have h1 : d'.extract 0 xss.length = d' := by rw [← hd's]; simp
        have h2 : d.toArray.extract 0 xss.length = d.toArray := by rw [← hdl]; simp
        rw [h1, h2] at hp3
        simpa using hp3
      refine ⟨rfl, d'.toList.map El.enc, d'.toList.map (fun x => x.1.2), ?_, ?_, ?_, ?_, sw_grown _ rfl⟩
      · rw [← hd2]; exact hperm.map _
      · unfold Rising
        rw [List.pairwise_map, List.pairwise_iff_getElem]
        intro i j hi hj hij
        have h1 := hso i j (Nat.zero_le _) hij (by have : j < d'.size := by simpa using hj
                                                   omega)
        rw [getElem!_pos d' j (by simpa using hj), getElem!_pos d' i (by simpa using hi)] at h1
        have h2 : ¬ cmpL d'[j].1.2 d'[i].1.2 < 0 := of_decide_eq_false h1
        have h3 : cmpL d'[i].1.2 d'[j].1.2 = - cmpL d'[j].1.2 d'[i].1.2 := cmpL_anti _ _
        simp only [Array.getElem_toList]
        omega
      · refine ⟨by simp [hd's], .inr ⟨g, cap, _, rfl, hb, sw_at hg, hn, hm, by rw [size_put]; exact hs, ?_⟩⟩
        rw [Nat.mul_one, ← hd's]
        exact take_put _ _ _ (by omega)
      · refine ⟨by simp, fun j u x hu hx => ?_⟩
        rw [List.getElem?_map] at hu hx
        cases hj : d'.toList[j]? with
        | none => rw [hj] at hu; simp at hu
        | some z =>
          rw [hj] at hu hx
          simp only [Option.map_some, Option.some.injEq] at hu hx
          subst hu hx
          exact (z.2.1.step (fun k hk hlt => sw_block hlt hk.2)).okmono (fun k hk _ => hk.1)

end Go.Proofs.Ytcchcifcfcpjiaa.J
