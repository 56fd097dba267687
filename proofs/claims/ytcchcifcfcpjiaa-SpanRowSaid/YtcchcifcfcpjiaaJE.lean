/- tuple.Set: the tuples of a list, rising, none twice. -/
import Derived.Test.YtcchcifcfcpjiaaJD
set_option linter.unusedVariables false
set_option linter.unusedSimpArgs false
namespace Go.Proofs.Ytcchcifcfcpjiaa.J
open Go.RowKit Go.Proofs.YtcchcifcfcpjiaaW.PrintWords Go.Proofs.YtcchcifcfcpjiaaW.PrintLast Go.Proofs.YtcchcifcfcpjiaaW.PrintMore Go.Proofs.Ytcchcifcfcpjiaa.PJ
open Go.Sort (putRow grow putCells mapBlock onCells Holds putRow_set putRow_self getElem!_set_same getElem!_set_other)

/-- ys: the members of xss, rising, none twice. -/
structure IsSet (xss ys : List (List Int)) : Prop where
  up : ys.Pairwise (fun a b => cmpL a b < 0)
  mem : ∀ x, x ∈ ys ↔ x ∈ xss

theorem cmpL_irrefl (a : List Int) : ¬ cmpL a a < 0 := by rw [cmpL_refl]; omega
theorem cmpL_asymm {a b : List Int} (h : cmpL a b < 0) : ¬ cmpL b a < 0 := by rw [cmpL_anti]; omega
theorem cmpL_le_trans {a b c : List Int} (h : cmpL a b ≤ 0) (k : cmpL b c < 0) : cmpL a c < 0 := by
  by_cases h0 : cmpL a b = 0
  · rw [cmpL_eq h0]; exact k
  · exact cmpL_trans (b := b) (by omega) k

theorem IsSet.uniq {xss ys zs : List (List Int)} (h : IsSet xss ys) (k : IsSet xss zs) : ys = zs := by
  have hm : ∀ x, x ∈ ys ↔ x ∈ zs := fun x => (h.mem x).trans (k.mem x).symm
  have hu := h.up
  have ku := k.up
  clear h k
  induction ys generalizing zs with
  | nil => cases zs with
    | nil => rfl
    | cons z zs => exact absurd ((hm z).2 (by simp)) (by simp)
  | cons y ys ih => cases zs with
    | nil => exact absurd ((hm y).1 (by simp)) (by simp)
    | cons z zs =>
      rw [List.pairwise_cons] at hu ku
      have hyz : y = z := by
        rcases List.mem_cons.1 ((hm y).1 (by simp)) with h1 | h1
        · exact h1
        · rcases List.mem_cons.1 ((hm z).2 (by simp)) with h2 | h2
          · exact h2.symm
          · exact absurd (ku.1 y h1) (cmpL_asymm (hu.1 z h2))
      subst hyz
      rw [ih (fun x => ?_) hu.2 ku.2]
      constructor
      · intro hx
        rcases List.mem_cons.1 ((hm x).1 (List.mem_cons_of_mem _ hx)) with h1 | h1
        · subst h1; exact absurd (hu.1 x hx) (cmpL_irrefl x)
        · exact h1
      · intro hx
        rcases List.mem_cons.1 ((hm x).2 (List.mem_cons_of_mem _ hx)) with h1 | h1
        · subst h1; exact absurd (ku.1 x hx) (cmpL_irrefl x)
        · exact h1

theorem kept_isSet {α : Type} [Inhabited α] (key : α → List Int) (d : Array α) (hs : Rising (d.toList.map key)) : ∀ m, m ≤ d.size →
    ((kept key d m).map key).Pairwise (fun a b => cmpL a b < 0) ∧ (∀ x, x ∈ (kept key d m).map key ↔ ∃ j, j < m ∧ x = key d[j]!) := by
  have hle : ∀ i j, i < j → j < d.size → cmpL (key d[i]!) (key d[j]!) ≤ 0 := by
    intro i j hij hj
    unfold Rising at hs
    rw [List.pairwise_map, List.pairwise_iff_getElem] at hs
    have := hs i j (by simp; omega) (by simp; omega) hij
    rw [getElem!_pos d i (by omega), getElem!_pos d j hj]
    simpa using this
  have hle' : ∀ i j, i ≤ j → j < d.size → cmpL (key d[i]!) (key d[j]!) ≤ 0 := by
    intro i j hij hj
    rcases Nat.lt_or_eq_of_le hij with h | h
    · exact hle i j h hj
    · subst h; rw [cmpL_refl]; omega
  intro m
  induction m with
  | zero =>
    intro _
    refine ⟨by simp [kept], fun x => ?_⟩
    simp [kept]
  | succ m ih =>
    intro hm
    obtain ⟨h1, h2⟩ := ih (by omega)
    rw [kept_succ, List.map_append]
    cases hst : stays key d m with
    | true =>
      simp only [if_true, List.map_cons, List.map_nil]
      refine ⟨?_, fun x => ?_⟩
      · rw [List.pairwise_append]
        refine ⟨h1, List.pairwise_singleton _ _, fun a ha b hb => ?_⟩
        obtain ⟨j, hj, rfl⟩ := (h2 a).1 ha
        rw [List.mem_singleton] at hb
        subst hb
        have hne : key d[m]! ≠ key d[m - 1]! := (of_decide_eq_true hst).resolve_left (by omega)
        refine cmpL_le_trans (b := key d[m - 1]!) (hle' j (m - 1) (by omega) (by omega)) ?_
        have h3 := hle (m - 1) m (by omega) (by omega)
        have h4 : cmpL (key d[m - 1]!) (key d[m]!) ≠ 0 := fun h => hne (cmpL_eq h).symm
        omega
      · rw [List.mem_append, h2, List.mem_singleton]
        constructor
        · rintro (⟨j, hj, rfl⟩ | rfl)
          · exact ⟨j, by omega, rfl⟩
          · exact ⟨m, by omega, rfl⟩
        · rintro ⟨j, hj, rfl⟩
          by_cases e : j = m
          · subst e; exact .inr rfl
          · exact .inl ⟨j, by omega, rfl⟩
    | false =>
      simp only [Bool.false_eq_true, if_false, List.map_nil, List.append_nil]
      refine ⟨h1, fun x => ?_⟩
      rw [h2]
      constructor
      · rintro ⟨j, hj, rfl⟩; exact ⟨j, by omega, rfl⟩
      · rintro ⟨j, hj, rfl⟩
        by_cases e : j = m
        · subst e
          have h5 := of_decide_eq_false hst
          have hj0 : j ≠ 0 := fun e => h5 (.inl e)
          refine ⟨j - 1, by omega, ?_⟩
          exact Classical.byContradiction (fun h6 => h5 (.inr h6))
        · exact ⟨j, by omega, rfl⟩

theorem clip63_calls (w : World) {α : Type} {ok : Nat → Prop} {R : Value → α → Prop} {v : Value} {xs : List α} (h : SlAt w ok 75 R v xs) : Calls Try.prog 99 #[v] w fun e w' => (∃ v', e = .returned v' ∧ SlAt w' ok 75 R v' xs) ∧ w' = w := by
  have hl := SlAt.len_le h
  rcases h with ⟨rfl, rfl⟩ | ⟨g, off, cap, cur, rfl, h1, h2, h3, h4, h5, h6⟩
  · go_enter Try.func99, Try.ntmps99
    go_wp2
    go_ret
    exact ⟨⟨_, rfl, SlAt.nil _ _ _ _⟩, rfl⟩
  · have H6 : Hid (∀ (j : Nat) (x : α), xs[j]? = some x → ∃ u, cur[off + j]? = some u ∧ R u x) := h6
    have H4 : Hid (cap ≤ maxLen) := h4
    have Hl : Hid (xs.length ≤ maxLen) := hl
    unfold maxLen at hl h4
    clear h6
    go_enter Try.func99, Try.ntmps99
    go_wp2
    go_ret
    exact ⟨⟨_, rfl, .inr ⟨g, off, xs.length, cur, rfl, h1, h2, Nat.le_refl _, Hl.out, Nat.le_trans (Nat.add_le_add_left h3 _) h5, H6.out⟩⟩, rfl⟩

/-- slices.CompactFunc(out, same), out rising. -/
theorem compact_calls (w : World) {base : Nat} {ok : Nat → Prop} {v : Value} {us : List Value} {xss : List (List Int)} (ho : w.ownsRow base 75 1 v xss.length us) (hT : TupsU w ok us xss) (hr : Rising xss) (hl : xss.length ≤ 1000000) (hin : ∀ xs ∈ xss, xs.length ≤ 1000000) (hok : ∀ k, v.ownBlock = some k → ok k) :
    Calls Try.prog 100 #[v, .func (.func 101) #[] #[]] w fun e w' => ∃ v' ys, e = .returned v' ∧ IsSet xss ys ∧ TupsAt w' ok v' ys ∧ w.grownBy w' v.ownBlock := by
  rcases ho.2 with ⟨rfl, h1⟩ | ⟨g, cap, cur, rfl, hb, hg, hn, hm, hs, ht⟩
  · have hx : xss = [] := List.eq_nil_of_length_eq_zero h1
    subst hx
    go_enter Try.func100, Try.ntmps100
    go_wp2
    go_ret
    exact ⟨_, [], rfl, ⟨List.Pairwise.nil, fun x => Iff.rfl⟩, SlAt.nil _ _ _ _, ⟨rfl, rfl, rfl, Nat.le_refl _, fun _ _ _ => rfl⟩⟩
  · obtain ⟨d, hd1, hd2⟩ := exists_list (α := El w (fun k => ok k ∧ k ≠ g)) El.enc (fun x => x.1.2) us xss hT.1 (fun j u x hu hx => ⟨⟨(u, x), (hT.2 j u x hu hx).off hg (by decide), hin _ (List.mem_of_getElem? hx)⟩, rfl, rfl⟩)
    have hdl : d.toArray.size = xss.length := by rw [← hd2]; simp
    have hH : Go.Sort.Holds (El.enc (w := w) (ok := fun k => ok k ∧ k ≠ g)) w g 0 d.toArray := by
      intro j hj
      have hjd : j < d.length := by simpa using hj
      have hu : us[j]? = some (d[j].enc) := by rw [← hd1]; simp [hjd]
      have hc := ho.cells (g := g) rfl j _ hu
      rw [add_at] at hc
      rw [getElem!_pos _ j hj]
      refine ⟨hc, ?_⟩
      simp [World.frozen?, hg]
    have hcon := compact_core w (ok := ok) g 0 cap d.toArray hH (by omega) (by omega)
    rw [hdl] at hcon
    refine Calls.mono (R := _) hcon ?_
    rintro e w' ⟨rfl, q, rfl⟩
    obtain ⟨hk1, hk2⟩ := kept_isSet (fun x : El w (fun k => ok k ∧ k ≠ g) => x.1.2) d.toArray (by simpa [hd2] using hr) d.toArray.size (Nat.le_refl _)
    have hkl := kept_le (key := fun x : El w (fun k => ok k ∧ k ≠ g) => x.1.2) d.toArray d.toArray.size
    rw [hdl] at hk1 hk2 hkl
    generalize hK : kept (fun x : El w (fun k => ok k ∧ k ≠ g) => x.1.2) d.toArray xss.length = K at *
    refine ⟨_, K.map (fun x => x.1.2), rfl, ⟨hk1, fun x => ?_⟩, ?_, ?_⟩
    · rw [hk2, List.mem_iff_getElem]
      constructor
      · rintro ⟨j, hj, rfl⟩
        refine ⟨j, hj, ?_⟩
        have hjd : j < d.length := by rw [← hd2] at hj; simpa using hj
        rw [getElem!_pos _ j (by simpa using hjd)]
        simp [← hd2]
      · rintro ⟨j, hj, rfl⟩
        refine ⟨j, hj, ?_⟩
        have hjd : j < d.length := by rw [← hd2] at hj; simpa using hj
        rw [getElem!_pos _ j (by simpa using hjd)]
        simp [← hd2]
    · have hw : putRow El.enc (Go.Sort.ahead w q) g 0 (K ++ List.replicate (xss.length - K.length) default).toArray = sortWorld El.enc w g 0 q (K ++ List.replicate (xss.length - K.length) default).toArray #[] := by simp [sortWorld, Go.Sort.grow_empty]
      rw [hw]
      have hsz : (K ++ List.replicate (xss.length - K.length) (default : El w (fun k => ok k ∧ k ≠ g))).toArray.size = xss.length := by simp; omega
      have hown : (sortWorld El.enc w g 0 q (K ++ List.replicate (xss.length - K.length) default).toArray #[]).ownsRow base 75 1 (.slice (some ⟨g, 0, none⟩) K.length cap) K.length (K.map El.enc) := by
        refine ⟨by simp, .inr ⟨g, cap, _, rfl, hb, sw_at hg, by omega, hm, by rw [size_put]; exact hs, ?_⟩⟩
        rw [Nat.mul_one]
        have h3 := take_put El.enc cur (K ++ List.replicate (xss.length - K.length) (default : El w (fun k => ok k ∧ k ≠ g))).toArray (by rw [hsz]; omega)
        have h4 := congrArg (List.take K.length) h3
        rw [List.take_take, hsz, Nat.min_eq_left hkl] at h4
        rw [h4]
        simp
      have hl2 : K.length = (K.map (fun x : El w (fun k => ok k ∧ k ≠ g) => x.1.2)).length := by simp
      refine SlAt.ofOwn hown (by simp) (fun j u x hu hx => ?_) (fun k hk => hok k hk)
      rw [List.getElem?_map] at hu hx
      cases hj : K[j]? with
      | none => rw [hj] at hu; simp at hu
      | some z =>
        rw [hj] at hu hx
        simp only [Option.map_some, Option.some.injEq] at hu hx
        subst hu hx
        exact (z.2.1.step (fun k hk hlt => sw_block hlt hk.2)).okmono (fun k hk _ => hk.1)
    · have hw : putRow El.enc (Go.Sort.ahead w q) g 0 (K ++ List.replicate (xss.length - K.length) default).toArray = sortWorld El.enc w g 0 q (K ++ List.replicate (xss.length - K.length) default).toArray #[] := by simp [sortWorld, Go.Sort.grow_empty]
      rw [hw]
      exact sw_grown _ rfl

theorem IsSet.congr {xss xss' ys : List (List Int)} (h : IsSet xss' ys) (hp : xss'.Perm xss) : IsSet xss ys := ⟨h.up, fun x => (h.mem x).trans hp.mem_iff⟩

set_option maxRecDepth 100000 in
/-- tuple.Set. -/
theorem set_calls (w : World) {ok : Nat → Prop} {v : Value} {xss : List (List Int)} (h : TupsAt w ok v xss) (hl : xss.length ≤ 1000000) (hin : ∀ xs ∈ xss, xs.length ≤ 1000000) :
    Calls Try.prog 67 #[v] w fun e w' => (∃ v' ys, e = .returned v' ∧ IsSet xss ys ∧ TupsAt w' (w.heap.size ≤ ·) v' ys) ∧ Below w.heap.size w w' := by
  have HIn := Aside0.mk hin
  have H := Aside0.mk h
  clear hin h
  go_enter Try.func67, Try.ntmps67
  go_wp2_with fail
  refine (own_calls _ H.out hl HIn.out).mono ?_
  rintro e w1 ⟨⟨v1, us, rfl, ho, hu⟩, hb⟩
  have HO := Aside0.mk ho
  have HU := Aside0.mk hu
  have HB := Aside0.mk hb
  clear ho hu hb
  go_wp2_with fail
  refine (sort_calls _ HO.out HU.out hl HIn.out).mono ?_
  rintro e w2 ⟨rfl, us2, xss2, hp, hr, ho2, hu2, hg2⟩
  have hlen : xss2.length = xss.length := hp.length_eq
  have HO2 := Aside0.mk ho2
  have HU2 := Aside0.mk hu2
  have HG2 := Aside0.mk hg2
  have HL := Aside0.mk hlen
  clear ho2 hu2 hg2 hlen
  go_wp2_with fail
  refine (compact_calls w2 (v := v1) (us := us2) (xss := xss2) (by rw [HL.out]; exact HO2.out) HU2.out hr (by rw [HL.out]; exact hl) (fun xs hx => HIn.out xs (hp.mem_iff.1 hx)) (fun k hk => own_base HO.out k hk)).mono ?_
  rintro e w3 ⟨v3, ys, rfl, hset, hT3, hg3⟩
  have HT3 := Aside0.mk hT3
  have HG3 := Aside0.mk hg3
  clear hT3 hg3
  go_wp2_with fail
  refine (clip63_calls w3 HT3.out).mono ?_
  rintro e w4 ⟨⟨v4, rfl, hT4⟩, rfl⟩
  have HT4 := Aside0.mk hT4
  clear hT4
  go_wp2
  go_ret
  exact ⟨⟨v4, ys, rfl, hset.congr hp, HT4.out⟩, (HB.out.grown HG2.out HB.out.size (fun k hk => own_base HO.out k hk)).grown HG3.out (Nat.le_trans HB.out.size HG2.out.size) (fun k hk => own_base HO.out k hk)⟩
end Go.Proofs.Ytcchcifcfcpjiaa.J
