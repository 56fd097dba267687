/- What the document's comparisons say of one thing twice: true. Plain lists. Counts, one by one. Plain lists. What the document's Sorted computes: the tuples as a set. Plain lists. -/
import Derived.Test.YtcchcifcfcpjiaaPJx8
import Derived.Test.YtcchcifcfcpjiaaJP
import Derived.Test.YtcchcifcfcpjiaaPJx9
set_option linter.unusedVariables false
set_option linter.unusedSimpArgs false
namespace Go.Proofs.Ytcchcifcfcpjiaa.J
open Go.RowKit Go.Proofs.YtcchcifcfcpjiaaW.PrintWords Go.Proofs.YtcchcifcfcpjiaaW.PrintLast Go.Proofs.YtcchcifcfcpjiaaW.PrintMore Go.Proofs.Ytcchcifcfcpjiaa.PJ

theorem rd4_at (xs : List (List Int)) (i : Nat) (h : i < xs.length) : rd_L4 xs (i : Int) = xs[i] := by
  unfold rd_L4
  simp [List.getD_eq_getElem?_getD, List.getElem?_eq_getElem h]
/-- Rising, none twice. -/
def Up (l : List (List Int)) : Prop := l.Pairwise (fun a b => cmpL a b < 0)
theorem Up.head {l : List (List Int)} {i : Nat} (h : Up l) (hi : i < l.length) : ∀ y ∈ l.drop (i + 1), cmpL l[i] y < 0 := by
  have h2 : Up (l.drop i) := List.Pairwise.sublist (List.drop_sublist i l) h
  rw [List.drop_eq_getElem_cons hi] at h2
  exact (List.pairwise_cons.1 h2).1

section
variable (a b : List (List Int)) (ha : Up a) (hb : Up b) (hal : a.length ≤ 100000) (hbl : b.length ≤ 100000) (hai : ∀ t ∈ a, t.length ≤ 100000)
include ha hb hal hbl hai
theorem merge_ev : ∀ (m i k : Nat), (a.length - i) + (b.length - k) = m → i ≤ a.length → k ≤ b.length → ∀ out : List (List Int), out.length + m ≤ 1000000 →
    ∃ r, Ev (fun q => rhizomeref11_Sorted.l0 q a b out (i : Int) (k : Int)) (out ++ r) ∧ Up r ∧ r.length ≤ m ∧ ∀ x, x ∈ r ↔ x ∈ a.drop i ∨ x ∈ b.drop k := by
  intro m
  induction m using Nat.strongRecOn with
  | _ m ih =>
  intro i k hm hi hk out hol
  by_cases hia : i < a.length
  · have hda : a.drop i = a[i] :: a.drop (i + 1) := List.drop_eq_getElem_cons hia
    by_cases hkb : k < b.length
    · have hdb : b.drop k = b[k] :: b.drop (k + 1) := List.drop_eq_getElem_cons hkb
      obtain ⟨KC, hKC⟩ := refCmp_val a[i] b[k] (by have := hai _ (List.getElem_mem hia); omega)
      have hC : ∀ q, KC ≤ q → rhizomeref10_Cmp.f q a[i] b[k] = some (cmpL a[i] b[k]) := hKC
      by_cases hlt : cmpL a[i] b[k] < 0
      · obtain ⟨r, ⟨K, hK⟩, hu, hlr, hmem⟩ := ih (m - 1) (by omega) (i + 1) k (by omega) (by omega) hk (out ++ [a[i]]) (by simp; omega)
        have hK' : ∀ q, K ≤ q → rhizomeref11_Sorted.l0 q a b (out ++ [a[i]]) ((i + 1 : Nat) : Int) (k : Int) = some (out ++ [a[i]] ++ r) := hK
        refine ⟨a[i] :: r, ⟨max K KC + 5, fun q hq => ?_⟩, ?_, by rw [List.length_cons]; omega, fun x => ?_⟩
        · obtain ⟨q, rfl⟩ : ∃ j, q = j + 5 := ⟨q - 5, by omega⟩
          have c1 : (i : Int) < (a.length : Int) := by omega
          have c2 : (k : Int) < (b.length : Int) := by omega
          have c3 : (0 : Int) ≤ (i : Int) := by omega
          have c4 : (0 : Int) ≤ (k : Int) := by omega
          have c5 : out.length < 5864062014805 := by omega
          have c6 : ¬ (k : Int) ≥ (b.length : Int) := by omega
          have c7 := hC (q + 2) (by omega)
          have c8 := wrap_succ i a.length hia (by omega)
          have c9 := hK' q (by omega)
          simp only [rhizomeref11_Sorted.l0, rhizomeref11_Sorted.j1, rhizomeref11_Sorted.j2, rhizomeref11_Sorted.j3, rhizomeref11_Sorted.j4, if_true, if_false, decide_true, c1, c2, c3, c4, c5, c6, rd4_at a i hia, rd4_at b k hkb, c7, Option.bind_some, hlt, c8, c9, List.append_assoc, List.singleton_append]
        · refine List.pairwise_cons.2 ⟨fun y hy => ?_, hu⟩
          rcases (hmem y).1 hy with h | h
          · exact ha.head hia y h
          · rw [hdb] at h
            rcases List.mem_cons.1 h with rfl | h
            · exact hlt
            · exact cmpL_trans hlt (hb.head hkb y h)
        · rw [hda, List.mem_cons, hmem, List.mem_cons, or_assoc]
      · by_cases hgt : 0 < cmpL a[i] b[k]
        · obtain ⟨r, ⟨K, hK⟩, hu, hlr, hmem⟩ := ih (m - 1) (by omega) i (k + 1) (by omega) hi (by omega) (out ++ [b[k]]) (by simp; omega)
          have hK' : ∀ q, K ≤ q → rhizomeref11_Sorted.l0 q a b (out ++ [b[k]]) (i : Int) ((k + 1 : Nat) : Int) = some (out ++ [b[k]] ++ r) := hK
          have hba : cmpL b[k] a[i] < 0 := by have := cmpL_anti a[i] b[k]; omega
          refine ⟨b[k] :: r, ⟨max K KC + 5, fun q hq => ?_⟩, ?_, by rw [List.length_cons]; omega, fun x => ?_⟩
          · obtain ⟨q, rfl⟩ : ∃ j, q = j + 5 := ⟨q - 5, by omega⟩
            have c1 : (i : Int) < (a.length : Int) := by omega
            have c2 : (k : Int) < (b.length : Int) := by omega
            have c3 : (0 : Int) ≤ (i : Int) := by omega
            have c4 : (0 : Int) ≤ (k : Int) := by omega
            have c5 : out.length < 5864062014805 := by omega
            have c6 : ¬ (k : Int) ≥ (b.length : Int) := by omega
            have c10 : ¬ (i : Int) ≥ (a.length : Int) := by omega
            have c11 : cmpL a[i] b[k] > 0 := hgt
            have c7 := hC (q + 2) (by omega)
            have c8 := wrap_succ k b.length hkb (by omega)
            have c9 := hK' q (by omega)
            simp only [rhizomeref11_Sorted.l0, rhizomeref11_Sorted.j1, rhizomeref11_Sorted.j2, rhizomeref11_Sorted.j3, rhizomeref11_Sorted.j4, if_true, if_false, decide_true, decide_false, Bool.false_eq_true, c1, c2, c3, c4, c5, c6, c10, c11, rd4_at a i hia, rd4_at b k hkb, c7, Option.bind_some, hlt, c8, c9, List.append_assoc, List.singleton_append]
          · refine List.pairwise_cons.2 ⟨fun y hy => ?_, hu⟩
            rcases (hmem y).1 hy with h | h
            · rw [hda] at h
              rcases List.mem_cons.1 h with rfl | h
              · exact hba
              · exact cmpL_trans hba (ha.head hia y h)
            · exact hb.head hkb y h
          · rw [hdb, List.mem_cons, hmem, List.mem_cons]
            constructor
            · rintro (h | h | h)
              · exact .inr (.inl h)
              · exact .inl h
              · exact .inr (.inr h)
            · rintro (h | h | h)
              · exact .inr (.inl h)
              · exact .inl h
              · exact .inr (.inr h)
        · have h0 : cmpL a[i] b[k] = 0 := by omega
          have heq := cmpL_eq h0
          obtain ⟨r, ⟨K, hK⟩, hu, hlr, hmem⟩ := ih (m - 1) (by omega) (i + 1) k (by omega) (by omega) hk out (by omega)
          have hK' : ∀ q, K ≤ q → rhizomeref11_Sorted.l0 q a b out ((i + 1 : Nat) : Int) (k : Int) = some (out ++ r) := hK
          refine ⟨r, ⟨max K KC + 5, fun q hq => ?_⟩, hu, by omega, fun x => ?_⟩
          · obtain ⟨q, rfl⟩ : ∃ j, q = j + 5 := ⟨q - 5, by omega⟩
            have c1 : (i : Int) < (a.length : Int) := by omega
            have c2 : (k : Int) < (b.length : Int) := by omega
            have c3 : (0 : Int) ≤ (i : Int) := by omega
            have c4 : (0 : Int) ≤ (k : Int) := by omega
            have c6 : ¬ (k : Int) ≥ (b.length : Int) := by omega
            have c10 : ¬ (i : Int) ≥ (a.length : Int) := by omega
            have c11 : ¬ cmpL a[i] b[k] > 0 := hgt
            have c7 := hC (q + 2) (by omega)
            have c8 := wrap_succ i a.length hia (by omega)
            have c9 := hK' q (by omega)
            simp only [rhizomeref11_Sorted.l0, rhizomeref11_Sorted.j1, rhizomeref11_Sorted.j2, rhizomeref11_Sorted.j3, rhizomeref11_Sorted.j4, if_true, if_false, decide_true, decide_false, Bool.false_eq_true, c1, c2, c3, c4, c6, c10, c11, rd4_at a i hia, rd4_at b k hkb, c7, Option.bind_some, hlt, c8, c9]
          · rw [hda, hmem, List.mem_cons]
            constructor
            · rintro (h | h)
              · exact .inl (.inr h)
              · exact .inr h
            · rintro ((h | h) | h)
              · right
                rw [h, heq]
                rw [hdb]
                exact List.mem_cons_self
              · exact .inl h
              · exact .inr h
    · have hkk : k = b.length := by omega
      subst hkk
      obtain ⟨r, ⟨K, hK⟩, hu, hlr, hmem⟩ := ih (m - 1) (by omega) (i + 1) b.length (by omega) (by omega) hk (out ++ [a[i]]) (by simp; omega)
      have hK' : ∀ q, K ≤ q → rhizomeref11_Sorted.l0 q a b (out ++ [a[i]]) ((i + 1 : Nat) : Int) (b.length : Int) = some (out ++ [a[i]] ++ r) := hK
      refine ⟨a[i] :: r, ⟨K + 5, fun q hq => ?_⟩, ?_, by rw [List.length_cons]; omega, fun x => ?_⟩
      · obtain ⟨q, rfl⟩ : ∃ j, q = j + 5 := ⟨q - 5, by omega⟩
        have c1 : (i : Int) < (a.length : Int) := by omega
        have c2 : ¬ (b.length : Int) < (b.length : Int) := by omega
        have c3 : (0 : Int) ≤ (i : Int) := by omega
        have c5 : out.length < 5864062014805 := by omega
        have c6 : (b.length : Int) ≥ (b.length : Int) := by omega
        have c8 := wrap_succ i a.length hia (by omega)
        have c9 := hK' q (by omega)
        simp only [rhizomeref11_Sorted.l0, rhizomeref11_Sorted.j1, rhizomeref11_Sorted.j2, rhizomeref11_Sorted.j3, rhizomeref11_Sorted.j4, if_true, if_false, decide_true, decide_false, Bool.false_eq_true, c1, c2, c3, c5, c6, rd4_at a i hia, c8, c9, List.append_assoc, List.singleton_append]
      · refine List.pairwise_cons.2 ⟨fun y hy => ?_, hu⟩
        rcases (hmem y).1 hy with h | h
        · exact ha.head hia y h
        · rw [List.drop_length] at h
          cases h
      · rw [hda, List.mem_cons, hmem, List.mem_cons, or_assoc]
  · have hii : i = a.length := by omega
    subst hii
    by_cases hkb : k < b.length
    · have hdb : b.drop k = b[k] :: b.drop (k + 1) := List.drop_eq_getElem_cons hkb
      obtain ⟨r, ⟨K, hK⟩, hu, hlr, hmem⟩ := ih (m - 1) (by omega) a.length (k + 1) (by omega) hi (by omega) (out ++ [b[k]]) (by simp; omega)
      have hK' : ∀ q, K ≤ q → rhizomeref11_Sorted.l0 q a b (out ++ [b[k]]) (a.length : Int) ((k + 1 : Nat) : Int) = some (out ++ [b[k]] ++ r) := hK
      refine ⟨b[k] :: r, ⟨K + 5, fun q hq => ?_⟩, ?_, by rw [List.length_cons]; omega, fun x => ?_⟩
      · obtain ⟨q, rfl⟩ : ∃ j, q = j + 5 := ⟨q - 5, by omega⟩
        have c1 : ¬ (a.length : Int) < (a.length : Int) := by omega
        have c2 : (k : Int) < (b.length : Int) := by omega
        have c4 : (0 : Int) ≤ (k : Int) := by omega
        have c5 : out.length < 5864062014805 := by omega
        have c6 : ¬ (k : Int) ≥ (b.length : Int) := by omega
        have c10 : (a.length : Int) ≥ (a.length : Int) := by omega
        have c8 := wrap_succ k b.length hkb (by omega)
        have c9 := hK' q (by omega)
        simp only [rhizomeref11_Sorted.l0, rhizomeref11_Sorted.j1, rhizomeref11_Sorted.j2, rhizomeref11_Sorted.j3, rhizomeref11_Sorted.j4, if_true, if_false, decide_true, decide_false, Bool.false_eq_true, c1, c2, c4, c5, c6, c10, rd4_at b k hkb, c8, c9, List.append_assoc, List.singleton_append]
      · refine List.pairwise_cons.2 ⟨fun y hy => ?_, hu⟩
        rcases (hmem y).1 hy with h | h
        · rw [List.drop_length] at h
          cases h
        · exact hb.head hkb y h
      · rw [hdb, List.mem_cons, hmem, List.mem_cons, List.drop_length]
        simp
    · have hkk : k = b.length := by omega
      subst hkk
      refine ⟨[], ⟨2, fun q hq => ?_⟩, List.Pairwise.nil, by simp, fun x => by simp⟩
      obtain ⟨q, rfl⟩ : ∃ j, q = j + 2 := ⟨q - 2, by omega⟩
      have c1 : ¬ (a.length : Int) < (a.length : Int) := by omega
      have c2 : ¬ (b.length : Int) < (b.length : Int) := by omega
      simp only [rhizomeref11_Sorted.l0, rhizomeref11_Sorted.j1, c1, c2, if_false, decide_false, Bool.false_eq_true, List.append_nil]
end

theorem wrap_half (n : Nat) (h : n ≤ 100000) : wrap64 ((n : Int) / 2) = ((n / 2 : Nat) : Int) := by
  unfold wrap64
  omega
theorem sorted_val : ∀ (n : Nat) (l : List (List Int)), l.length = n → l.length ≤ 100000 → (∀ t ∈ l, t.length ≤ 100000) →
    ∃ r, Ev (fun k => rhizomeref11_Sorted.f k l) r ∧ Up r ∧ (∀ x, x ∈ r ↔ x ∈ l) ∧ r.length ≤ l.length := by
  intro n
  induction n using Nat.strongRecOn with
  | _ n ih =>
  intro l hn hl hin
  by_cases h2 : l.length < 2
  · refine ⟨l, Ev.step (f := fun _ => some l) (fun k => by simp only [rhizomeref11_Sorted.f]; rw [if_pos (by omega)]) (Ev.now _), ?_, fun x => Iff.rfl, Nat.le_refl _⟩
    match l, h2 with
    | [], _ => exact List.Pairwise.nil
    | [x], _ => exact List.pairwise_singleton _ _
  · have e1 : (l.take (l.length / 2)).length = l.length / 2 := by rw [List.length_take]; omega
    have e2 : (l.drop (l.length / 2)).length = l.length - l.length / 2 := by rw [List.length_drop]
    obtain ⟨a, ha, hau, ham, hal⟩ := ih (l.length / 2) (by omega) (l.take (l.length / 2)) e1 (by omega) (fun t ht => hin t (List.mem_of_mem_take ht))
    obtain ⟨b, hb, hbu, hbm, hbl⟩ := ih (l.length - l.length / 2) (by omega) (l.drop (l.length / 2)) e2 (by omega) (fun t ht => hin t (List.mem_of_mem_drop ht))
    obtain ⟨r, hr, hu, hlr, hm⟩ := merge_ev a b hau hbu (by omega) (by omega) (fun t ht => hin t (List.mem_of_mem_take ((ham t).1 ht))) _ 0 0 rfl (by omega) (by omega) [] (by simp; omega)
    refine ⟨r, ?_, hu, fun x => ?_, ?_⟩
    · refine Ev.step (f := fun k => (rhizomeref11_Sorted.f k (l.take (l.length / 2))).bind fun t206 => ((rhizomeref11_Sorted.f k (l.drop (l.length / 2))).bind fun t214 => (rhizomeref11_Sorted.l0 k t206 t214 ([] : List (List Int)) 0 0))) (fun k => ?_) (Ev.bind ha (Ev.bind hb (by simpa using hr)))
      simp only [rhizomeref11_Sorted.f, wrap_half _ hl]
      rw [if_neg (by omega), if_pos (by omega), if_pos (by omega), Int.toNat_natCast]
    · rw [hm, List.drop_zero, List.drop_zero, ham, hbm, ← List.mem_append, List.take_append_drop]
    · omega
end Go.Proofs.Ytcchcifcfcpjiaa.J

set_option linter.unusedVariables false
set_option linter.unusedSimpArgs false
namespace Go.Proofs.Ytcchcifcfcpjiaa.J
open Go.RowKit Go.Proofs.YtcchcifcfcpjiaaW.PrintWords Go.Proofs.YtcchcifcfcpjiaaW.PrintLast Go.Proofs.YtcchcifcfcpjiaaW.PrintMore Go.Proofs.Ytcchcifcfcpjiaa.PJ

/-- The counts when i tuples are done, and of the next one k are looked at. -/
def cntAt (set all : List (List Int)) (i k q : Nat) : Int := if q < i then ((all.count (set.getD q []) : Nat) : Int) else if q = i then (((all.take k).count (set.getD q []) : Nat) : Int) else 0
def cntL (set all : List (List Int)) (i k : Nat) : List Int := (List.range set.length).map (cntAt set all i k)
theorem cntL_length (set all : List (List Int)) (i k : Nat) : (cntL set all i k).length = set.length := by simp [cntL]
theorem cntL_get (set all : List (List Int)) (i k q : Nat) (h : q < set.length) : (cntL set all i k)[q]? = some (cntAt set all i k q) := by
  unfold cntL
  rw [List.getElem?_map, List.getElem?_range h]
  rfl
theorem cntL_ext {set all : List (List Int)} {i k : Nat} {l : List Int} (hl : l.length = set.length) (h : ∀ q, q < set.length → l[q]? = some (cntAt set all i k q)) : l = cntL set all i k := by
  apply List.ext_getElem?
  intro q
  rcases Nat.lt_or_ge q set.length with hq | hq
  · rw [h q hq, cntL_get _ _ _ _ _ hq]
  · rw [List.getElem?_eq_none (by omega), List.getElem?_eq_none (by rw [cntL_length]; omega)]
theorem cntL_zero (set all : List (List Int)) : List.replicate set.length 0 = cntL set all 0 0 :=
  cntL_ext (by simp) (fun q hq => by
    rw [List.getElem?_replicate, if_pos hq]
    unfold cntAt
    rw [if_neg (by omega)]
    by_cases h : q = 0
    · rw [if_pos h]; simp
    · rw [if_neg h])
theorem cntL_full (set all : List (List Int)) (k : Nat) : cntL set all set.length k = set.map (fun t => ((all.count t : Nat) : Int)) := by
  symm
  refine cntL_ext (by simp) (fun q hq => ?_)
  unfold cntAt
  rw [if_pos hq, List.getElem?_map, List.getElem?_eq_getElem hq, List.getD_eq_getElem?_getD, List.getElem?_eq_getElem hq]
  rfl
theorem cntL_next (set all : List (List Int)) (i : Nat) : cntL set all i all.length = cntL set all (i + 1) 0 :=
  cntL_ext (cntL_length _ _ _ _) (fun q hq => by
    rw [cntL_get _ _ _ _ _ hq]
    congr 1
    unfold cntAt
    rw [List.take_length]
    by_cases h1 : q < i
    · rw [if_pos h1, if_pos (by omega)]
    · rw [if_neg h1]
      by_cases h2 : q = i
      · rw [if_pos h2, if_pos (by omega)]
      · rw [if_neg h2, if_neg (by omega)]
        by_cases h3 : q = i + 1
        · rw [if_pos h3]; simp
        · rw [if_neg h3])
theorem cntL_same {set all : List (List Int)} {i k : Nat} (hi : i < set.length) (hk : k < all.length) (hne : set[i] ≠ all[k]) : cntL set all i k = cntL set all i (k + 1) :=
  cntL_ext (cntL_length _ _ _ _) (fun q hq => by
    rw [cntL_get _ _ _ _ _ hq]
    congr 1
    unfold cntAt
    by_cases h1 : q < i
    · rw [if_pos h1, if_pos h1]
    · rw [if_neg h1, if_neg h1]
      by_cases h2 : q = i
      · subst h2
        rw [if_pos rfl, if_pos rfl, List.take_add_one, List.getElem?_eq_getElem hk, List.count_append, List.getD_eq_getElem?_getD, List.getElem?_eq_getElem hi]
        have : ¬ (all[k] == set[q]) = true := by simpa using fun e => hne e.symm
        simp [List.count_cons, this]
      · rw [if_neg h2, if_neg h2])
theorem cntL_rd (set all : List (List Int)) (i k : Nat) (hi : i < set.length) : rd (cntL set all i k) (i : Int) = (((all.take k).count set[i] : Nat) : Int) := by
  unfold rd
  rw [Int.toNat_natCast, List.getD_eq_getElem?_getD, cntL_get _ _ _ _ _ hi]
  unfold cntAt
  rw [if_neg (by omega), if_pos rfl, List.getD_eq_getElem?_getD, List.getElem?_eq_getElem hi]
  rfl
theorem cntL_step {set all : List (List Int)} {i k : Nat} (hi : i < set.length) (hk : k < all.length) (he : set[i] = all[k]) : (cntL set all i k).set i ((((all.take k).count set[i] : Nat) : Int) + 1) = cntL set all i (k + 1) :=
  cntL_ext (by rw [List.length_set, cntL_length]) (fun q hq => by
    rw [List.getElem?_set]
    by_cases h2 : i = q
    · subst h2
      rw [if_pos rfl, if_pos (by rw [cntL_length]; exact hq)]
      congr 1
      unfold cntAt
      rw [if_neg (by omega), if_pos rfl, List.take_add_one, List.getElem?_eq_getElem hk, List.count_append, List.getD_eq_getElem?_getD, List.getElem?_eq_getElem hi]
      have : (all[k] == set[i]) = true := by simpa using he.symm
      simp [List.count_cons, this]
    · rw [if_neg h2, cntL_get _ _ _ _ _ hq]
      congr 1
      unfold cntAt
      by_cases h1 : q < i
      · rw [if_pos h1, if_pos h1]
      · rw [if_neg h1, if_neg h1, if_neg (fun e => h2 e.symm), if_neg (fun e => h2 e.symm)])
end Go.Proofs.Ytcchcifcfcpjiaa.J

set_option linter.unusedVariables false
set_option linter.unusedSimpArgs false
namespace Go.Proofs.Ytcchcifcfcpjiaa.J
open Go.RowKit Go.Proofs.YtcchcifcfcpjiaaW.PrintWords Go.Proofs.YtcchcifcfcpjiaaW.PrintLast Go.Proofs.YtcchcifcfcpjiaaW.PrintMore Go.Proofs.Ytcchcifcfcpjiaa.PJ

/-- A loop that goes through n places, and says true. -/
theorem ev_count {g : Nat → Int → Option Bool} (n : Nat) (hn : n ≤ 1000000) {r : Bool} (hend : Ev (fun k => g k (n : Int)) r)
    (hstep : ∀ i : Nat, i < n → Ev (fun k => g k ((i + 1 : Nat) : Int)) r → Ev (fun k => g k (i : Int)) r) : Ev (fun k => g k 0) r := by
  have : ∀ m i : Nat, n - i = m → i ≤ n → Ev (fun k => g k (i : Int)) r := by
    intro m
    induction m with
    | zero =>
      intro i hm hi
      obtain rfl : i = n := by omega
      exact hend
    | succ m ih => exact fun i hm hi => hstep i (by omega) (ih (i + 1) (by omega) (by omega))
  exact this n 0 (by omega) (by omega)

theorem same_val (xs : List (List Int)) (hl : xs.length ≤ 1000000) (hi : ∀ t ∈ xs, t.length ≤ 1000000) : Ev (fun k => rhizomeref10_Same.f k xs xs) true := by
  have h := ev_count (g := fun k i => rhizomeref10_Same.l0 k xs xs (xs.length : Int) i) xs.length hl (r := true) ?_ ?_
  · refine Ev.congr (fun k => ?_) h
    simp only [rhizomeref10_Same.f, if_true]
  · refine Ev.step (f := fun _ => some true) (fun k => ?_) (Ev.now _)
    simp only [rhizomeref10_Same.l0]
    rw [if_neg (by omega)]
  · intro i hil ih
    have hc := refCmp_val xs[i] xs[i] (by have := hi _ (List.getElem_mem hil); omega)
    rw [cmpL_refl] at hc
    refine Ev.step (f := fun k => (rhizomeref10_Cmp.f k xs[i] xs[i]).bind fun t278 => (if t278 = 0 then (rhizomeref10_Same.l0 k xs xs (xs.length : Int) ((i + 1 : Nat) : Int)) else (some false))) (fun k => ?_) (Ev.bind hc (by simpa only [if_true] using ih))
    have c1 : (i : Int) < (xs.length : Int) := by omega
    have c2 : (0 : Int) ≤ (i : Int) := by omega
    have c3 := wrap_succ i xs.length hil (by omega)
    simp only [rhizomeref10_Same.l0, c1, c2, if_true, rd4_at xs i hil, c3]

theorem ints_val (xs : List Int) (hl : xs.length ≤ 1000000) : Ev (fun k => rhizomeref01_Ints.f k xs xs) true := by
  have h := ev_count (g := fun k i => rhizomeref01_Ints.l0 k xs xs (xs.length : Int) i) xs.length hl (r := true) ?_ ?_
  · refine Ev.congr (fun k => ?_) h
    simp only [rhizomeref01_Ints.f, if_true]
  · refine Ev.step (f := fun _ => some true) (fun k => ?_) (Ev.now _)
    simp only [rhizomeref01_Ints.l0]
    rw [if_neg (by omega)]
  · intro i hil ih
    refine Ev.step (fun k => ?_) ih
    have c1 : (i : Int) < (xs.length : Int) := by omega
    have c2 : (0 : Int) ≤ (i : Int) := by omega
    have c3 := wrap_succ i xs.length hil (by omega)
    simp only [rhizomeref01_Ints.l0, c1, c2, if_true, c3]

theorem texts_val (xs : List ByteArray) (hl : xs.length ≤ 1000000) : Ev (fun k => rhizomeref01_Texts.f k xs xs) true := by
  have h := ev_count (g := fun k i => rhizomeref01_Texts.l0 k xs xs (xs.length : Int) i) xs.length hl (r := true) ?_ ?_
  · refine Ev.congr (fun k => ?_) h
    simp only [rhizomeref01_Texts.f, if_true]
  · refine Ev.step (f := fun _ => some true) (fun k => ?_) (Ev.now _)
    simp only [rhizomeref01_Texts.l0]
    rw [if_neg (by omega)]
  · intro i hil ih
    refine Ev.step (fun k => ?_) ih
    have c1 : (i : Int) < (xs.length : Int) := by omega
    have c2 : (0 : Int) ≤ (i : Int) := by omega
    have c3 := wrap_succ i xs.length hil (by omega)
    simp only [rhizomeref01_Texts.l0, c1, c2, if_true, c3]

theorem edges_val (xs : List S82) (hl : xs.length ≤ 1000000) : Ev (fun k => rhizomeref07_SameEdges.f k xs xs) true := by
  have h := ev_count (g := fun k i => rhizomeref07_SameEdges.l0 k xs xs (xs.length : Int) i) xs.length hl (r := true) ?_ ?_
  · refine Ev.congr (fun k => ?_) h
    simp only [rhizomeref07_SameEdges.f, if_true]
  · refine Ev.step (f := fun _ => some true) (fun k => ?_) (Ev.now _)
    simp only [rhizomeref07_SameEdges.l0]
    rw [if_neg (by omega)]
  · intro i hil ih
    refine Ev.step (fun k => ?_) ih
    have c1 : (i : Int) < (xs.length : Int) := by omega
    have c2 : (0 : Int) ≤ (i : Int) := by omega
    have c3 := wrap_succ i xs.length hil (by omega)
    simp only [rhizomeref07_SameEdges.l0, c1, c2, if_true, c3, beq_self_eq_true, Bool.not_true, Bool.or_self, Bool.false_eq_true, if_false]

theorem view_val (nm lb : ByteArray) (kd : Int) (out : List ByteArray) (ats : List S118) (ho : out.length ≤ 1000000) (ha : ats.length ≤ 1000000) : Ev (fun k => rhizomeref09_Same.f k nm kd out ats lb nm kd out ats lb) true := by
  have h := ev_count (g := fun k i => rhizomeref09_Same.l0 k (ats.length : Int) i nm kd out ats lb nm kd out ats lb) ats.length ha (r := true) ?_ ?_
  · refine Ev.congr (fun k => ?_) h
    simp only [rhizomeref09_Same.f, if_true]
  · refine Ev.step (f := fun k => (rhizomeref01_Texts.f k out out).bind fun t286 => (some t286)) (fun k => ?_) (Ev.bind (texts_val out ho) (Ev.now _))
    have c1 : ¬ (ats.length : Int) < (ats.length : Int) := by omega
    simp only [rhizomeref09_Same.l0, c1, if_false, if_true]
  · intro i hil ih
    refine Ev.step (fun k => ?_) ih
    have c1 : (i : Int) < (ats.length : Int) := by omega
    have c2 : (0 : Int) ≤ (i : Int) := by omega
    have c3 := wrap_succ i ats.length hil (by omega)
    simp only [rhizomeref09_Same.l0, c1, c2, if_true, c3, beq_self_eq_true, Bool.not_true, Bool.or_self, Bool.false_eq_true, if_false]
end Go.Proofs.Ytcchcifcfcpjiaa.J
