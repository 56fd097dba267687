/- What span's Way and Rings tell, and what they tell of a row of nodes: plain lists. -/
import Derived.Test.YtcchcifcfcpjiaaSR
set_option linter.unusedVariables false
set_option linter.unusedSimpArgs false
namespace Go.Proofs.Ytcchcifcfcpjiaa.J
open Go.RowKit Go.Proofs.YtcchcifcfcpjiaaW.PrintWords Go.Proofs.YtcchcifcfcpjiaaW.PrintLast Go.Proofs.YtcchcifcfcpjiaaW.PrintMore Go.Proofs.Ytcchcifcfcpjiaa.PJ

theorem nodup_lenG {α : Type} [DecidableEq α] : ∀ {ks l : List α}, ks.Nodup → (∀ x ∈ ks, x ∈ l) → ks.length ≤ l.length
  | [], l, _, _ => Nat.zero_le _
  | k :: ks, l, hn, hs => by
    rw [List.nodup_cons] at hn
    have hk := hs k (by simp)
    have h1 : ∀ x ∈ ks, x ∈ l.erase k := fun x hx => (List.mem_erase_of_ne (fun e => hn.1 (by rw [← e]; exact hx))).2 (hs x (by simp [hx]))
    have h2 := nodup_lenG hn.2 h1
    rw [List.length_erase_of_mem hk] at h2
    have h3 := List.length_pos_of_mem hk
    rw [List.length_cons]
    omega

theorem Reach.trans {fs : Int → List Int} {a b c : Int} (h : Reach fs a b) (k : Reach fs b c) : Reach fs a c := by
  induction k with
  | edge hc => exact .step h hc
  | step _ hc ih => exact .step ih hc
/-- A way from a to b by the inner nodes. -/
inductive Walk (fs : Int → List Int) : Int → List Int → Int → Prop
  | edge {a b : Int} : b ∈ fs a → Walk fs a [] b
  | step {a z b : Int} {l : List Int} : z ∈ fs a → Walk fs z l b → Walk fs a (z :: l) b
theorem Walk.snoc {fs : Int → List Int} {a x : Int} {l : List Int} (h : Walk fs a l x) : ∀ {c : Int}, c ∈ fs x → Walk fs a (l ++ [x]) c := by
  induction h with
  | edge hb => exact fun hc => .step hb (.edge hc)
  | step hz _ ih => exact fun hc => .step hz (ih hc)
theorem Walk.reach {fs : Int → List Int} {a b : Int} {l : List Int} (h : Walk fs a l b) : Reach fs a b := by
  induction h with
  | edge hb => exact .edge hb
  | step hz _ ih => exact Reach.trans (.edge hz) ih
/-- Back from x to a, over whom each was come to from. -/
inductive Trail (fs : Int → List Int) (pre : Int → Option Int) (a : Int) : Int → List Int → Prop
  | here : Trail fs pre a a []
  | back {x y : Int} {l : List Int} : x ≠ a → pre x = some y → x ∈ fs y → Trail fs pre a y l → Trail fs pre a x (x :: l)
theorem Trail.walk {fs : Int → List Int} {pre : Int → Option Int} {a x : Int} {l : List Int} (h : Trail fs pre a x l) : ∀ {c : Int}, c ∈ fs x → Walk fs a l.reverse c := by
  induction h with
  | here => exact fun hc => .edge hc
  | back _ _ hx _ ih =>
    intro c hc
    rw [List.reverse_cons]
    exact (ih hx).snoc hc
theorem Trail.ne {fs : Int → List Int} {pre : Int → Option Int} {a x : Int} {l : List Int} (h : Trail fs pre a x l) : ∀ z ∈ l, z ≠ a := by
  induction h with
  | here => intro z hz; cases hz
  | back hx _ _ _ ih =>
    intro z hz
    rcases List.mem_cons.1 hz with rfl | hz
    · exact hx
    · exact ih z hz

def setP (pre : Int → Option Int) (c n : Int) : Int → Option Int := fun m => if m = c then some n else pre m
/-- Where the search by breadth stands: i of a :: ds are done, and of the next one's neighbours those of done. -/
structure Bfs (fs : Int → List Int) (a b : Int) (ds : List Int) (i : Nat) (pre : Int → Option Int) (done : List Int) : Prop where
  nod : ds.Nodup
  keys : ∀ m, (pre m).isSome = true ↔ m ∈ ds
  back : ∀ (j : Nat) (m : Int), ds[j]? = some m → ∃ (r : Nat) (x : Int), r ≤ j ∧ (a :: ds)[r]? = some x ∧ pre m = some x ∧ m ∈ fs x
  shut : ∀ (j : Nat) (x : Int), j < i → (a :: ds)[j]? = some x → ∀ c ∈ fs x, c ∈ ds
  half : ∀ c ∈ done, c ∈ ds
  nob : b ∉ ds
section
variable {fs : Int → List Int} {a b n c : Int} {ds done : List Int} {i : Nat} {pre : Int → Option Int}
theorem Bfs.start (fs : Int → List Int) (a b : Int) : Bfs fs a b [] 0 (fun _ => none) [] :=
  ⟨List.nodup_nil, fun m => by simp, fun j m h => (by simp at h), fun j x h => absurd h (Nat.not_lt_zero _), fun c h => (by cases h), by simp⟩
theorem Bfs.old (h : Bfs fs a b ds i pre done) (hc : c ∈ ds) : Bfs fs a b ds i pre (done ++ [c]) :=
  { h with
    half := fun x hx => by
      rcases List.mem_append.1 hx with hx | hx
      · exact h.half x hx
      · rw [List.mem_singleton.1 hx]; exact hc }
theorem Bfs.new (h : Bfs fs a b ds i pre done) (hn : (a :: ds)[i]? = some n) (hcn : c ∈ fs n) (hc : c ∉ ds) (hb : c ≠ b) : Bfs fs a b (ds ++ [c]) i (setP pre c n) (done ++ [c]) where
  nod := by
    rw [List.nodup_append]
    exact ⟨h.nod, by simp, fun x hx y hy => by rw [List.mem_singleton.1 hy]; rintro rfl; exact hc hx⟩
  keys m := by
    unfold setP
    by_cases hm : m = c
    · simp [hm]
    · simp [hm, h.keys m]
  back j m hj := by
    rw [List.getElem?_append] at hj
    by_cases hlt : j < ds.length
    · rw [if_pos hlt] at hj
      obtain ⟨r, x, h1, h2, h3, h4⟩ := h.back j m hj
      have hmm : m ≠ c := fun e => hc (e ▸ List.mem_of_getElem? hj)
      refine ⟨r, x, h1, ?_, by unfold setP; rw [if_neg hmm]; exact h3, h4⟩
      rw [← List.cons_append, List.getElem?_append_left (by rw [List.length_cons]; omega)]
      exact h2
    · rw [if_neg hlt] at hj
      have hj0 : j - ds.length = 0 := by
        rcases Nat.eq_zero_or_pos (j - ds.length) with h0 | h0
        · exact h0
        · rw [List.getElem?_eq_none (by simp; omega)] at hj; cases hj
      rw [hj0] at hj
      simp at hj
      subst hj
      have hi := (List.getElem?_eq_some_iff.1 hn).1
      rw [List.length_cons] at hi
      refine ⟨i, n, by omega, ?_, by unfold setP; rw [if_pos rfl], hcn⟩
      rw [← List.cons_append, List.getElem?_append_left (by rw [List.length_cons]; omega)]
      exact hn
  shut j x hj hx y hy := by
    have hi := (List.getElem?_eq_some_iff.1 hn).1
    rw [← List.cons_append, List.getElem?_append_left (by omega)] at hx
    exact List.mem_append_left _ (h.shut j x hj hx y hy)
  half x hx := by
    rcases List.mem_append.1 hx with hx | hx
    · exact List.mem_append_left _ (h.half x hx)
    · exact List.mem_append_right _ hx
  nob hx := by
    rcases List.mem_append.1 hx with hx | hx
    · exact h.nob hx
    · exact hb (List.mem_singleton.1 hx).symm
theorem Bfs.next (h : Bfs fs a b ds i pre (fs n)) (hn : (a :: ds)[i]? = some n) : Bfs fs a b ds (i + 1) pre [] :=
  { h with
    shut := fun j x hj hx c hc => by
      by_cases hji : j = i
      · subst hji
        rw [hn] at hx
        injection hx with hx
        subst hx
        exact h.half c hc
      · exact h.shut j x (by omega) hx c hc
    half := fun c hc => by cases hc }
theorem Bfs.none (h : Bfs fs a b ds (ds.length + 1) pre done) : ¬ Reach fs a b := by
  intro hr
  have hds : ∀ {y : Int}, Reach fs a y → y ∈ ds := by
    intro y hy
    induction hy with
    | edge hb => exact h.shut 0 a (by omega) rfl _ hb
    | step _ hc ih =>
      obtain ⟨j, hj, he⟩ := List.mem_iff_getElem.1 ih
      exact h.shut (j + 1) _ (by omega) (by rw [List.getElem?_cons_succ, List.getElem?_eq_getElem hj, he]) _ hc
  exact h.nob (hds hr)
theorem Bfs.trail (h : Bfs fs a b ds i pre done) (b' : Int) (hb' : b' ∉ ds) (n0 : Int) : ∀ (r : Nat) (x : Int), (a :: ds)[r]? = some x → ∃ l, Trail fs (setP pre b' n0) a x l ∧ l.length ≤ r := by
  intro r
  induction r using Nat.strongRecOn with
  | _ r ih =>
    intro x hx
    by_cases hxa : x = a
    · subst hxa
      exact ⟨[], .here, Nat.zero_le _⟩
    · cases r with
      | zero => simp at hx; exact absurd hx.symm hxa
      | succ r =>
        rw [List.getElem?_cons_succ] at hx
        obtain ⟨r', y, h1, h2, h3, h4⟩ := h.back r x hx
        obtain ⟨l, h5, h6⟩ := ih r' (by omega) y h2
        have hxb : x ≠ b' := fun e => hb' (e ▸ List.mem_of_getElem? hx)
        refine ⟨x :: l, .back hxa (by unfold setP; rw [if_neg hxb]; exact h3) h4 h5, ?_⟩
        rw [List.length_cons]
        omega
theorem Bfs.few (h : Bfs fs a b ds i pre done) {E : List Int} (hE : ∀ x, ∀ c ∈ fs x, c ∈ E) : ds.length ≤ E.length :=
  nodup_lenG h.nod (fun m hm => by
    obtain ⟨j, hj, he⟩ := List.mem_iff_getElem.1 hm
    obtain ⟨r, x, _, _, _, h4⟩ := h.back j m (by rw [List.getElem?_eq_getElem hj, he])
    exact hE x m h4)
end

/-- The rings of some nodes are told, each once. -/
structure RingsInv (fs : Int → List Int) (ns : List Int) (rs : List (List Int)) (sn : Int → Nat) : Prop where
  up : ∀ t ∈ rs, t.Pairwise (· < ·)
  ring : ∀ t ∈ rs, ∃ a, Reach fs a a ∧ ∀ b, b ∈ t ↔ Reach fs a b ∧ Reach fs b a
  full : ∀ a ∈ ns, Reach fs a a → ∃ t ∈ rs, a ∈ t
  apart : rs.Pairwise (fun t u => ∀ x ∈ t, x ∉ u)
  seen : ∀ b, 0 < sn b ↔ ∃ t ∈ rs, b ∈ t
  few : rs.length ≤ ns.length
  le : ∀ b, sn b ≤ rs.length
section
variable {fs : Int → List Int} {a : Int} {ns : List Int} {rs : List (List Int)} {sn sn' : Int → Nat}
theorem RingsInv.start (fs : Int → List Int) : RingsInv fs [] [] (fun _ => 0) :=
  ⟨fun t h => (by cases h), fun t h => (by cases h), fun t h => (by cases h), List.Pairwise.nil, fun b => by simp, Nat.le_refl _, fun b => Nat.le_refl _⟩
theorem RingsInv.skip (h : RingsInv fs ns rs sn) (ha : 0 < sn a ∨ ¬ Reach fs a a) : RingsInv fs (ns ++ [a]) rs sn :=
  { h with
    full := fun x hx hr => by
      rcases List.mem_append.1 hx with hx | hx
      · exact h.full x hx hr
      · rw [List.mem_singleton] at hx
        subst hx
        exact (h.seen x).1 (ha.resolve_right (fun hn => hn hr))
    few := by rw [List.length_append]; exact Nat.le_trans h.few (Nat.le_add_right _ _) }
theorem RingsInv.more (h : RingsInv fs ns rs sn) (ha : sn a = 0) (hr : Reach fs a a) {t : List Int} (ht : t.Pairwise (· < ·)) (hm : ∀ b, b ∈ t ↔ Reach fs a b ∧ Reach fs b a)
    (hsn : ∀ b, sn' b = sn b + if b ∈ t then 1 else 0) : RingsInv fs (ns ++ [a]) (rs ++ [t]) sn' where
  up u hu := by
    rcases List.mem_append.1 hu with hu | hu
    · exact h.up u hu
    · rw [List.mem_singleton.1 hu]; exact ht
  ring u hu := by
    rcases List.mem_append.1 hu with hu | hu
    · exact h.ring u hu
    · rw [List.mem_singleton.1 hu]; exact ⟨a, hr, hm⟩
  full x hx hrx := by
    rcases List.mem_append.1 hx with hx | hx
    · obtain ⟨u, hu, h1⟩ := h.full x hx hrx
      exact ⟨u, List.mem_append_left _ hu, h1⟩
    · rw [List.mem_singleton] at hx
      subst hx
      exact ⟨t, by simp, (hm x).2 ⟨hr, hr⟩⟩
  apart := by
    rw [List.pairwise_append]
    refine ⟨h.apart, List.pairwise_singleton _ _, fun u hu v hv x hx => ?_⟩
    rw [List.mem_singleton.1 hv]
    intro hxt
    obtain ⟨a0, h0, h1⟩ := h.ring u hu
    have h2 := (h1 x).1 hx
    have h3 := (hm x).1 hxt
    have h4 : a ∈ u := (h1 a).2 ⟨h2.1.trans h3.2, h3.1.trans h2.2⟩
    have := (h.seen a).2 ⟨u, hu, h4⟩
    omega
  seen b := by
    rw [hsn b]
    constructor
    · intro hb
      by_cases hbt : b ∈ t
      · exact ⟨t, by simp, hbt⟩
      · rw [if_neg hbt] at hb
        obtain ⟨u, hu, h1⟩ := (h.seen b).1 hb
        exact ⟨u, List.mem_append_left _ hu, h1⟩
    · rintro ⟨u, hu, h1⟩
      rcases List.mem_append.1 hu with hu | hu
      · have := (h.seen b).2 ⟨u, hu, h1⟩
        omega
      · rw [List.mem_singleton] at hu
        subst hu
        rw [if_pos h1]
        omega
  few := by rw [List.length_append, List.length_append]; exact Nat.add_le_add_right h.few _
  le b := by
    rw [hsn b, List.length_append]
    have := h.le b
    simp only [List.length_singleton]
    split <;> omega
end
structure RingsOf (fs : Int → List Int) (rs : List (List Int)) : Prop where
  up : ∀ t ∈ rs, t.Pairwise (· < ·)
  ring : ∀ t ∈ rs, ∃ a, Reach fs a a ∧ ∀ b, b ∈ t ↔ Reach fs a b ∧ Reach fs b a
  full : ∀ a, Reach fs a a → ∃ t ∈ rs, a ∈ t
  apart : rs.Pairwise (fun t u => ∀ x ∈ t, x ∉ u)

/-! the row -/
def fsR (m : Nat) (a : Int) : List Int := if 0 ≤ a ∧ a % 7 = 0 ∧ a < 7 * m then [a + 7] else []
theorem reachR {m : Nat} {a b : Int} : Reach (fsR m) a b ↔ 0 ≤ a ∧ a % 7 = 0 ∧ b % 7 = 0 ∧ a < b ∧ b ≤ 7 * m := by
  constructor
  · intro h
    induction h with
    | edge hb =>
      unfold fsR at hb
      split at hb
      · rw [List.mem_singleton.1 hb]; omega
      · cases hb
    | step _ hc ih =>
      unfold fsR at hc
      split at hc
      · rw [List.mem_singleton.1 hc]; omega
      · cases hc
  · have key : ∀ (k : Nat) (a : Int), 0 ≤ a → a % 7 = 0 → a + 7 * ((k : Int) + 1) ≤ 7 * m → Reach (fsR m) a (a + 7 * ((k : Int) + 1)) := by
      intro k
      induction k with
      | zero =>
        intro a h0 h1 h2
        refine .edge ?_
        unfold fsR
        rw [if_pos ⟨h0, h1, by omega⟩, List.mem_singleton]
        omega
      | succ k ih =>
        intro a h0 h1 h2
        refine .step (ih a h0 h1 (by omega)) ?_
        unfold fsR
        rw [if_pos ⟨by omega, by omega, by omega⟩, List.mem_singleton]
        omega
    rintro ⟨h0, h1, h2, h3, h4⟩
    have h5 := key ((b - a) / 7 - 1).toNat a h0 h1 (by omega)
    have h6 : a + 7 * ((((b - a) / 7 - 1).toNat : Int) + 1) = b := by omega
    rw [h6] at h5
    exact h5
def prs : Nat → List (List Int)
  | 0 => []
  | k + 1 => prs k ++ (List.range (k + 1)).map (fun i : Nat => [7 * (i : Int), 7 * ((k : Int) + 1)])
theorem mem_prs (t : List Int) : ∀ m : Nat, t ∈ prs m ↔ ∃ a b, t = [a, b] ∧ 0 ≤ a ∧ a % 7 = 0 ∧ b % 7 = 0 ∧ a < b ∧ b ≤ 7 * m
  | 0 => by
    constructor
    · intro h; cases h
    · rintro ⟨a, b, _, h⟩; omega
  | m + 1 => by
    unfold prs
    rw [List.mem_append, mem_prs t m, List.mem_map]
    constructor
    · rintro (⟨a, b, h1, h2⟩ | ⟨i, hi, h1⟩)
      · exact ⟨a, b, h1, by omega⟩
      · rw [List.mem_range] at hi
        exact ⟨7 * (i : Int), 7 * ((m : Int) + 1), h1.symm, by omega⟩
    · rintro ⟨a, b, rfl, h⟩
      by_cases hb : b = 7 * ((m : Int) + 1)
      · right
        refine ⟨(a / 7).toNat, List.mem_range.2 (by omega), ?_⟩
        have : 7 * ((a / 7).toNat : Int) = a := by omega
        rw [this, hb]
      · exact .inl ⟨a, b, rfl, by omega⟩
theorem prs_len : ∀ m : Nat, 2 * (prs m).length = m * (m + 1)
  | 0 => rfl
  | m + 1 => by
    unfold prs
    rw [List.length_append, List.length_map, List.length_range, Nat.mul_add, prs_len m, ← Nat.add_mul, Nat.mul_comm]
theorem prs_nodup : ∀ m : Nat, (prs m).Nodup
  | 0 => List.nodup_nil
  | m + 1 => by
    unfold prs
    rw [List.nodup_append]
    refine ⟨prs_nodup m, ?_, fun t ht u hu => ?_⟩
    · rw [List.nodup_iff_pairwise_ne, List.pairwise_map]
      refine List.Pairwise.imp ?_ (List.nodup_iff_pairwise_ne.1 List.nodup_range)
      intro i j hij e
      injection e with e
      omega
    · rintro rfl
      obtain ⟨a, b, h1, h2⟩ := (mem_prs t m).1 ht
      obtain ⟨i, _, h3⟩ := List.mem_map.1 hu
      rw [h1] at h3
      injection h3 with _ h3
      injection h3 with h3
      omega
theorem row_le {m : Nat} (hm : m ≤ 30) {xs : List (List Int)} (hn : xs.Nodup) (h : ∀ t ∈ xs, ∃ a b, t = [a, b] ∧ Reach (fsR m) a b) : xs.length ≤ 4000 := by
  have h1 := nodup_lenG hn (l := prs m) (fun t ht => (mem_prs t m).2 (by
    obtain ⟨a, b, h1, h2⟩ := h t ht
    exact ⟨a, b, h1, reachR.1 h2⟩))
  have h2 := prs_len m
  have h3 : m * (m + 1) ≤ 30 * 31 := Nat.mul_le_mul hm (by omega)
  omega
theorem row_count {m : Nat} {xs : List (List Int)} (hn : xs.Nodup) (h : ∀ t, t ∈ xs ↔ ∃ a b, t = [a, b] ∧ Reach (fsR m) a b) : 2 * xs.length = m * (m + 1) := by
  have h1 := nodup_lenG hn (l := prs m) (fun t ht => (mem_prs t m).2 (by
    obtain ⟨a, b, h1, h2⟩ := (h t).1 ht
    exact ⟨a, b, h1, reachR.1 h2⟩))
  have h2 := nodup_lenG (prs_nodup m) (l := xs) (fun t ht => (h t).2 (by
    obtain ⟨a, b, h1, h2⟩ := (mem_prs t m).1 ht
    exact ⟨a, b, h1, reachR.2 h2⟩))
  have h3 := prs_len m
  omega
theorem row_rings {m : Nat} {rs : List (List Int)} (h : RingsOf (fsR m) rs) : rs = [] := by
  cases rs with
  | nil => rfl
  | cons t rs =>
    obtain ⟨a, ha, _⟩ := h.ring t (by simp)
    have := reachR.1 ha
    omega
theorem row_walk {m : Nat} {x y : Int} {l : List Int} (h : Walk (fsR m) x l y) : y = x + 7 * ((l.length : Int) + 1) ∧ ∀ (i : Nat) z, l[i]? = some z → z = x + 7 * ((i : Int) + 1) := by
  induction h with
  | edge hb =>
    unfold fsR at hb
    split at hb
    · refine ⟨by rw [List.mem_singleton.1 hb]; simp, fun i z h => by simp at h⟩
    · cases hb
  | step hz _ ih =>
    unfold fsR at hz
    split at hz
    · rw [List.mem_singleton] at hz
      subst hz
      refine ⟨by rw [ih.1, List.length_cons]; omega, fun i z h => ?_⟩
      cases i with
      | zero => simp at h; omega
      | succ i =>
        rw [List.getElem?_cons_succ] at h
        rw [ih.2 i z h]
        omega
    · cases hz

/-! the document's example -/
def fsE (a : Int) : List Int := if a = 1 then [2] else if a = 2 then [3] else if a = 3 then [2] else []
theorem reachE {a b : Int} : Reach fsE a b ↔ (a = 1 ∨ a = 2 ∨ a = 3) ∧ (b = 2 ∨ b = 3) := by
  constructor
  · intro h
    induction h with
    | edge hb =>
      unfold fsE at hb
      split at hb
      · simp at hb; omega
      · split at hb
        · simp at hb; omega
        · split at hb
          · simp at hb; omega
          · cases hb
    | step _ hc ih =>
      unfold fsE at hc
      split at hc
      · simp at hc; omega
      · split at hc
        · simp at hc; omega
        · split at hc
          · simp at hc; omega
          · cases hc
  · have e1 : Reach fsE 1 2 := .edge (by simp [fsE])
    have e2 : Reach fsE 2 3 := .edge (by simp [fsE])
    have e3 : Reach fsE 3 2 := .edge (by simp [fsE])
    rintro ⟨rfl | rfl | rfl, rfl | rfl⟩
    · exact e1
    · exact e1.trans e2
    · exact e2.trans e3
    · exact e2
    · exact e3
    · exact e3.trans e2
def prsE : List (List Int) := [[1, 2], [1, 3], [2, 2], [2, 3], [3, 2], [3, 3]]
theorem mem_prsE (t : List Int) : t ∈ prsE ↔ ∃ a b, t = [a, b] ∧ Reach fsE a b := by
  constructor
  · intro h
    simp only [prsE, List.mem_cons, List.not_mem_nil, or_false] at h
    rcases h with rfl | rfl | rfl | rfl | rfl | rfl <;> exact ⟨_, _, rfl, reachE.2 (by omega)⟩
  · rintro ⟨a, b, rfl, h⟩
    obtain ⟨h1, h2⟩ := reachE.1 h
    rcases h1 with rfl | rfl | rfl <;> rcases h2 with rfl | rfl <;> simp [prsE]
theorem ex_le {xs : List (List Int)} (hn : xs.Nodup) (h : ∀ t ∈ xs, ∃ a b, t = [a, b] ∧ Reach fsE a b) : xs.length ≤ 4000 :=
  Nat.le_trans (nodup_lenG hn (l := prsE) (fun t ht => (mem_prsE t).2 (h t ht))) (by decide)
theorem ex_count {xs : List (List Int)} (hn : xs.Nodup) (h : ∀ t, t ∈ xs ↔ ∃ a b, t = [a, b] ∧ Reach fsE a b) : xs.length = 6 :=
  Nat.le_antisymm (nodup_lenG hn (l := prsE) (fun t ht => (mem_prsE t).2 ((h t).1 ht))) (nodup_lenG (ks := prsE) (by decide) (fun t ht => (h t).2 ((mem_prsE t).1 ht)))
theorem pair23 {t : List Int} (ht : t.Pairwise (· < ·)) (hm : ∀ b, b ∈ t ↔ b = 2 ∨ b = 3) : t = [2, 3] := by
  match t, ht, hm with
  | [], _, hm => exact absurd ((hm 2).2 (.inl rfl)) (by simp)
  | [x], _, hm =>
    have h2 := List.mem_singleton.1 ((hm 2).2 (.inl rfl))
    have h3 := List.mem_singleton.1 ((hm 3).2 (.inr rfl))
    omega
  | x :: y :: l, ht, hm =>
    rw [List.pairwise_cons, List.pairwise_cons] at ht
    have hx := (hm x).1 (by simp)
    have hy := (hm y).1 (by simp)
    have hxy := ht.1 y (by simp)
    cases l with
    | nil =>
      have : x = 2 ∧ y = 3 := by omega
      rw [this.1, this.2]
    | cons z l =>
      have hz := (hm z).1 (by simp)
      have hyz := ht.2.1 z (by simp)
      omega
theorem ex_rings {rs : List (List Int)} (h : RingsOf fsE rs) : rs = [[2, 3]] := by
  have h1 : ∀ t ∈ rs, t = [2, 3] := fun t ht => by
    obtain ⟨a, ha, hb⟩ := h.ring t ht
    have ha2 := reachE.1 ha
    refine pair23 (h.up t ht) (fun b => ?_)
    rw [hb, reachE, reachE]
    omega
  obtain ⟨t, ht, _⟩ := h.full 2 (reachE.2 (by omega))
  match rs, h1, h.apart, ht with
  | [u], h1, _, _ => rw [h1 u (by simp)]
  | u :: v :: rs, h1, ha, _ =>
    rw [List.pairwise_cons] at ha
    have h2 := ha.1 v (by simp) 2 (by rw [h1 u (by simp)]; simp)
    rw [h1 v (by simp)] at h2
    simp at h2
theorem ex_walk {l : List Int} (h : Walk fsE 2 l 2) (hne : ∀ z ∈ l, z ≠ 2) : l = [3] := by
  cases h with
  | edge hb => simp [fsE] at hb
  | step hz h =>
    simp [fsE] at hz
    subst hz
    cases h with
    | edge hb => rfl
    | step hz h =>
      simp [fsE] at hz
      subst hz
      exact absurd rfl (hne 2 (by simp))
/-- Whom a label's edges lead to from a node, rising, once each. -/
def nextF (lab : ByteArray) (es : List S82) : Int → List Int := fun a => norm (outs lab es a)

theorem nodup_len : ∀ {ks l : List Int}, ks.Nodup → (∀ x ∈ ks, x ∈ l) → ks.length ≤ l.length
  | [], l, _, _ => Nat.zero_le _
  | k :: ks, l, hn, hs => by
    rw [List.nodup_cons] at hn
    have hk := hs k (by simp)
    have h1 : ∀ x ∈ ks, x ∈ l.erase k := fun x hx => (List.mem_erase_of_ne (fun e => hn.1 (by rw [← e]; exact hx))).2 (hs x (by simp [hx]))
    have h2 := nodup_len hn.2 h1
    rw [List.length_erase_of_mem hk] at h2
    have h3 := List.length_pos_of_mem hk
    rw [List.length_cons]
    omega
theorem nextF_key {lab : ByteArray} {es : List S82} {a : Int} (h : nextF lab es a ≠ []) : a ∈ es.map (·.f0) := by
  have h1 : outs lab es a ≠ [] := fun e => h (by unfold nextF; rw [e]; exact norm_nil)
  unfold outs at h1
  obtain ⟨x, hx⟩ := List.exists_mem_of_ne_nil _ h1
  obtain ⟨e, he, _⟩ := List.mem_map.1 hx
  obtain ⟨he1, he2⟩ := List.mem_filter.1 he
  simp only [Bool.and_eq_true, decide_eq_true_eq] at he2
  exact List.mem_map.2 ⟨e, he1, he2.2⟩
theorem reach_ne {fs : Int → List Int} {a b : Int} (h : Reach fs a b) : fs a ≠ [] := by
  induction h with
  | edge hb => exact List.ne_nil_of_mem hb
  | step _ _ ih => exact ih
theorem norm_le (xs : List Int) : (norm xs).length ≤ xs.length := Nat.le_trans (compactI_le _) (by simp [sortI])
theorem nextF_le (lab : ByteArray) (es : List S82) (a : Int) : (nextF lab es a).length ≤ es.length := Nat.le_trans (norm_le _) (outs_length _ _ _)

theorem nextF_mem {lab : ByteArray} {es : List S82} {x c : Int} (h : c ∈ norm (outs lab es x)) : c ∈ outs lab es x := by
  have h1 : c ∈ sortI (outs lab es x) := by
    unfold norm Lib.compact Lib.compactUpTo at h
    obtain ⟨j, hj, he⟩ := List.mem_map.1 h
    have hj2 := (List.mem_filter.1 hj).1
    have hlt := List.mem_range.1 hj2
    have h2 : (sortI (outs lab es x))[j] = c := by
      rw [← he]
      simp [hlt]
    rw [← h2]
    exact List.getElem_mem _
  unfold sortI at h1
  exact List.mem_mergeSort.1 h1
theorem nextF_to {lab : ByteArray} {es : List S82} (x c : Int) (h : c ∈ nextF lab es x) : c ∈ es.map (·.f2) := by
  have h1 := nextF_mem h
  unfold outs at h1
  obtain ⟨e, he, h2⟩ := List.mem_map.1 h1
  exact List.mem_map.2 ⟨e, (List.mem_filter.1 he).1, h2⟩
end Go.Proofs.Ytcchcifcfcpjiaa.J
