/- The few sources of MeterOwn: their own buckets beside the meters. No conditions. -/
import Derived.Test.YtepibimlmfhceaaMtStep
import Derived.Test.YtepibimlmfhceaaMtSame
namespace Go.Proofs.Ytepibimlmfhceaa
open Go.RowKit

theorem grown_off {w w' : World} {row : Option Nat} (h : w.grownBy w' row) : Off (fun i => some i = row) w w' :=
  ⟨h.os, h.tape, h.output, h.size, fun k hk hn => h.block k hk hn⟩

theorem own_not_blk {w : World} {mb r : Nat} {rate burst turns : Int} {es : List Ent} {clock : Nat} (h : MAt w mb r rate burst turns es clock) {b : Nat} {T : TypeId} {cs : Array Value} (hb : Blk w b T cs)
    (h1 : T ≠ 68) (h2 : T ≠ 72) (h3 : T ≠ 64) : ¬ Own mb r es b := by
  rintro (rfl | rfl | ⟨e, he, rfl | rfl⟩)
  · exact MAt.blk_ne hb h.top h1 rfl
  · exact h.map.not_blk hb rfl
  · exact MAt.blk_ne hb (h.one e he) h2 rfl
  · exact MAt.blk_ne hb (h.bk e he) h3 rfl

theorem nodup_lt : ∀ (n : Nat) (l : List Nat), l.Nodup → (∀ x ∈ l, x < n) → l.length ≤ n
  | 0, l, _, h => by cases l with
    | nil => simp
    | cons x xs => exact absurd (h x List.mem_cons_self) (Nat.not_lt_zero _)
  | n + 1, l, hd, h => by
    have h1 : (l.filter (· ≠ n)).length ≤ n := nodup_lt n _ (hd.sublist List.filter_sublist) (fun x hx => by
      have := h x (List.mem_filter.1 hx).1
      have : x ≠ n := by simpa using (List.mem_filter.1 hx).2
      omega)
    have h2 : l.length ≤ (l.filter (· ≠ n)).length + 1 := by
      clear h1 h
      induction l with
      | nil => simp
      | cons x xs ih =>
        rw [List.nodup_cons] at hd
        by_cases hx : x = n
        · have : xs.filter (· ≠ n) = xs := List.filter_eq_self.2 fun y hy => by
            simp only [ne_eq, decide_not, Bool.not_eq_eq_eq_not, Bool.not_true, decide_eq_false_iff_not]
            intro e; subst e; subst hx; exact hd.1 hy
          rw [List.filter_cons, if_neg (by simp [hx]), this]; simp
        · have := ih hd.2
          rw [List.filter_cons, if_pos (by simpa using hx)]
          simp only [List.length_cons]; omega
    omega

/-- Each of the sixteen: nobody yet; or a bucket of its own, at its block. -/
structure OwnInv (w : World) (g : Nat) (es : List Ent) (P : Nat → Option (Nat × Bk)) (cs : Array Value) : Prop where
  blk : Blk w g 31 cs
  size : 16 ≤ cs.size
  cell : ∀ j, j < 16 → cs[j]? = some (.pointer ((P j).map fun q => ⟨q.1, 0, none⟩))
  bks : ∀ j, j < 16 → ∀ q, P j = some q → BAt 61 w q.1 q.2 ∧ q.2.Ok ∧ ∃ x ∈ es, x.a = (0, (j : Int)) ∧ x.s = q.2
  nos : ∀ j, j < 16 → P j = none → ∀ e ∈ es, e.a ≠ (0, (j : Int))
  inj : ∀ i j, i < 16 → j < 16 → ∀ q q', P i = some q → P j = some q' → q.1 = q'.1 → i = j
  adr : ∀ e ∈ es, ∃ j : Nat, j < 16 ∧ e.a = (0, (j : Int))

theorem own_few {es : List Ent} (hk : (es.map (·.a)).Nodup) (h : ∀ e ∈ es, ∃ j : Nat, j < 16 ∧ e.a = (0, (j : Int))) : es.length ≤ 16 := by
  have h1 : (es.map fun e => e.a.2.toNat).Nodup := by
    have : (es.map fun e => e.a.2.toNat) = (es.map (·.a)).map fun a => a.2.toNat := by rw [List.map_map]; rfl
    rw [this]
    rw [List.nodup_iff_pairwise_ne, List.pairwise_map]
    rw [List.nodup_iff_pairwise_ne] at hk
    refine List.Pairwise.imp_of_mem (fun {a b} ha hb hne e => ?_) hk
    obtain ⟨x, hx, rfl⟩ := List.mem_map.1 ha
    obtain ⟨y, hy, rfl⟩ := List.mem_map.1 hb
    obtain ⟨i, _, hi⟩ := h x hx
    obtain ⟨j, _, hj⟩ := h y hy
    rw [hi, hj] at hne e
    simp at e
    exact hne (by rw [e])
  have h2 := nodup_lt 16 _ h1 (fun n hn => by
    obtain ⟨x, hx, rfl⟩ := List.mem_map.1 hn
    obtain ⟨i, hi, hxa⟩ := h x hx
    rw [hxa]; simpa using hi)
  simpa using h2
theorem set_same {cs : Array Value} {j : Nat} {v : Value} (h : cs[j]? = some v) : cs.setIfInBounds j v = cs := by
  apply Array.ext_getElem?
  intro i
  rw [Array.getElem?_setIfInBounds]
  split
  · rename_i e; subst e
    split
    · exact h.symm
    · rename_i hn; rw [Array.getElem?_eq_none (by omega)] at h; cases h
  · rfl

/-- One of the sixteen was asked. -/
theorem OwnInv.next {w w' : World} {g : Nat} {es es' : List Ent} {P : Nat → Option (Nat × Bk)} {cs : Array Value} {J c : Nat} {s : Bk} {x : Ent} (h : OwnInv w g es P cs) (hJ : J < 16)
    (hblk : Blk w' g 31 (cs.setIfInBounds J (.pointer (some ⟨c, 0, none⟩)))) (hB : BAt 61 w' c s) (hs : s.Ok) (hx : x ∈ es') (hxa : x.a = (0, (J : Int))) (hxs : x.s = s)
    (hold : ∀ j, j < 16 → j ≠ J → ∀ q, P j = some q → BAt 61 w' q.1 q.2 ∧ q.1 ≠ c)
    (h1 : ∀ e' ∈ es', e'.a ≠ (0, (J : Int)) → e' ∈ es) (h2 : ∀ e ∈ es, e.a ≠ (0, (J : Int)) → e ∈ es') :
    OwnInv w' g es' (fun j => if j = J then some (c, s) else P j) (cs.setIfInBounds J (.pointer (some ⟨c, 0, none⟩))) where
  blk := hblk
  size := by rw [Array.size_setIfInBounds]; exact h.size
  cell := fun j hj => by
    rw [Array.getElem?_setIfInBounds]
    by_cases hjJ : j = J
    · subst hjJ
      have := h.size
      rw [if_pos rfl, if_pos (by omega)]; simp
    · rw [if_neg (fun e => hjJ e.symm), h.cell j hj, if_neg hjJ]
  bks := fun j hj q hq => by
    by_cases hjJ : j = J
    · subst hjJ
      simp only [if_true, Option.some.injEq] at hq
      subst hq
      exact ⟨hB, hs, x, hx, hxa, hxs⟩
    · simp only [hjJ, if_false] at hq
      obtain ⟨_, ho, y, hy, hya, hys⟩ := h.bks j hj q hq
      exact ⟨(hold j hj hjJ q hq).1, ho, y, h2 y hy (fun k => hjJ (by rw [hya] at k; simp at k; omega)), hya, hys⟩
  nos := fun j hj hq e he k => by
    by_cases hjJ : j = J
    · subst hjJ; simp at hq
    · simp only [hjJ, if_false] at hq
      exact h.nos j hj hq e (h1 e he (fun k' => hjJ (by rw [k] at k'; simp at k'; omega))) k
  inj := fun i j hi hj q q' hq hq' e => by
    by_cases hiJ : i = J <;> by_cases hjJ : j = J
    · omega
    · simp only [hiJ, if_true, hjJ, if_false, Option.some.injEq] at hq hq'
      subst hq
      exact absurd e.symm (hold j hj hjJ q' hq').2
    · simp only [hiJ, if_false, hjJ, if_true, Option.some.injEq] at hq hq'
      subst hq'
      exact absurd e (hold i hi hiJ q hq).2
    · simp only [hiJ, hjJ, if_false] at hq hq'
      exact h.inj i j hi hj q q' hq hq' e
  adr := fun e he => by
    by_cases k : e.a = (0, (J : Int))
    · exact ⟨J, hJ, k⟩
    · exact h.adr e (h1 e he k)

end Go.Proofs.Ytepibimlmfhceaa
