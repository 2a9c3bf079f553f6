/- The meters and the document's meters hold the same sources in the same order of turns. No conditions. -/
import Derived.Test.YtepibimlmfhceaaRtFull
namespace Go.Proofs.Ytepibimlmfhceaa
open Go.RowKit

def pE (e : Ent) : (Int × Int) × Bk := (e.a, e.s)
def pR (e : REnt) : (Int × Int) × Bk := (e.a, e.s)

def Same (es : List Ent) (l : List REnt) : Prop :=
  ∃ ys : List Ent, ys.Perm es ∧ ys.Pairwise (fun a b => a.turn < b.turn) ∧ ys.map pE = l.map pR

theorem Same.nil : Same [] [] := ⟨[], List.Perm.refl _, List.Pairwise.nil, rfl⟩

theorem Same.len {es : List Ent} {l : List REnt} (h : Same es l) : es.length = l.length := by
  obtain ⟨ys, hp, _, hm⟩ := h
  have := congrArg List.length hm
  simp only [List.length_map] at this
  rw [← hp.length_eq, this]

theorem map_at {ys : List Ent} {l : List REnt} (h : ys.map pE = l.map pR) {i : Nat} {x : REnt} (hx : l[i]? = some x) : ∃ y, ys[i]? = some y ∧ y.a = x.a ∧ y.s = x.s := by
  have := congrArg (·[i]?) h
  simp only [List.getElem?_map, hx, Option.map_some] at this
  cases hy : ys[i]? with
  | none => rw [hy] at this; cases this
  | some y =>
    rw [hy] at this
    simp only [Option.map_some, Option.some.injEq, pE, pR, Prod.mk.injEq] at this
    exact ⟨y, rfl, this.1, this.2⟩

theorem map_at' {ys : List Ent} {l : List REnt} (h : ys.map pE = l.map pR) {i : Nat} {y : Ent} (hy : ys[i]? = some y) : ∃ x, l[i]? = some x ∧ y.a = x.a ∧ y.s = x.s := by
  have := congrArg (·[i]?) h
  simp only [List.getElem?_map, hy, Option.map_some] at this
  cases hx : l[i]? with
  | none => rw [hx] at this; cases this
  | some x =>
    rw [hx] at this
    simp only [Option.map_some, Option.some.injEq, pE, pR, Prod.mk.injEq] at this
    exact ⟨x, rfl, this.1, this.2⟩

theorem Same.has {es : List Ent} {l : List REnt} (h : Same es l) (a : Int × Int) : (∃ e ∈ es, e.a = a) ↔ ∃ x ∈ l, x.a = a := by
  obtain ⟨ys, hp, _, hm⟩ := h
  constructor
  · rintro ⟨e, he, rfl⟩
    obtain ⟨i, hi, hie⟩ := List.getElem_of_mem (hp.mem_iff.2 he)
    obtain ⟨x, hx, hxa, _⟩ := map_at' hm (i := i) (y := e) (by rw [List.getElem?_eq_getElem hi, hie])
    exact ⟨x, List.mem_of_getElem? hx, hxa.symm⟩
  · rintro ⟨x, hx, rfl⟩
    obtain ⟨i, hi, hie⟩ := List.getElem_of_mem hx
    obtain ⟨y, hy, hya, _⟩ := map_at hm (i := i) (x := x) (by rw [List.getElem?_eq_getElem hi, hie])
    exact ⟨y, hp.mem_iff.1 (List.mem_of_getElem? hy), hya⟩

/-- One more behind the last. -/
theorem Same.snoc {es : List Ent} {l : List REnt} {turns : Int} (h : Same es l) (ht : ∀ e ∈ es, e.turn ≤ turns) {n : Ent} {x : REnt} (hn : n.turn = turns + 1) (ha : n.a = x.a) (hs : n.s = x.s) : Same (es ++ [n]) (l ++ [x]) := by
  obtain ⟨ys, hp, hw, hm⟩ := h
  refine ⟨ys ++ [n], List.Perm.append hp (List.Perm.refl _), ?_, ?_⟩
  · rw [List.pairwise_append]
    refine ⟨hw, List.pairwise_singleton _ _, fun a ha' b hb => ?_⟩
    rw [List.mem_singleton.1 hb, hn]
    have := ht a (hp.mem_iff.1 ha'); omega
  · rw [List.map_append, List.map_append, hm]
    simp [pE, pR, ha, hs]

/-- All learn the time. -/
theorem Same.all {es : List Ent} {l : List REnt} (h : Same es l) (now : Int) : Same (es.map (reS (allS now))) (l.map (rLearn now)) := by
  obtain ⟨ys, hp, hw, hm⟩ := h
  refine ⟨ys.map (reS (allS now)), hp.map _, ?_, ?_⟩
  · rw [List.pairwise_map]; exact hw.imp fun k => k
  · have h1 : (ys.map (reS (allS now))).map pE = (ys.map pE).map (fun p => (p.1, p.2.learn now)) := by rw [List.map_map, List.map_map]; rfl
    have h2 : (l.map (rLearn now)).map pR = (l.map pR).map (fun p => (p.1, p.2.learn now)) := by rw [List.map_map, List.map_map]; rfl
    rw [h1, h2, hm]

theorem without_erase {a : Int × Int} : ∀ {ys : List Ent} {k : Nat} {y : Ent}, (ys.map (·.a)).Nodup → ys[k]? = some y → y.a = a → without a ys = ys.eraseIdx k
  | [], k, _, _, h, _ => by simp at h
  | e :: ys, 0, y, hk, h, ha => by
    simp only [List.getElem?_cons_zero, Option.some.injEq] at h
    subst h
    simp only [List.map_cons, List.nodup_cons] at hk
    have : ys.filter (fun x => decide (x.a ≠ a)) = ys := List.filter_eq_self.2 fun x hx => by
      simp only [decide_eq_true_eq]; intro hxa
      exact hk.1 (by rw [ha, ← hxa]; exact List.mem_map_of_mem (f := (·.a)) hx)
    simp only [without, List.filter_cons, ha, ne_eq, not_true, decide_false, Bool.false_eq_true, if_false]
    rw [List.eraseIdx_cons_zero]; exact this
  | e :: ys, k + 1, y, hk, h, ha => by
    simp only [List.getElem?_cons_succ] at h
    simp only [List.map_cons, List.nodup_cons] at hk
    have hne : e.a ≠ a := fun he => hk.1 (by rw [he, ← ha]; exact List.mem_map_of_mem (f := (·.a)) (List.mem_of_getElem? h))
    have := without_erase hk.2 h ha
    rw [List.eraseIdx_cons_succ, ← this]
    simp only [without, List.filter_cons, ne_eq, hne, not_false_eq_true, decide_true, if_true]

/-- One less. -/
theorem Same.erase {es : List Ent} {l : List REnt} (h : Same es l) (hk : (es.map (·.a)).Nodup) {k : Nat} {x : REnt} (hx : l[k]? = some x) : Same (without x.a es) (l.eraseIdx k) := by
  obtain ⟨ys, hp, hw, hm⟩ := h
  obtain ⟨y, hy, hya, _⟩ := map_at hm hx
  have hk' : (ys.map (·.a)).Nodup := (hp.map (·.a)).nodup_iff.2 hk
  have he := without_erase hk' hy hya
  refine ⟨ys.eraseIdx k, ?_, hw.sublist (List.eraseIdx_sublist _ _), ?_⟩
  · rw [← he]; exact hp.filter _
  · rw [List.eraseIdx_eq_take_drop_succ, List.eraseIdx_eq_take_drop_succ, List.map_append, List.map_append, List.map_take, List.map_take, List.map_drop, List.map_drop, hm]

theorem tookE_perm {a : Int × Int} {s : Bk} {t : Int} : ∀ {es : List Ent} {x : Ent}, (es.map (·.a)).Nodup → x ∈ es → x.a = a → (es.map (tookE a s t)).Perm (without a es ++ [{ x with s := s, turn := t }])
  | [], _, _, h, _ => by cases h
  | e :: es, x, hk, hx, ha => by
    simp only [List.map_cons, List.nodup_cons] at hk
    by_cases he : e.a = a
    · have hxe : x = e := by
        rcases List.mem_cons.1 hx with h | h
        · exact h
        · exact absurd (List.mem_map_of_mem (f := (·.a)) h) (by rw [ha, ← he]; exact hk.1)
      subst hxe
      have hno : ∀ y ∈ es, y.a ≠ a := fun y hy hya => hk.1 (by rw [ha, ← hya]; exact List.mem_map_of_mem (f := (·.a)) hy)
      have h1 : es.map (tookE a s t) = es := by
        conv => rhs; rw [← List.map_id es]
        exact List.map_congr_left fun y hy => by simp [tookE, hno y hy]
      have h2 : without a es = es := List.filter_eq_self.2 fun y hy => by simpa using hno y hy
      have h3 : without a (x :: es) = es := by rw [← h2]; simp [without, ha]
      rw [List.map_cons, h1, h3]
      simp only [tookE, ha, if_true]
      exact (List.perm_append_comm (l₁ := [_]) (l₂ := es))
    · have hx' : x ∈ es := by
        rcases List.mem_cons.1 hx with h | h
        · subst h; exact absurd ha he
        · exact h
      have h3 : without a (e :: es) = e :: without a es := by simp [without, he]
      rw [List.map_cons, h3, List.cons_append]
      have : tookE a s t e = e := by simp [tookE, he]
      rw [this]
      exact (tookE_perm hk.2 hx' ha).cons _

theorem Same.perm {es es' : List Ent} {l : List REnt} (h : Same es l) (hp : es.Perm es') : Same es' l := by
  obtain ⟨ys, h1, h2⟩ := h
  exact ⟨ys, h1.trans hp, h2⟩

theorem reS_turnLe {es : List Ent} {turns : Int} {g : Ent → Bk} (h : ∀ e ∈ es, e.turn ≤ turns) : ∀ e ∈ es.map (reS g), e.turn ≤ turns := fun e he => by
  obtain ⟨y, hy, rfl⟩ := List.mem_map.1 he; exact h y hy

theorem Same.step {rate burst turns turns' now : Int} {es es' : List Ent} {l l' : List REnt} {a : Int × Int} {ok room ok' room' : Bool} (h : Same es l) (hk : (es.map (·.a)).Nodup) (ht : ∀ e ∈ es, e.turn ≤ turns)
    (h1 : TakeR rate burst turns es a now es' turns' ok room) (h2 : RTakeR rate burst l a now l' ok' room') : Same es' l' := by
  have hlen := h.len
  rcases h1 with ⟨x, hx, hxa, rfl, _, _, _⟩ | ⟨habs, es3, hR, n, hn1, hn2, hn3, rfl, _⟩ | ⟨habs, hR, _, _, _⟩
  · rcases h2 with ⟨i, z, hz, hza, rfl, _⟩ | ⟨hno, _⟩ | ⟨hno, _⟩ | ⟨hno, _⟩
    · have h0 := h
      obtain ⟨ys, hp, _, hm⟩ := h0
      obtain ⟨y, hy, hya, hys⟩ := map_at hm hz
      obtain rfl := nodup_inj hk (hp.mem_iff.1 (List.mem_of_getElem? hy)) hx (by rw [hya, hza, hxa])
      have he := h.erase hk hz
      rw [hza] at he
      refine (he.snoc (turns := turns) (n := { y with s := y.s.took now 1, turn := turns + 1 }) (x := { z with s := z.s.took now 1 }) (fun e he => ht e (List.mem_filter.1 he).1) rfl hya (by simp only [hys])).perm ?_
      exact (tookE_perm hk hx hxa).symm
    all_goals
      obtain ⟨z, hz, hza⟩ := (h.has a).1 ⟨x, hx, hxa⟩
      exact absurd hza (hno z hz)
  · have habs' : ∀ z ∈ l, z.a ≠ a := fun z hz hza => by
      obtain ⟨e, he, hea⟩ := (h.has a).2 ⟨z, hz, hza⟩
      exact habs e he hea
    rcases h2 with ⟨i, z, hz, hza, _⟩ | ⟨_, hlt, m, hm1, hm2, rfl, _⟩ | ⟨_, h32, k, z, hz, hf, hfirst, m, hm1, hm2, rfl, _⟩ | ⟨_, h32, hno, rfl, _⟩
    · exact absurd hza (habs' z (List.mem_of_getElem? hz))
    · rcases hR with ⟨_, _, rfl⟩ | ⟨h32, _⟩ | ⟨h32, _⟩
      · exact h.snoc ht hn2 (by rw [hn1, hm1]) (by rw [hn3, hm2])
      · omega
      · omega
    · rcases hR with ⟨hlt, _⟩ | ⟨_, _, v, hv, hvf, hmin, rfl⟩ | ⟨_, hf', _⟩
      · omega
      · -- who goes is the same
        have hza : z.a = v.a := by
          obtain ⟨ys, hp, hw, hm⟩ := h
          obtain ⟨y, hy, hya, hys⟩ := map_at hm hz
          have hyf : isFull now y = true := by unfold isFull; unfold rFull at hf; rw [hys]; exact hf
          have hym : y ∈ es := hp.mem_iff.1 (List.mem_of_getElem? hy)
          have hle := hmin y hym hyf
          obtain ⟨j, hj, hjv⟩ := List.getElem_of_mem (hp.mem_iff.2 hv)
          obtain ⟨u, hu, hua, hus⟩ := map_at' hm (i := j) (y := v) (by rw [List.getElem?_eq_getElem hj, hjv])
          have huf : rFull now u = true := by unfold rFull; unfold isFull at hvf; rw [← hus]; exact hvf
          have hkj : k ≤ j := by
            rcases Nat.lt_or_ge j k with hlt | hge
            · rw [hfirst j u hlt hu] at huf; cases huf
            · exact hge
          by_cases hjk : j = k
          · subst hjk
            rw [List.getElem?_eq_getElem hj, hjv, Option.some.injEq] at hy
            rw [hy, ← hya]
          · have hkl' : k < ys.length := by omega
            have := List.pairwise_iff_getElem.1 hw k j hkl' hj (by omega)
            rw [List.getElem?_eq_getElem hkl', Option.some.injEq] at hy
            rw [hy, hjv] at this
            omega
        have hz' : (l.map (rLearn now))[k]? = some (rLearn now z) := by rw [List.getElem?_map, hz]; rfl
        have he := (h.all now).erase (by rw [reS_proj (g := allS now) (·.a) (fun _ => rfl)]; exact hk) hz'
        rw [show (rLearn now z).a = v.a from hza] at he
        exact he.snoc (turns := turns) (fun e he => reS_turnLe ht e (List.mem_filter.1 he).1) hn2 (by rw [hn1, hm1]) (by rw [hn3, hm2])
      · cases hf'
    · rcases hR with ⟨hlt, _⟩ | ⟨_, _, v, hv, hvf, hmin, rfl⟩ | ⟨_, hf', _⟩
      · omega
      · obtain ⟨ys, hp, hw, hm⟩ := h
        obtain ⟨j, hj, hjv⟩ := List.getElem_of_mem (hp.mem_iff.2 hv)
        obtain ⟨u, hu, hua, hus⟩ := map_at' hm (i := j) (y := v) (by rw [List.getElem?_eq_getElem hj, hjv])
        have huf : rFull now u = true := by unfold rFull; unfold isFull at hvf; rw [← hus]; exact hvf
        rw [hno u (List.mem_of_getElem? hu)] at huf; cases huf
      · cases hf'
  · have habs' : ∀ z ∈ l, z.a ≠ a := fun z hz hza => by
      obtain ⟨e, he, hea⟩ := (h.has a).2 ⟨z, hz, hza⟩
      exact habs e he hea
    rcases hR with ⟨_, hf, _⟩ | ⟨_, hf, _⟩ | ⟨h32, _, hnone, rfl⟩
    · cases hf
    · cases hf
    rcases h2 with ⟨i, z, hz, hza, _⟩ | ⟨_, hlt, _⟩ | ⟨_, _, k, z, hz, hf, _⟩ | ⟨_, _, hno, rfl, _⟩
    · exact absurd hza (habs' z (List.mem_of_getElem? hz))
    · omega
    · obtain ⟨ys, hp, hw, hm⟩ := h
      obtain ⟨y, hy, hya, hys⟩ := map_at hm hz
      have := hnone y (hp.mem_iff.1 (List.mem_of_getElem? hy))
      unfold isFull at this; unfold rFull at hf; rw [hys, hf] at this; cases this
    · exact h.all now

theorem fresh_takes {rate burst now : Int} : (Bk.new rate burst now).takes now 1 = true := by
  have : 1 ≤ (Bk.new rate burst now).tokens := by unfold Bk.new; simp only; split <;> (try split) <;> omega
  simp only [Bk.takes, Bk.learn, show now ≤ (Bk.new rate burst now).known from Int.le_refl _, if_true]
  simp; omega

theorem fresh_tokens {rate burst now : Int} : (((Bk.new rate burst now).took now 1).learn now).tokens = (Bk.new rate burst now).burst - 1 := by
  have hl : (Bk.new rate burst now).learn now = Bk.new rate burst now := by simp [Bk.learn, Bk.new]
  simp only [Bk.took, fresh_takes, if_true, hl]
  simp [Bk.learn, Bk.new]

end Go.Proofs.Ytepibimlmfhceaa
