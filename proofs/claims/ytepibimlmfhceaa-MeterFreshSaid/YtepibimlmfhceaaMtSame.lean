/- Two meters that are told apart by their blocks alone are answered alike. No conditions. -/
import Derived.Test.YtepibimlmfhceaaMtTake
namespace Go.Proofs.Ytepibimlmfhceaa
open Go.RowKit

/-- What a meter knows of a source. -/
structure Ab where
  a : Int × Int
  turn : Int
  s : Bk

def Ent.ab (e : Ent) : Ab := ⟨e.a, e.turn, e.s⟩

def Alike2 (es es' : List Ent) : Prop := es.map Ent.ab = es'.map Ent.ab

theorem Alike2.symm {es es' : List Ent} (h : Alike2 es es') : Alike2 es' es := Eq.symm h
theorem Alike2.len {es es' : List Ent} (h : Alike2 es es') : es.length = es'.length := by
  have := congrArg List.length h; simpa using this
theorem Alike2.mem {es es' : List Ent} (h : Alike2 es es') {x : Ent} (hx : x ∈ es) : ∃ y ∈ es', y.a = x.a ∧ y.turn = x.turn ∧ y.s = x.s := by
  have : x.ab ∈ es'.map Ent.ab := h ▸ List.mem_map_of_mem hx
  obtain ⟨y, hy, e⟩ := List.mem_map.1 this
  simp only [Ent.ab, Ab.mk.injEq] at e
  exact ⟨y, hy, e⟩
theorem Alike2.absent {es es' : List Ent} (h : Alike2 es es') {a : Int × Int} (ha : ∀ e ∈ es, e.a ≠ a) : ∀ e ∈ es', e.a ≠ a := by
  intro e he k
  obtain ⟨y, hy, h1, _⟩ := h.symm.mem he
  exact ha y hy (h1.trans k)

theorem Alike2.map {es es' : List Ent} (h : Alike2 es es') {f : Ent → Ent} (g : Ab → Ab) (hf : ∀ e, (f e).ab = g e.ab) : Alike2 (es.map f) (es'.map f) := by
  unfold Alike2 at *
  have (l : List Ent) : (l.map f).map Ent.ab = (l.map Ent.ab).map g := by
    rw [List.map_map, List.map_map]; exact List.map_congr_left fun e _ => hf e
  rw [this, this, h]

theorem Alike2.without {es es' : List Ent} (h : Alike2 es es') (a : Int × Int) : Alike2 (without a es) (without a es') := by
  unfold Alike2 at *
  have (l : List Ent) : (Go.Proofs.Ytepibimlmfhceaa.without a l).map Ent.ab = (l.map Ent.ab).filter fun x => decide (x.a ≠ a) := by
    unfold Go.Proofs.Ytepibimlmfhceaa.without
    rw [List.filter_map]; rfl
  rw [this, this, h]

theorem Alike2.full {x y : Ent} (h : y.s = x.s) (now : Int) : isFull now y = isFull now x := by unfold isFull; rw [h]

def Ab.learned (now : Int) (x : Ab) : Ab := { x with s := x.s.learn now }

theorem allS_ab (now : Int) (e : Ent) : (reS (allS now) e).ab = (e.ab).learned now := rfl

theorem RoomR.same {es es' es3 es3' : List Ent} {now : Int} {r r' : Bool} (h : Alike2 es es') (hn : (es'.map (·.turn)).Nodup) (k : RoomR es now es3 r) (k' : RoomR es' now es3' r') :
    r = r' ∧ Alike2 es3 es3' := by
  have hl := h.len
  rcases k with ⟨l, rfl, rfl⟩ | ⟨l, rfl, v, hv, hf, hmin, rfl⟩ | ⟨l, rfl, hno, rfl⟩ <;> rcases k' with ⟨l', rfl, rfl⟩ | ⟨l', rfl, v', hv', hf', hmin', rfl⟩ | ⟨l', rfl, hno', rfl⟩
  · exact ⟨rfl, h⟩
  · omega
  · omega
  · omega
  · refine ⟨rfl, ?_⟩
    obtain ⟨y, hy, ya, yt, ys⟩ := h.mem hv
    obtain ⟨z, hz, za, zt, zs⟩ := h.symm.mem hv'
    have h1 := hmin' y hy (by rw [Alike2.full ys]; exact hf)
    have h2 := hmin z hz (by rw [Alike2.full zs]; exact hf')
    have : y = v' := nodup_inj hn hy hv' (by show y.turn = v'.turn; omega)
    subst this
    rw [← ya]
    exact (h.map (Ab.learned now) (allS_ab now)).without _
  · obtain ⟨y, hy, ya, yt, ys⟩ := h.mem hv
    have := hno' y hy
    rw [Alike2.full ys, hf] at this; cases this
  · omega
  · obtain ⟨y, hy, ya, yt, ys⟩ := h.symm.mem hv'
    have := hno y hy
    rw [Alike2.full ys, hf'] at this; cases this
  · exact ⟨rfl, h.map (Ab.learned now) (allS_ab now)⟩

theorem Bk.learn_idem (s : Bk) (t : Int) : (s.learn t).learn t = s.learn t := by
  refine Bk.learn_back ?_
  unfold Bk.learn; split
  · assumption
  · exact Int.le_refl _

theorem Bk.takes_learned (s : Bk) (t n : Int) : (s.learn t).takes t n = s.takes t n := by unfold Bk.takes; rw [Bk.learn_idem]
theorem Bk.took_learned (s : Bk) (t n : Int) : (s.learn t).took t n = s.took t n := by unfold Bk.took; rw [Bk.takes_learned, Bk.learn_idem]

/-- One is asked for its tokens ahead of a Take: nothing else comes of it. -/
theorem TakeR.same {rate burst turns turns1 turns2 now : Int} {es es' es1 es2 : List Ent} {a : Int × Int} {ok1 room1 ok2 room2 : Bool} (h : Alike2 es es') (hk : (es.map (·.a)).Nodup) (hk' : (es'.map (·.a)).Nodup) (hn : (es'.map (·.turn)).Nodup)
    (k : TakeR rate burst turns es a now es1 turns1 ok1 room1) {es'' : List Ent}
    (ht : (∃ x ∈ es', x.a = a ∧ es'' = es'.map (reS fun e => if e.a = a then x.s.learn now else e.s)) ∨ ((∀ e ∈ es', e.a ≠ a) ∧ es'' = es'))
    (k' : TakeR rate burst turns es'' a now es2 turns2 ok2 room2) : ok1 = ok2 ∧ room1 = room2 ∧ turns1 = turns2 ∧ Alike2 es1 es2 := by
  rcases ht with ⟨x', hx', hxa', rfl⟩ | ⟨habs', rfl⟩
  · obtain ⟨x0, hx0, x0a, x0t, x0s⟩ := h.symm.mem hx'
    have hsx : x0.s = x'.s := x0s
    rcases k with ⟨x, hx, hxa, rfl, rfl, rfl, rfl⟩ | ⟨habs, _⟩ | ⟨habs, _⟩
    · obtain rfl := nodup_inj hk hx hx0 (hxa.trans (x0a.trans hxa').symm)
      rcases k' with ⟨y, hy, hya, rfl, rfl, rfl, rfl⟩ | ⟨habs2, _⟩ | ⟨habs2, _⟩
      · obtain ⟨z, hz, rfl⟩ := List.mem_map.1 hy
        have hza : z.a = a := hya
        obtain rfl := nodup_inj hk' hz hx' (hza.trans hxa'.symm)
        have hs : (reS (fun e => if e.a = a then z.s.learn now else e.s) z).s = z.s.learn now := by simp only [reS, hza, if_true]
        rw [hs, Bk.takes_learned, Bk.took_learned, hsx]
        refine ⟨rfl, rfl, rfl, ?_⟩
        unfold Alike2 at h ⊢
        have e2 (l : List Ent) (s : Bk) (tn : Int) : (l.map (tookE a s tn)).map Ent.ab = (l.map Ent.ab).map fun e : Ab => if e.a = a then { e with s := s, turn := tn } else e := by
          rw [List.map_map, List.map_map]; exact List.map_congr_left fun e _ => by simp only [Function.comp, tookE, Ent.ab]; by_cases hea : e.a = a <;> simp [hea]
        rw [e2, e2, h]
        rw [List.map_map, List.map_map, List.map_map]
        refine List.map_congr_left fun e _ => ?_
        simp only [Function.comp, Ent.ab, reS]
        split <;> simp_all
      · exact absurd hxa' (habs2 (reS (fun e => if e.a = a then x'.s.learn now else e.s) x') (List.mem_map_of_mem hx'))
      · exact absurd hxa' (habs2 (reS (fun e => if e.a = a then x'.s.learn now else e.s) x') (List.mem_map_of_mem hx'))
    · exact absurd (x0a.trans hxa') (habs x0 hx0)
    · exact absurd (x0a.trans hxa') (habs x0 hx0)
  · have habs := h.symm.absent habs'
    rcases k with ⟨x, hx, hxa, _⟩ | ⟨_, es3, hR, n, n1, n2, n3, rfl, rfl, rfl, rfl⟩ | ⟨_, hR, rfl, rfl, rfl⟩
    · exact absurd hxa (habs x hx)
    · rcases k' with ⟨x, hx, hxa, _⟩ | ⟨_, es3', hR', n', n1', n2', n3', rfl, rfl, rfl, rfl⟩ | ⟨_, hR', _⟩
      · exact absurd hxa (habs' x hx)
      · obtain ⟨_, hA⟩ := hR.same h hn hR'
        refine ⟨rfl, rfl, rfl, ?_⟩
        unfold Alike2 at hA ⊢
        rw [List.map_append, List.map_append, hA]
        simp only [List.map_cons, List.map_nil, Ent.ab, n1, n2, n3, n1', n2', n3']
      · obtain ⟨e, _⟩ := hR.same h hn hR'; cases e
    · rcases k' with ⟨x, hx, hxa, _⟩ | ⟨_, es3', hR', n', n1', n2', n3', rfl, rfl, rfl, rfl⟩ | ⟨_, hR', rfl, rfl, rfl⟩
      · exact absurd hxa (habs' x hx)
      · obtain ⟨e, _⟩ := hR.same h hn hR'; cases e
      · obtain ⟨_, hA⟩ := hR.same h hn hR'
        exact ⟨rfl, rfl, rfl, hA⟩

theorem Bk.new_takes (rate burst now : Int) : (Bk.new rate burst now).takes now 1 = true := by
  have e : (Bk.new rate burst now).learn now = Bk.new rate burst now := Bk.learn_back (Int.le_refl _)
  have : 1 ≤ (Bk.new rate burst now).tokens := by simp only [Bk.new]; split <;> (try split) <;> omega
  simp [Bk.takes, e]; omega

/-- The first of all is answered. -/
theorem TakeR.first {rate burst turns now : Int} {es1 : List Ent} {a : Int × Int} {turns1 : Int} {ok room : Bool} (k : TakeR rate burst turns [] a now es1 turns1 ok room) : ok = true ∧ room = true := by
  rcases k with ⟨x, hx, _⟩ | ⟨_, es3, hR, n, n1, n2, n3, rfl, rfl, rfl, rfl⟩ | ⟨_, hR, _⟩
  · cases hx
  · exact ⟨Bk.new_takes _ _ _, rfl⟩
  · rcases hR with ⟨_, h, _⟩ | ⟨h, _⟩ | ⟨h, _⟩
    · cases h
    · cases h
    · cases h
end Go.Proofs.Ytepibimlmfhceaa
