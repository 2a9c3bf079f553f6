/- What a Take leaves of the meters in memory. No conditions. -/
import Derived.Test.YtepibimlmfhceaaMtRoom
namespace Go.Proofs.Ytepibimlmfhceaa
open Go.RowKit
open Go.ChangeMaps (setBlock)

/-- Whether there is room for another source, and who is there then. -/
def RoomR (es : List Ent) (now : Int) (es' : List Ent) (res : Bool) : Prop :=
  (es.length < 32 ∧ res = true ∧ es' = es) ∨
  (es.length = 32 ∧ res = true ∧ ∃ v ∈ es, isFull now v = true ∧ (∀ x ∈ es, isFull now x = true → v.turn ≤ x.turn) ∧ es' = without v.a (es.map (reS (allS now)))) ∨
  (es.length = 32 ∧ res = false ∧ (∀ x ∈ es, isFull now x = false) ∧ es' = es.map (reS (allS now)))

def RoomAny (mb r : Nat) (rate burst turns : Int) (es : List Ent) (clock : Nat) (now : Int) (w : World) (e : Ending) (w' : World) : Prop :=
  ∃ es' res, e = .returned (.bool res) ∧ RoomR es now es' res ∧ MAt w' mb r rate burst turns es' clock ∧ Off (Own mb r es) w w' ∧ ∀ i, Own mb r es' i → Own mb r es i

theorem own_without {mb r : Nat} {a : Int × Int} {es : List Ent} {i : Nat} (h : Own mb r (without a es) i) : Own mb r es i := by
  rcases h with h | h | ⟨e, he, h⟩
  · exact .inl h
  · exact .inr (.inl h)
  · exact .inr (.inr ⟨e, (List.mem_filter.1 he).1, h⟩)

theorem room_any {w : World} {mb r : Nat} {rate burst turns : Int} {es : List Ent} {clock : Nat} (now : Int) (hn : I64 now) (h : MAt w mb r rate burst turns es clock) (ht0 : 0 ≤ turns) (ht1 : turns ≤ 1000000) :
    Calls Try.prog 30 #[.pointer (some ⟨mb, 0, none⟩), .int .i64 now] w (RoomAny mb r rate burst turns es clock now w) := by
  by_cases hlt : es.length < 32
  · refine (room_few now h hlt).mono ?_
    rintro e w' ⟨rfl, rfl⟩
    exact ⟨es, true, rfl, .inl ⟨hlt, rfl, rfl⟩, h, Off.refl _ _, fun _ h => h⟩
  · have hlen : es.length = 32 := by have := h.few; omega
    refine (room_full now hn h hlen ht0 ht1).mono ?_
    rintro e w' ⟨hO, ⟨v, hv, hf, hmin, rfl, hM⟩ | ⟨hno, rfl, hM⟩⟩
    · exact ⟨_, true, rfl, .inr (.inl ⟨hlen, rfl, v, hv, hf, hmin, rfl⟩), hM, hO, fun i hi => (own_reS es i).1 (own_without hi)⟩
    · exact ⟨_, false, rfl, .inr (.inr ⟨hlen, rfl, hno, rfl⟩), hM, hO, fun i hi => (own_reS es i).1 hi⟩

/-- An entry whose bucket and turn are turned. -/
def tookE (a : Int × Int) (s : Bk) (turn : Int) (e : Ent) : Ent := if e.a = a then { e with s := s, turn := turn } else e

theorem tookE_proj {β : Type} {a : Int × Int} {s : Bk} {turn : Int} (p : Ent → β) (hp : ∀ e, p { e with s := s, turn := turn } = p e) (es : List Ent) : (es.map (tookE a s turn)).map p = es.map p := by
  rw [List.map_map]; exact List.map_congr_left fun e _ => by simp only [Function.comp, tookE]; split <;> simp [hp]

theorem tookE_turns {a : Int × Int} {s : Bk} {turns : Int} : ∀ {es : List Ent}, (es.map (·.a)).Nodup → (es.map (·.turn)).Nodup → (∀ e ∈ es, e.turn ≤ turns) →
    ((es.map (tookE a s (turns + 1))).map (·.turn)).Nodup
  | [], _, _, _ => by simp
  | e :: es, hk, ht, hle => by
    simp only [List.map_cons, List.nodup_cons] at hk ht ⊢
    refine ⟨?_, tookE_turns hk.2 ht.2 fun x hx => hle x (List.mem_cons_of_mem _ hx)⟩
    intro hm
    obtain ⟨y, hy, hye⟩ := List.mem_map.1 hm
    obtain ⟨z, hz, rfl⟩ := List.mem_map.1 hy
    have h1 := hle e List.mem_cons_self
    have h2 := hle z (List.mem_cons_of_mem _ hz)
    simp only [tookE] at hye
    split at hye <;> split at hye <;> (try simp only at hye)
    · rename_i ha hb; exact hk.1 (by rw [hb, ← ha]; exact List.mem_map_of_mem (f := (·.a)) hz)
    · omega
    · omega
    · exact ht.1 (hye ▸ List.mem_map_of_mem (f := (·.turn)) hz)

theorem MAt.took {w w' : World} {mb r : Nat} {rate burst turns : Int} {es : List Ent} {clock : Nat} (h : MAt w mb r rate burst turns es clock) {x : Ent} (hx : x ∈ es) {s : Bk} {S : Nat → Prop}
    (hO : Off S w w') (hS : ∀ i, S i → i = mb ∨ i = x.o ∨ i = x.bb) (ht : 0 ≤ turns)
    (top : Blk w' mb 68 #[.int .i64 rate, .int .i64 burst, .int .i64 (turns + 1), .map (some r)])
    (one : Blk w' x.o 72 #[.pointer (some ⟨x.bb, 0, none⟩), .int .i64 (turns + 1)]) (bk : BAt 64 w' x.bb s) (hs : s.Ok) :
    MAt w' mb r rate burst (turns + 1) (es.map (tookE x.a s (turns + 1))) clock where
  top := top
  map := by
    rw [tookE_proj Ent.kent (fun _ => rfl)]
    exact h.map.off hO (fun k => by
      rcases hS _ k with e | e | e
      · exact h.map.not_blk h.top e.symm
      · exact h.map.not_blk (h.one x hx) e.symm
      · exact h.map.not_blk (h.bk x hx) e.symm)
  one := fun y hy => by
    obtain ⟨z, hz, rfl⟩ := List.mem_map.1 hy
    simp only [tookE]
    by_cases hza : z.a = x.a
    · obtain rfl := nodup_inj h.keys hz hx hza
      simp only [if_true]; exact one
    · rw [if_neg hza]
      refine hO.blk (h.one z hz) (fun k => ?_)
      rcases hS _ k with e | e | e
      · exact MAt.blk_ne h.top (h.one z hz) (by decide) e.symm
      · have h1 := h.one z hz; have h2 := h.one x hx
        rw [e] at h1; unfold Blk at h1 h2; rw [h1] at h2
        simp only [Option.some.injEq, Obj.cells.injEq, Array.mk.injEq, List.cons.injEq, Value.int.injEq, true_and, and_true] at h2
        exact hza (by rw [nodup_inj h.turnsN hz hx h2.2])
      · exact MAt.blk_ne (h.one z hz) (h.bk x hx) (by decide) e
  bk := fun y hy => by
    obtain ⟨z, hz, rfl⟩ := List.mem_map.1 hy
    simp only [tookE]
    by_cases hza : z.a = x.a
    · obtain rfl := nodup_inj h.keys hz hx hza
      simp only [if_true]; exact bk
    · rw [if_neg hza]
      refine hO.blk (h.bk z hz) (fun k => ?_)
      rcases hS _ k with e | e | e
      · exact MAt.blk_ne h.top (h.bk z hz) (by decide) e.symm
      · exact MAt.blk_ne (h.one x hx) (h.bk z hz) (by decide) e.symm
      · exact hza (by rw [nodup_inj h.bbs hz hx e])
  ok := fun y hy => by
    obtain ⟨z, hz, rfl⟩ := List.mem_map.1 hy
    simp only [tookE]; split
    · exact hs
    · exact h.ok z hz
  bbs := by rw [tookE_proj (·.bb) (fun _ => rfl)]; exact h.bbs
  keys := by rw [tookE_proj (·.a) (fun _ => rfl)]; exact h.keys
  turnsN := tookE_turns h.keys h.turnsN (fun e he => (h.turnLe e he).2)
  turnLe := fun y hy => by
    obtain ⟨z, hz, rfl⟩ := List.mem_map.1 hy
    have := h.turnLe z hz
    simp only [tookE]; split <;> (try simp only) <;> omega
  bornN := by rw [tookE_proj (·.born) (fun _ => rfl)]; exact h.bornN
  bornLt := fun y hy => by
    obtain ⟨z, hz, rfl⟩ := List.mem_map.1 hy
    have := h.bornLt z hz
    simp only [tookE]; split <;> exact this
  few := by rw [List.length_map]; exact h.few

theorem nodup_snoc {α : Type} {l : List α} {x : α} (h : l.Nodup) (hx : x ∉ l) : (l ++ [x]).Nodup := by
  rw [List.nodup_append]
  exact ⟨h, by simp, fun a ha b hb e => hx (by rw [List.mem_singleton.1 hb] at e; exact e ▸ ha)⟩

theorem MAt.added {w w' : World} {mb r : Nat} {rate burst turns : Int} {es : List Ent} {clock : Nat} (h : MAt w mb r rate burst turns es clock) {n : Ent} {S : Nat → Prop}
    (hO : Off S w w') (hS : ∀ i, i < w.heap.size → S i → i = mb ∨ i = r) (ht : 0 ≤ turns) (hno : w.heap.size ≤ n.o) (hnb : w.heap.size ≤ n.bb) (hnt : n.turn = turns + 1) (hnc : n.born = clock) (habs : ∀ e ∈ es, e.a ≠ n.a) (hlen : es.length < 32)
    (top : Blk w' mb 68 #[.int .i64 rate, .int .i64 burst, .int .i64 (turns + 1), .map (some r)]) (hmap : MapAt addrV w' r ((es ++ [n]).map Ent.kent) (clock + 1))
    (one : Blk w' n.o 72 #[.pointer (some ⟨n.bb, 0, none⟩), .int .i64 (turns + 1)]) (bk : BAt 64 w' n.bb n.s) (hs : n.s.Ok) :
    MAt w' mb r rate burst (turns + 1) (es ++ [n]) (clock + 1) where
  top := top
  map := hmap
  one := fun y hy => by
    rcases List.mem_append.1 hy with hy | hy
    · refine hO.blk (h.one y hy) (fun k => ?_)
      rcases hS _ (h.one y hy).lt k with e | e
      · exact MAt.blk_ne h.top (h.one y hy) (by decide) e.symm
      · exact h.map.not_blk (h.one y hy) e
    · obtain rfl := List.mem_singleton.1 hy
      rw [hnt]; exact one
  bk := fun y hy => by
    rcases List.mem_append.1 hy with hy | hy
    · refine hO.blk (h.bk y hy) (fun k => ?_)
      rcases hS _ (h.bk y hy).lt k with e | e
      · exact MAt.blk_ne h.top (h.bk y hy) (by decide) e.symm
      · exact h.map.not_blk (h.bk y hy) e
    · obtain rfl := List.mem_singleton.1 hy
      exact bk
  ok := fun y hy => by
    rcases List.mem_append.1 hy with hy | hy
    · exact h.ok y hy
    · obtain rfl := List.mem_singleton.1 hy; exact hs
  bbs := by
    rw [List.map_append]
    refine nodup_snoc h.bbs fun hm => ?_
    obtain ⟨y, hy, hye⟩ := List.mem_map.1 hm
    have := (h.bk y hy).lt; simp only at hye; omega
  keys := by
    rw [List.map_append]
    refine nodup_snoc h.keys fun hm => ?_
    obtain ⟨y, hy, hye⟩ := List.mem_map.1 hm
    exact habs y hy hye
  turnsN := by
    rw [List.map_append]
    refine nodup_snoc h.turnsN fun hm => ?_
    obtain ⟨y, hy, hye⟩ := List.mem_map.1 hm
    have := (h.turnLe y hy).2; simp only at hye; omega
  turnLe := fun y hy => by
    rcases List.mem_append.1 hy with hy | hy
    · have := h.turnLe y hy; omega
    · obtain rfl := List.mem_singleton.1 hy; omega
  bornN := by
    rw [List.map_append]
    refine nodup_snoc h.bornN fun hm => ?_
    obtain ⟨y, hy, hye⟩ := List.mem_map.1 hm
    have := h.bornLt y hy; simp only at hye; omega
  bornLt := fun y hy => by
    rcases List.mem_append.1 hy with hy | hy
    · have := h.bornLt y hy; omega
    · obtain rfl := List.mem_singleton.1 hy; omega
  few := by rw [List.length_append]; simp; omega
end Go.Proofs.Ytepibimlmfhceaa
