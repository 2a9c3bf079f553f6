/- The walk over (*Meters).Take. Conditions: the meters lie whole in memory; the time is an int; the turns are few. -/
import Derived.Test.YtepibimlmfhceaaMtTakePure
import Derived.Deep.RegionHeld3
namespace Go.Proofs.Ytepibimlmfhceaa
open Go.RowKit
open Go.ChangeMaps (setBlock)

/-- What a Take answers, and who is there behind it. -/
def TakeR (rate burst turns : Int) (es : List Ent) (a : Int × Int) (now : Int) (es' : List Ent) (turns' : Int) (ok room : Bool) : Prop :=
  (∃ x ∈ es, x.a = a ∧ es' = es.map (tookE a (x.s.took now 1) (turns + 1)) ∧ turns' = turns + 1 ∧ ok = x.s.takes now 1 ∧ room = true) ∨
  ((∀ e ∈ es, e.a ≠ a) ∧ ∃ es3, RoomR es now es3 true ∧ ∃ n : Ent, n.a = a ∧ n.turn = turns + 1 ∧ n.s = (Bk.new rate burst now).took now 1 ∧ es' = es3 ++ [n] ∧ turns' = turns + 1 ∧ ok = (Bk.new rate burst now).takes now 1 ∧ room = true) ∨
  ((∀ e ∈ es, e.a ≠ a) ∧ RoomR es now es' false ∧ turns' = turns ∧ ok = false ∧ room = false)

def TakePost (mb r : Nat) (rate burst turns : Int) (es : List Ent) (a : Int × Int) (now : Int) (w : World) (e : Ending) (w' : World) : Prop :=
  ∃ es' turns' clock' ok room, e = .returned (.tuple #[.bool ok, .bool room]) ∧ TakeR rate burst turns es a now es' turns' ok room ∧ MAt w' mb r rate burst turns' es' clock' ∧ Off (Own mb r es) w w' ∧
    ∀ i, Own mb r es' i → Own mb r es i ∨ w.heap.size ≤ i

set_option maxHeartbeats 1000000 in
theorem mtake_some {w : World} {mb r : Nat} {rate burst turns : Int} {es : List Ent} {clock : Nat} (hi lo now : Int) (h : MAt w mb r rate burst turns es clock) (hn : I64 now)
    (ht0 : 0 ≤ turns) (ht1 : turns ≤ 1000000) {x : Ent} (hx : x ∈ es) (ha : x.a = (hi, lo)) :
    Calls Try.prog 21 #[.pointer (some ⟨mb, 0, none⟩), .agg #[.int .u64 hi, .int .u64 lo], .int .i64 now] w (TakePost mb r rate burst turns es (hi, lo) now w) := by
  have hoff := (Off.refl (fun _ => False) w).alloc (.cells #[.int .u64 hi, .int .u64 lo] 46)
  have h1 := h.off hoff (fun _ _ h => h)
  have c3 : (w.alloc (.cells #[.int .u64 hi, .int .u64 lo] 46)).cell? ⟨mb, 3, none⟩ = some (.map (some r)) := h1.top.cell 3
  have c2 : (w.alloc (.cells #[.int .u64 hi, .int .u64 lo] 46)).cell? ⟨mb, 2, none⟩ = some (.int .i64 turns) := h1.top.cell 2
  have cf2 : (w.alloc (.cells #[.int .u64 hi, .int .u64 lo] 46)).frozen? ⟨mb, 2, none⟩ = false := h1.top.free 2
  have b0 : (w.alloc (.cells #[.int .u64 hi, .int .u64 lo] 46)).cell? ⟨w.heap.size, 0, none⟩ = some (.int .u64 hi) := (Blk.new w 46 #[.int .u64 hi, .int .u64 lo]).cell 0
  have b1 : (w.alloc (.cells #[.int .u64 hi, .int .u64 lo] 46)).cell? ⟨w.heap.size, 1, none⟩ = some (.int .u64 lo) := (Blk.new w 46 #[.int .u64 hi, .int .u64 lo]).cell 1
  have hlook := MAt.look_some h.keys hx
  rw [ha] at hlook
  have hk : ∀ n, (Instr.lookup 66 (.map (some r)) (.agg #[.int .u64 hi, .int .u64 lo]) true).run Try.prog ((w.alloc (.cells #[.int .u64 hi, .int .u64 lo] 46)).drewN n) = .ok (.tuple #[.pointer (some ⟨x.o, 0, none⟩), .bool true]) ((w.alloc (.cells #[.int .u64 hi, .int .u64 lo] 46)).drewN n) :=
    fun n => by
      have := mt_lookup (h1.off ((Off.refl (fun _ => False) _).drewN n) (fun _ _ h => h)) hi lo
      rw [hlook] at this; exact this
  have o0 : (w.alloc (.cells #[.int .u64 hi, .int .u64 lo] 46)).cell? ⟨x.o, 0, none⟩ = some (.pointer (some ⟨x.bb, 0, none⟩)) := (h1.one x hx).cell 0
  have o1 : (w.alloc (.cells #[.int .u64 hi, .int .u64 lo] 46)).cell? ⟨x.o, 1, none⟩ = some (.int .i64 x.turn) := (h1.one x hx).cell 1
  have of1 : (w.alloc (.cells #[.int .u64 hi, .int .u64 lo] 46)).frozen? ⟨x.o, 1, none⟩ = false := (h1.one x hx).free 1
  have hne : mb ≠ x.o := MAt.blk_ne h1.top (h1.one x hx) (by decide)
  clear hlook
  go_enter Try.func21, Try.ntmps21
  go_wp2
  go_quiet (fail)
  go_wp2_with fail
  have hbb1 : mb ≠ x.bb := MAt.blk_ne h.top (h.bk x hx) (by decide)
  have hbb2 : x.o ≠ x.bb := MAt.blk_ne (h.one x hx) (h.bk x hx) (by decide)
  have hB : BAt 64 ((((w.alloc (.cells #[.int .u64 hi, .int .u64 lo] 46)).drewN nq).setCell ⟨mb, 2, none⟩ (.int .i64 (turns + 1))).setCell ⟨x.o, 1, none⟩ (.int .i64 (turns + 1))) x.bb x.s :=
    (((Blk.alloc (h.bk x hx) _).drewN nq).setOther hbb1 _).setOther hbb2 _
  have hT : Blk ((((w.alloc (.cells #[.int .u64 hi, .int .u64 lo] 46)).drewN nq).setCell ⟨mb, 2, none⟩ (.int .i64 (turns + 1))).setCell ⟨x.o, 1, none⟩ (.int .i64 (turns + 1))) mb 68 #[.int .i64 rate, .int .i64 burst, .int .i64 (turns + 1), .map (some r)] :=
    (((h1.top).drewN nq).setCell 2 _).setOther hne.symm _
  have hU : Blk ((((w.alloc (.cells #[.int .u64 hi, .int .u64 lo] 46)).drewN nq).setCell ⟨mb, 2, none⟩ (.int .i64 (turns + 1))).setCell ⟨x.o, 1, none⟩ (.int .i64 (turns + 1))) x.o 72 #[.pointer (some ⟨x.bb, 0, none⟩), .int .i64 (turns + 1)] :=
    (((h1.one x hx).drewN nq).setOther hne _).setCell 1 _
  have hO : Off (fun i => i = mb ∨ i = x.o ∨ i = x.bb) w ((((w.alloc (.cells #[.int .u64 hi, .int .u64 lo] 46)).drewN nq).setCell ⟨mb, 2, none⟩ (.int .i64 (turns + 1))).setCell ⟨x.o, 1, none⟩ (.int .i64 (turns + 1))) :=
    (((hoff.drewN nq).mono fun _ _ h => h.elim).setCell _ fun _ => .inl rfl).setCell _ fun _ => .inr (.inl rfl)
  refine (take_any x.bb x.s now 1 _ hB (h.ok x hx) hn ⟨by omega, by omega⟩).mono ?_
  rintro e w5 ⟨rfl, hB5, hO5⟩
  have hO6 := hO.step hO5 (fun _ _ k => .inr (.inr k))
  have hM := h.took hx hO6 (fun _ k => k) ht0 (hO5.blk hT hbb1) (hO5.blk hU hbb2) hB5 (Bk.took_ok (h.ok x hx) hn)
  rw [ha] at hM
  go_wp2
  go_ret2
  refine ⟨_, _, _, _, _, rfl, .inl ⟨x, hx, ha, rfl, rfl, rfl, rfl⟩, hM, hO6.mono ?_, ?_⟩
  · intro i _ k
    rcases k with k | k | k
    · exact .inl k
    · exact .inr (.inr ⟨x, hx, .inl k⟩)
    · exact .inr (.inr ⟨x, hx, .inr k⟩)
  · intro i k
    left
    rcases k with k | k | ⟨e, he, k⟩
    · exact .inl k
    · exact .inr (.inl k)
    · obtain ⟨y, hy, rfl⟩ := List.mem_map.1 he
      refine .inr (.inr ⟨y, hy, ?_⟩)
      simp only [tookE] at k
      split at k <;> exact k

theorem RoomR.absent {es es3 : List Ent} {now : Int} {res : Bool} (h : RoomR es now es3 res) {a : Int × Int} (ha : ∀ e ∈ es, e.a ≠ a) : ∀ e ∈ es3, e.a ≠ a := by
  intro e he
  rcases h with ⟨_, _, rfl⟩ | ⟨_, _, v, _, _, _, rfl⟩ | ⟨_, _, _, rfl⟩
  · exact ha e he
  · obtain ⟨y, hy, rfl⟩ := List.mem_map.1 (List.mem_filter.1 he).1; exact ha y hy
  · obtain ⟨y, hy, rfl⟩ := List.mem_map.1 he; exact ha y hy

theorem RoomR.room {es es3 : List Ent} {now : Int} (h : RoomR es now es3 true) (hk : (es.map (·.a)).Nodup) : es3.length < 32 := by
  rcases h with ⟨hl, _, rfl⟩ | ⟨hl, _, v, hv, _, _, rfl⟩ | ⟨_, h, _⟩
  · exact hl
  · have := without_length (a := v.a) (es := es.map (reS (allS now))) (by rw [reS_proj (g := allS now) (·.a) (fun _ => rfl)]; exact hk) ⟨_, List.mem_map_of_mem hv, rfl⟩
    rw [List.length_map] at this; omega
  · cases h

set_option maxHeartbeats 2000000 in
theorem mtake_none {w : World} {mb r : Nat} {rate burst turns : Int} {es : List Ent} {clock : Nat} (hi lo now : Int) (h : MAt w mb r rate burst turns es clock) (hn : I64 now)
    (ht0 : 0 ≤ turns) (ht1 : turns ≤ 1000000) (hx : ∀ e ∈ es, e.a ≠ (hi, lo)) :
    Calls Try.prog 21 #[.pointer (some ⟨mb, 0, none⟩), .agg #[.int .u64 hi, .int .u64 lo], .int .i64 now] w (TakePost mb r rate burst turns es (hi, lo) now w) := by
  have hoff := (Off.refl (fun _ => False) w).alloc (.cells #[.int .u64 hi, .int .u64 lo] 46)
  have h1 := h.off hoff (fun _ _ h => h)
  have c3 : (w.alloc (.cells #[.int .u64 hi, .int .u64 lo] 46)).cell? ⟨mb, 3, none⟩ = some (.map (some r)) := h1.top.cell 3
  have hS1 := Blk.new w 46 #[.int .u64 hi, .int .u64 lo]
  have b0 : (w.alloc (.cells #[.int .u64 hi, .int .u64 lo] 46)).cell? ⟨w.heap.size, 0, none⟩ = some (.int .u64 hi) := hS1.cell 0
  have b1 : (w.alloc (.cells #[.int .u64 hi, .int .u64 lo] 46)).cell? ⟨w.heap.size, 1, none⟩ = some (.int .u64 lo) := hS1.cell 1
  have hk : ∀ n, (Instr.lookup 66 (.map (some r)) (.agg #[.int .u64 hi, .int .u64 lo]) true).run Try.prog ((w.alloc (.cells #[.int .u64 hi, .int .u64 lo] 46)).drewN n) = .ok (.tuple #[.pointer none, .bool false]) ((w.alloc (.cells #[.int .u64 hi, .int .u64 lo] 46)).drewN n) :=
    fun n => by
      have := mt_lookup (h1.off ((Off.refl (fun _ => False) _).drewN n) (fun _ _ h => h)) hi lo
      rw [MAt.look_none hx] at this; exact this
  go_enter Try.func21, Try.ntmps21
  go_wp2
  go_quiet (fail)
  go_wp2_with fail
  have h2 := h1.off ((Off.refl (fun _ => False) _).drewN nq) (fun _ _ h => h)
  refine (room_any now hn h2 ht0 ht1).mono ?_
  rintro e w3 ⟨es3, res, rfl, hR, hM, hO, hown⟩
  have habs := hR.absent hx
  have hlt0 : ∀ i, Own mb r es i → i < w.heap.size := fun i k => h.own_lt k
  have hS3 := hO.blk (hS1.drewN nq) (fun k => by have := hlt0 _ k; omega)
  have hoff3 := ((hoff.drewN nq).mono (S' := Own mb r es) (fun _ _ h => h.elim)).step hO (fun _ _ k => k)
  clear c3 b0 b1 hk h1 h2 hoff hO hS1
  cases res with
  | false =>
    go_wp2
    go_ret2
    exact ⟨_, _, _, _, _, rfl, .inr (.inr ⟨hx, hR, rfl, rfl, rfl⟩), hM, hoff3, fun i k => .inl (hown i k)⟩
  | true =>
    have hlen := hR.room h.keys
    have r0 : w3.cell? ⟨mb, 0, none⟩ = some (.int .i64 rate) := hM.top.cell 0
    have r1 : w3.cell? ⟨mb, 1, none⟩ = some (.int .i64 burst) := hM.top.cell 1
    have hmb3 := hM.top.lt
    go_wp2_with fail
    go_region_held3 (fun w' => w'.cell? ⟨mb, 0, none⟩ = some (.int .i64 rate) ∧ w'.cell? ⟨mb, 1, none⟩ = some (.int .i64 burst)) (first | exact ⟨r0, r1⟩ | exact ⟨s0, s1⟩ | (go_keep))
      (first | (go_at_call 12; refine (new_any rate burst now _).mono ?_; rintro e w4 ⟨nb, rfl, hnb, hB4, hO4⟩; have s0 := (hO4.cell (p := ⟨mb, 0, none⟩) hmb3 id).trans r0; have s1 := (hO4.cell (p := ⟨mb, 1, none⟩) hmb3 id).trans r1))
    have hO5 : Off (fun _ => False) w4 (w4.alloc (.cells #[.pointer (some ⟨nb, 0, none⟩), .int .i64 0] 72)) := (Off.refl _ _).alloc _
    have hO35 : Off (fun _ => False) w3 (w4.alloc (.cells #[.pointer (some ⟨nb, 0, none⟩), .int .i64 0] 72)) := ((Off.refl _ _).drew.step hO4 (fun _ _ k => k)).step hO5 (fun _ _ k => k)
    have hM5 := hM.off hO35 (fun _ _ k => k)
    have hS5 := hO35.blk hS3 id
    have hB5 := hB4.alloc (.cells #[.pointer (some ⟨nb, 0, none⟩), .int .i64 0] 72)
    have hU5 := Blk.new w4 72 #[.pointer (some ⟨nb, 0, none⟩), .int .i64 0]
    have hno : w3.heap.size ≤ w4.heap.size := hO4.size
    clear hS3 hO5 s0 s1 r0 r1 hB4 hO4 hmb3
    generalize w4.alloc (.cells #[.pointer (some ⟨nb, 0, none⟩), .int .i64 0] 72) = w5 at *
    generalize w4.heap.size = no at *
    obtain ⟨n, hn1, hn2, hn3, hn4, hn5, hn6⟩ : ∃ n : Ent, n.a = (hi, lo) ∧ n.o = no ∧ n.bb = nb ∧ n.turn = turns + 1 ∧ n.s = (Bk.new rate burst now).took now 1 ∧ n.born = clock := ⟨⟨_, _, _, _, _, _⟩, rfl, rfl, rfl, rfl, rfl, rfl⟩
    have hst := run_store_new (P := Try.prog) addr_key Try.underlying66 hM5.drew.map (hi, lo) (.pointer (some ⟨no, 0, none⟩)) (MAt.look_none habs)
    have hset : ∀ O, O = (Obj.map ((es3.map Ent.kent ++ [(⟨(hi, lo), .pointer (some ⟨no, 0, none⟩), clock⟩ : KEnt (Int × Int))]).map (KEnt.raw addrV)).toArray (clock + 1)) → MapAt addrV (setBlock w5.drew r O) r ((es3 ++ [n]).map Ent.kent) (clock + 1) := by
      intro O hO
      have : (es3 ++ [n]).map Ent.kent = es3.map Ent.kent ++ [(⟨(hi, lo), .pointer (some ⟨no, 0, none⟩), clock⟩ : KEnt (Int × Int))] := by
        rw [List.map_append]; simp [Ent.kent, hn1, hn2, hn6]
      rw [this, hO]
      exact hM5.drew.map.set
    generalize hOb : (Obj.map ((es3.map Ent.kent ++ [(⟨(hi, lo), .pointer (some ⟨no, 0, none⟩), clock⟩ : KEnt (Int × Int))]).map (KEnt.raw addrV)).toArray (clock + 1)) = O at hst
    have hmap := hset O hOb.symm
    have hOff6 : Off (· = r) w5 (setBlock w5.drew r O) := (Off.refl _ _).drew.setBlock _ fun _ => rfl
    clear hset hOb
    have c3 : w5.cell? ⟨mb, 3, none⟩ = some (.map (some r)) := hM5.top.cell 3
    have b0 : w5.cell? ⟨w.heap.size, 0, none⟩ = some (.int .u64 hi) := hS5.cell 0
    have b1 : w5.cell? ⟨w.heap.size, 1, none⟩ = some (.int .u64 lo) := hS5.cell 1
    have hst' : (Instr.mapUpdate 66 (.map (some r)) (.agg #[.int .u64 hi, .int .u64 lo]) (.pointer (some ⟨no, 0, none⟩))).run Try.prog w5.drew = .ok () (setBlock w5.drew r O) := hst
    clear hst
    have hT6 := hOff6.blk hM5.top (fun k => hM5.map.not_blk hM5.top k)
    have hU6 := hOff6.blk hU5 (fun k => hM5.map.not_blk hU5 k)
    have hB6 := hB5.off hOff6 (fun k => hM5.map.not_blk hB5 k)
    go_wp2_with fail
    go_region
    have hne1 : mb ≠ no := MAt.blk_ne hT6 hU6 (by decide)
    have hne2 : mb ≠ nb := MAt.blk_ne hT6 hB6 (by decide)
    have hne3 : no ≠ nb := MAt.blk_ne hU6 hB6 (by decide)
    have hne4 : r ≠ mb := fun k => hM5.map.not_blk hM5.top k.symm
    have hne5 : r ≠ no := fun k => hM5.map.not_blk hU5 k.symm
    have hne6 : r ≠ nb := fun k => hM5.map.not_blk hB5 k.symm
    have hO36 : Off (fun i => i = r) w3 (setBlock w5.drew r O) := (hO35.mono fun _ _ k => k.elim).step hOff6 fun _ _ k => k
    generalize setBlock w5.drew r O = w6 at *
    clear hst' c3 b0 b1 hS5 hB5 hU5 hOff6 hM5 hO35
    have c2 : w6.cell? ⟨mb, 2, none⟩ = some (.int .i64 turns) := hT6.cell 2
    have cf2 : w6.frozen? ⟨mb, 2, none⟩ = false := hT6.free 2
    have u0 : w6.cell? ⟨no, 0, none⟩ = some (.pointer (some ⟨nb, 0, none⟩)) := hU6.cell 0
    have u1 : w6.cell? ⟨no, 1, none⟩ = some (.int .i64 0) := hU6.cell 1
    have uf1 : w6.frozen? ⟨no, 1, none⟩ = false := hU6.free 1
    go_wp2_with fail
    have hs0 := Bk.new_ok rate burst now hn
    have hT7 : Blk ((w6.setCell ⟨mb, 2, none⟩ (.int .i64 (turns + 1))).setCell ⟨no, 1, none⟩ (.int .i64 (turns + 1))) mb 68 #[.int .i64 rate, .int .i64 burst, .int .i64 (turns + 1), .map (some r)] := (hT6.setCell 2 _).setOther hne1.symm _
    have hU7 : Blk ((w6.setCell ⟨mb, 2, none⟩ (.int .i64 (turns + 1))).setCell ⟨no, 1, none⟩ (.int .i64 (turns + 1))) no 72 #[.pointer (some ⟨nb, 0, none⟩), .int .i64 (turns + 1)] := (hU6.setOther hne1 _).setCell 1 _
    have hB7 : BAt 64 ((w6.setCell ⟨mb, 2, none⟩ (.int .i64 (turns + 1))).setCell ⟨no, 1, none⟩ (.int .i64 (turns + 1))) nb (Bk.new rate burst now) := (Blk.setOther hB6 hne2 _).setOther hne3 _
    have hmap7 : MapAt addrV ((w6.setCell ⟨mb, 2, none⟩ (.int .i64 (turns + 1))).setCell ⟨no, 1, none⟩ (.int .i64 (turns + 1))) r ((es3 ++ [n]).map Ent.kent) (clock + 1) := (hmap.setCell hne4.symm _).setCell hne5.symm _
    have hO37 : Off (fun i => i = mb ∨ i = r ∨ i = no) w3 ((w6.setCell ⟨mb, 2, none⟩ (.int .i64 (turns + 1))).setCell ⟨no, 1, none⟩ (.int .i64 (turns + 1))) :=
      ((hO36.mono fun _ _ k => .inr (.inl k)).setCell _ fun _ => .inl rfl).setCell _ fun _ => .inr (.inr rfl)
    refine (take_any nb (Bk.new rate burst now) now 1 _ hB7 hs0 hn ⟨by omega, by omega⟩).mono ?_
    rintro e w8 ⟨rfl, hB8, hO8⟩
    have hT8 := hO8.blk hT7 hne2
    have hU8 := hO8.blk hU7 hne3
    have hmap8 := hmap7.off hO8 hne6
    have hO38 := (hO37.mono (S' := fun i => i = mb ∨ i = r ∨ i = no ∨ i = nb) (fun _ _ k => by rcases k with k | k | k; exact .inl k; exact .inr (.inl k); exact .inr (.inr (.inl k)))).step hO8 (fun _ _ k => .inr (.inr (.inr k)))
    go_wp2
    go_ret2
    have hMn := hM.added (n := n) hO38 (fun i hi k => by
        rcases k with k | k | k | k
        · exact .inl k
        · exact .inr k
        · omega
        · simp at hnb; omega) ht0 (by omega) (by simp at hnb; omega) hn4 hn6 (fun e he => by rw [hn1]; exact habs e he) hlen hT8 hmap8 (by rw [hn2, hn3]; exact hU8) (by rw [hn3, hn5]; exact hB8) (by rw [hn5]; exact Bk.took_ok hs0 hn)
    refine ⟨_, _, _, _, _, rfl, .inr (.inl ⟨hx, es3, hR, n, hn1, hn4, hn5, rfl, rfl, rfl, rfl⟩), hMn, hoff3.step hO38 ?_, ?_⟩
    · intro i hi k
      have := hoff3.size
      rcases k with k | k | k | k
      · exact .inl k
      · exact .inr (.inl k)
      · omega
      · simp at hnb; omega
    · intro i k
      have := hoff3.size
      rcases k with k | k | ⟨y, hy, k⟩
      · exact .inl (.inl k)
      · exact .inl (.inr (.inl k))
      · rcases List.mem_append.1 hy with hy | hy
        · exact .inl (hown i (.inr (.inr ⟨y, hy, k⟩)))
        · obtain rfl := List.mem_singleton.1 hy
          right
          simp at hnb
          rcases k with k | k <;> omega

theorem mtake_any {w : World} {mb r : Nat} {rate burst turns : Int} {es : List Ent} {clock : Nat} (hi lo now : Int) (h : MAt w mb r rate burst turns es clock) (hn : I64 now)
    (ht0 : 0 ≤ turns) (ht1 : turns ≤ 1000000) :
    Calls Try.prog 21 #[.pointer (some ⟨mb, 0, none⟩), .agg #[.int .u64 hi, .int .u64 lo], .int .i64 now] w (TakePost mb r rate burst turns es (hi, lo) now w) := by
  by_cases hx : ∃ x ∈ es, x.a = (hi, lo)
  · obtain ⟨x, hx, ha⟩ := hx
    exact mtake_some hi lo now h hn ht0 ht1 hx ha
  · exact mtake_none hi lo now h hn ht0 ht1 (fun e he k => hx ⟨e, he, k⟩)

end Go.Proofs.Ytepibimlmfhceaa
