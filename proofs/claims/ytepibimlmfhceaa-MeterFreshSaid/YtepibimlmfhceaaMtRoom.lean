/- The walk over (*Meters).room. Conditions: the meters lie whole in memory; the time is an int; the turns are few. -/
import Derived.Test.YtepibimlmfhceaaMtWalka
namespace Go.Proofs.Ytepibimlmfhceaa
open Go.RowKit
open Go.ChangeMaps (setBlock)

def isFull (now : Int) (e : Ent) : Bool := (e.s.learn now).tokens == e.s.burst

/-- The buckets of those that were met have learned the time. -/
def metS (seen : Array Nat) (now : Int) (e : Ent) : Bk := if seen.contains e.born then e.s.learn now else e.s
def allS (now : Int) (e : Ent) : Bk := e.s.learn now

/-- Who goes, of those that were met: none is full; or it is the full one of the least turn. -/
def Best (seen : Array Nat) (now turns : Int) (es : List Ent) (least : Int) (hi lo : Int) : Prop :=
  (least = turns + 1 ∧ ∀ e ∈ es, seen.contains e.born = true → isFull now e = false) ∨
  ∃ v ∈ es, seen.contains v.born = true ∧ isFull now v = true ∧ v.turn = least ∧ v.a = (hi, lo) ∧ ∀ e ∈ es, seen.contains e.born = true → isFull now e = true → v.turn ≤ e.turn

theorem push_contains (seen : Array Nat) (b c : Nat) : (seen.push b).contains c = (seen.contains c || c == b) := by
  have h : (c == b) = decide (c = b) := by by_cases e : c = b <;> simp [e]
  simp [Bool.or_comm, h]

theorem Best.miss {seen : Array Nat} {now turns : Int} {es : List Ent} {least hi lo : Int} (h : Best seen now turns es least hi lo) {x : Ent} (hx : x ∈ es) (hb : (es.map (·.born)).Nodup)
    (hn : isFull now x = false ∨ least ≤ x.turn) (hle : ∀ e ∈ es, 1 ≤ e.turn ∧ e.turn ≤ turns) : Best (seen.push x.born) now turns es least hi lo := by
  rcases h with ⟨hl, hno⟩ | ⟨v, hv, hvs, hvf, hvt, hva, hmin⟩
  · left
    refine ⟨hl, fun e he hs => ?_⟩
    rw [push_contains, Bool.or_eq_true] at hs
    rcases hs with hs | hs
    · exact hno e he hs
    · obtain rfl := nodup_inj hb he hx (by simpa using hs)
      rcases hn with hn | hn
      · exact hn
      · have := hle e he; omega
  · right
    refine ⟨v, hv, by rw [push_contains, hvs]; rfl, hvf, hvt, hva, fun e he hs hf => ?_⟩
    rw [push_contains, Bool.or_eq_true] at hs
    rcases hs with hs | hs
    · exact hmin e he hs hf
    · obtain rfl := nodup_inj hb he hx (by simpa using hs)
      rcases hn with hn | hn
      · rw [hn] at hf; cases hf
      · omega

theorem Best.hit {seen : Array Nat} {now turns : Int} {es : List Ent} {least hi lo : Int} (h : Best seen now turns es least hi lo) {x : Ent} (hx : x ∈ es) (hb : (es.map (·.born)).Nodup)
    (hf : isFull now x = true) (hlt : x.turn < least) : Best (seen.push x.born) now turns es x.turn x.a.1 x.a.2 := by
  right
  refine ⟨x, hx, by rw [push_contains]; simp, hf, rfl, rfl, fun e he hs hfe => ?_⟩
  rw [push_contains, Bool.or_eq_true] at hs
  rcases hs with hs | hs
  · rcases h with ⟨_, hno⟩ | ⟨v, hv, hvs, hvf, hvt, hva, hmin⟩
    · rw [hno e he hs] at hfe; cases hfe
    · have := hmin e he hs hfe; omega
  · obtain rfl := nodup_inj hb he hx (by simpa using hs); exact Int.le_refl _

theorem left_list (es : Array MapEntry) (seen : Array Nat) : (leftOf es seen).toList = es.toList.filter fun e => !seen.contains e.born := by
  simp [leftOf]

theorem left_none {es : List Ent} {seen : Array Nat} {g : Ent → Bk} (h : (leftOf (((es.map (reS g)).map Ent.kent).map (KEnt.raw addrV)).toArray seen).size = 0) : ∀ e ∈ es, seen.contains e.born = true := by
  intro e he
  have hl : (leftOf (((es.map (reS g)).map Ent.kent).map (KEnt.raw addrV)).toArray seen).toList = [] := by
    rw [← List.length_eq_zero_iff, Array.length_toList]; exact h
  rw [left_list, List.filter_eq_nil_iff] at hl
  have := hl (KEnt.raw addrV (reS g e).kent) (by
    simp only [List.mem_map]
    exact ⟨_, ⟨_, ⟨e, he, rfl⟩, rfl⟩, rfl⟩)
  simpa [KEnt.raw, Ent.kent, reS] using this

theorem left_mem {es : List Ent} {seen : Array Nat} {g : Ent → Bk} {x : MapEntry} (h : x ∈ (leftOf (((es.map (reS g)).map Ent.kent).map (KEnt.raw addrV)).toArray seen).toList) :
    ∃ e ∈ es, x = { key := addrV e.a, val := .pointer (some ⟨e.o, 0, none⟩), born := e.born } ∧ seen.contains e.born = false := by
  rw [left_list, List.mem_filter] at h
  obtain ⟨hm, hs⟩ := h
  simp only [List.mem_map] at hm
  obtain ⟨_, ⟨_, ⟨e, he, rfl⟩, rfl⟩, rfl⟩ := hm
  exact ⟨e, he, rfl, by simpa [KEnt.raw, Ent.kent, reS] using hs⟩

theorem filter_less {α : Type} {p q : α → Bool} : ∀ {l : List α}, (∀ x ∈ l, q x = true → p x = true) → (∃ x ∈ l, p x = true ∧ q x = false) → (l.filter q).length < (l.filter p).length
  | [], _, h => by obtain ⟨x, hx, _⟩ := h; cases hx
  | a :: l, hall, hx => by
    have hle : (l.filter q).length ≤ (l.filter p).length := by
      have : l.filter q = (l.filter p).filter q := by
        rw [List.filter_filter]; exact List.filter_congr fun x hx => by
          cases hq : q x with
          | false => simp
          | true => simp [hall x (List.mem_cons_of_mem _ hx) hq]
      rw [this]; exact List.length_filter_le _ _
    simp only [List.filter_cons]
    cases hp : p a with
    | true =>
      cases hq : q a with
      | true =>
        obtain ⟨x, hx', hxp, hxq⟩ := hx
        rcases List.mem_cons.1 hx' with rfl | hm
        · rw [hq] at hxq; cases hxq
        · have := filter_less (fun y hy => hall y (List.mem_cons_of_mem _ hy)) ⟨x, hm, hxp, hxq⟩
          simp; exact this
      | false => simp; omega
    | false =>
      have hq : q a = false := by
        cases hq : q a with
        | false => rfl
        | true => rw [hall a List.mem_cons_self hq] at hp; cases hp
      obtain ⟨x, hx', hxp, hxq⟩ := hx
      rcases List.mem_cons.1 hx' with rfl | hm
      · rw [hp] at hxp; cases hxp
      · simp only [hq, Bool.false_eq_true, if_false]
        exact filter_less (fun y hy => hall y (List.mem_cons_of_mem _ hy)) ⟨x, hm, hxp, hxq⟩

theorem left_less {es : Array MapEntry} {seen : Array Nat} {x : MapEntry} (h : x ∈ (leftOf es seen).toList) : (leftOf es (seen.push x.born)).size < (leftOf es seen).size := by
  rw [← Array.length_toList, ← Array.length_toList, left_list, left_list]
  rw [left_list, List.mem_filter] at h
  refine filter_less (fun y _ hy => ?_) ⟨x, h.1, h.2, by rw [push_contains]; simp⟩
  rw [push_contains] at hy
  cases hc : seen.contains y.born with
  | false => rfl
  | true => rw [hc] at hy; simp at hy

/-- How many entries the iterator at it has still to hand out of the map at r. -/
def leftAt (it r : Nat) (w : World) : Nat :=
  match w.heap[it]?, w.heap[r]? with
  | some (.mapIter _ _ seen _), some (.map es _) => (leftOf es seen).size
  | _, _ => 0

theorem left_at {w : World} {it r : Nat} {es : List Ent} {g : Ent → Bk} {seen : Array Nat} {a b clock : Nat} (h : w.heap[it]? = some (.mapIter (some r) a seen b)) (hm : MapAt addrV w r ((es.map (reS g)).map Ent.kent) clock) :
    leftAt it r w = (leftOf (((es.map Ent.kent)).map (KEnt.raw addrV)).toArray seen).size := by
  rw [reS_proj (g := g) Ent.kent (fun _ => rfl)] at hm
  unfold MapAt at hm
  simp only [leftAt, h, hm]

theorem met_next {es : List Ent} {seen : Array Nat} {now : Int} {e : Ent} (he : e ∈ es) (hk : (es.map (·.a)).Nodup) (hb : (es.map (·.born)).Nodup) :
    (es.map (reS (metS seen now))).map (reS fun x => if x.a = (reS (metS seen now) e).a then e.s.learn now else x.s) = es.map (reS (metS (seen.push e.born) now)) := by
  rw [List.map_map]
  refine List.map_congr_left fun x hx => ?_
  refine congrArg (fun s => ({ x with s := s } : Ent)) ?_
  show (if (reS (metS seen now) x).a = (reS (metS seen now) e).a then e.s.learn now else (reS (metS seen now) x).s) = metS (seen.push e.born) now x
  by_cases hxa : x.a = e.a
  · obtain rfl := nodup_inj hk hx he hxa
    rw [if_pos rfl]
    simp only [metS, push_contains, BEq.rfl, Bool.or_true, if_true]
  · have hxb : (x.born == e.born) = false := by
      have : x.born ≠ e.born := fun k => hxa (by rw [nodup_inj hb hx he k])
      simpa using this
    have hn : ¬ (reS (metS seen now) x).a = (reS (metS seen now) e).a := hxa
    rw [if_neg hn]
    simp only [reS, metS, push_contains, hxb, Bool.or_false]

def RoomRel (W : World) (mb r it vb : Nat) (rate burst turns : Int) (es : List Ent) (clock : Nat) (now : Int) (leastV : Value) (wr : World) : Prop :=
  ∃ (seen : Array Nat) (least hi lo : Int), leastV = .int .i64 least ∧ wr.heap[it]? = some (.mapIter (some r) clock seen clock) ∧
    MAt wr mb r rate burst turns (es.map (reS (metS seen now))) clock ∧ Blk wr vb 46 #[.int .u64 hi, .int .u64 lo] ∧ Off (Own mb r es) W wr ∧ Best seen now turns es least hi lo

def RoomPost (mb r : Nat) (rate burst turns : Int) (es : List Ent) (clock : Nat) (now : Int) (w : World) (e : Ending) (w' : World) : Prop :=
  Off (Own mb r es) w w' ∧
  ((∃ v ∈ es, isFull now v = true ∧ (∀ x ∈ es, isFull now x = true → v.turn ≤ x.turn) ∧ e = .returned (.bool true) ∧ MAt w' mb r rate burst turns (without v.a (es.map (reS (allS now)))) clock) ∨
   ((∀ x ∈ es, isFull now x = false) ∧ e = .returned (.bool false) ∧ MAt w' mb r rate burst turns (es.map (reS (allS now))) clock))

set_option maxHeartbeats 400000 in
theorem room_few {w : World} {mb r : Nat} {rate burst turns : Int} {es : List Ent} {clock : Nat} (now : Int) (h : MAt w mb r rate burst turns es clock) (hlt : es.length < 32) :
    Calls Try.prog 30 #[.pointer (some ⟨mb, 0, none⟩), .int .i64 now] w fun e w' => e = .returned (.bool true) ∧ w' = w := by
  have c3 : w.cell? ⟨mb, 3, none⟩ = some (.map (some r)) := h.top.cell 3
  have hl : ∀ ty, (Builtin.len_ #[66] ty #[.map (some r)]).run Try.prog w = .ok (.int .i64 es.length) w := fun ty => by
    have := run_length (P := Try.prog) (T := 66) Try.underlying66 h.map ty
    simpa using this
  go_enter Try.func30, Try.ntmps30
  go_wp2
  go_ret
  exact ⟨rfl, rfl⟩

set_option maxHeartbeats 1000000 in
theorem room_full {w : World} {mb r : Nat} {rate burst turns : Int} {es : List Ent} {clock : Nat} (now : Int) (hn : I64 now) (h : MAt w mb r rate burst turns es clock) (hlen : es.length = 32)
    (ht0 : 0 ≤ turns) (ht1 : turns ≤ 1000000) :
    Calls Try.prog 30 #[.pointer (some ⟨mb, 0, none⟩), .int .i64 now] w (RoomPost mb r rate burst turns es clock now w) := by
  have c3 : w.cell? ⟨mb, 3, none⟩ = some (.map (some r)) := h.top.cell 3
  have c2 : w.cell? ⟨mb, 2, none⟩ = some (.int .i64 turns) := h.top.cell 2
  have hl : ∀ ty, (Builtin.len_ #[66] ty #[.map (some r)]).run Try.prog w = .ok (.int .i64 32) w := fun ty => by
    have := run_length (P := Try.prog) (T := 66) Try.underlying66 h.map ty
    simpa [hlen] using this
  have h1 := h.off ((Off.refl (fun _ => False) w).alloc (.cells #[.int .u64 0, .int .u64 0] 46)) (fun _ _ h => h)
  have hoff1 := (Off.refl (fun _ => False) w).alloc (.cells #[.int .u64 0, .int .u64 0] 46)
  have hv1 := Blk.new w 46 #[.int .u64 0, .int .u64 0]
  have d3 : (w.alloc (.cells #[.int .u64 0, .int .u64 0] 46)).cell? ⟨mb, 3, none⟩ = some (.map (some r)) := h1.top.cell 3
  have d2 : (w.alloc (.cells #[.int .u64 0, .int .u64 0] 46)).cell? ⟨mb, 2, none⟩ = some (.int .i64 turns) := h1.top.cell 2
  have hrg := run_range_map (P := Try.prog) _ 66 46 69 r _ clock Try.underlying66 h1.map
  go_enter Try.func30, Try.ntmps30
  go_wp2_with fail
  have hit : ((w.alloc (.cells #[.int .u64 0, .int .u64 0] 46)).alloc (.mapIter (some r) clock #[] clock)).heap[w.heap.size + 1]? = some (.mapIter (some r) clock #[] clock) := by
    have := heap_alloc_new (w.alloc (.cells #[.int .u64 0, .int .u64 0] 46)) (.mapIter (some r) clock #[] clock)
    simpa using this
  have h2 := h1.off ((Off.refl (fun _ => False) _).alloc (.mapIter (some r) clock #[] clock)) (fun _ _ h => h)
  have hv2 := hv1.alloc (.mapIter (some r) clock #[] clock)
  have hoff2 := (hoff1.alloc (.mapIter (some r) clock #[] clock)).mono (S' := Own mb r es) (fun _ _ h => h.elim)
  have hN : ∀ i, Own mb r es i → i < w.heap.size := fun i hi => h.own_lt hi
  clear hoff1 h1 hv1 d3 d2 hrg hl c2 c3
  go_loopw [6] (RoomRel w mb r (w.heap.size + 1) w.heap.size rate burst turns es clock now) (fun _ wr => leftAt (w.heap.size + 1) r wr)
  case atStart =>
    refine ⟨#[], turns + 1, 0, 0, rfl, hit, ?_, hv2, hoff2, .inl ⟨rfl, fun e _ hs => by simp at hs⟩⟩
    rw [reS_id (g := metS #[] now) (fun e _ => by simp [metS])]; exact h2
  case round =>
    clear hit h2 hv2 hoff2
    obtain ⟨seen, least, hi, lo, rfl, hit, hM, hV, hO, hbest⟩ := hrel
    have hold : ∀ x ∈ ((((es.map (reS (metS seen now))).map Ent.kent).map (KEnt.raw addrV)).toArray).toList, x.born < clock := by
      intro x hx
      simp only [List.mem_map] at hx
      obtain ⟨y, ⟨z, hz, rfl⟩, rfl⟩ := hx
      exact hM.bornLt z (by simpa using hz)
    rcases run_next_at (P := Try.prog) wr 0 (w.heap.size + 1) r clock clock seen _ clock hit hM.map hold (Nat.le_refl _) with ⟨h0, hrun⟩ | ⟨x, hx, w1, hw1, hrun⟩
    · have hrun' : ∀ ty, (Instr.next (.pointer (some ⟨w.heap.size + 1, 0, none⟩)) false ty).run Try.prog wr = .ok (.tuple #[.bool false]) wr := fun _ => hrun
      have c2 : wr.cell? ⟨mb, 2, none⟩ = some (.int .i64 turns) := hM.top.cell 2
      have c3 : wr.cell? ⟨mb, 3, none⟩ = some (.map (some r)) := hM.top.cell 3
      have v0 : wr.cell? ⟨w.heap.size, 0, none⟩ = some (.int .u64 hi) := hV.cell 0
      have v1 : wr.cell? ⟨w.heap.size, 1, none⟩ = some (.int .u64 lo) := hV.cell 1
      have hall := left_none h0
      have heq : es.map (reS (metS seen now)) = es.map (reS (allS now)) := List.map_congr_left fun e he => by simp only [reS, metS, allS, hall e he, if_true]
      rw [heq] at hM
      clear hrun h0 hold
      by_cases hle : least ≤ turns
      · have hdel : ∀ ty, (Builtin.delete_ #[66, 46] ty #[.map (some r), .agg #[.int .u64 hi, .int .u64 lo]]).run Try.prog wr.drew = .ok (.tuple #[]) (setBlock wr.drew r (.map ((without (hi, lo) (es.map (reS (allS now)))).map Ent.kent |>.map (KEnt.raw addrV)).toArray clock)) := fun ty => by
          have := run_delete addr_key Try.underlying66 (hM.drew).map (hi, lo) 46 ty
          rw [kdel_kent hM.keys] at this
          exact this
        go_wp2_with fail
        go_region
        go_wp2
        go_ret
        rw [← List.map_map]
        refine ⟨(hO.drew).setBlock _ (fun _ => .inr (.inl rfl)), .inl ?_⟩
        rcases hbest with ⟨hl, _⟩ | ⟨v, hv, _, hvf, _, hva, hmin⟩
        · omega
        · refine ⟨v, hv, hvf, fun x hx hf => hmin x hx (hall x hx) hf, rfl, ?_⟩
          rw [hva]
          exact hM.drew.drop (hi, lo) ((Off.refl _ _).setBlock _ fun _ => rfl) (hM.drew.map.set)
      · go_wp2
        go_ret
        refine ⟨hO, .inr ⟨fun e he => ?_, rfl, hM⟩⟩
        rcases hbest with ⟨_, hno⟩ | ⟨v, hv, _, _, hvt, _, _⟩
        · exact hno e he (hall e he)
        · have := (h.turnLe v hv).2; omega
    · obtain ⟨e, he, rfl, hsn⟩ := left_mem hx
      have hrun' : ∀ ty, (Instr.next (.pointer (some ⟨w.heap.size + 1, 0, none⟩)) false ty).run Try.prog wr = .ok (.tuple #[.bool true, .agg #[.int .u64 e.a.1, .int .u64 e.a.2], .pointer (some ⟨e.o, 0, none⟩)]) (setBlock w1 (w.heap.size + 1) (.mapIter (some r) clock (seen.push e.born) clock)) := fun _ => hrun
      have hless := left_less hx
      have hOw1 : Off (fun _ => False) wr w1 := hw1.elim (fun h => h ▸ Off.refl _ _) (fun h => h ▸ (Off.refl _ _).drew)
      have hitlt : w.heap.size + 1 < wr.heap.size := by
        rcases Nat.lt_or_ge (w.heap.size + 1) wr.heap.size with h' | h'
        · exact h'
        · rw [Array.getElem?_eq_none h'] at hit; cases hit
      have hO2 : Off (· = w.heap.size + 1) wr (setBlock w1 (w.heap.size + 1) (.mapIter (some r) clock (seen.push e.born) clock)) := (hOw1.mono fun _ _ h => h.elim).setBlock _ fun _ => rfl
      have hM2 := hM.off hO2 (fun i hi' k => by have := hN i ((own_reS es i).1 hi'); omega)
      have hit2 : (setBlock w1 (w.heap.size + 1) (.mapIter (some r) clock (seen.push e.born) clock)).heap[w.heap.size + 1]? = some (.mapIter (some r) clock (seen.push e.born) clock) := by
        have : w.heap.size + 1 < w1.heap.size := Nat.lt_of_lt_of_le hitlt hOw1.size
        unfold setBlock; simp [this]
      have hV2 := hO2.blk hV (by omega)
      have hO2' : Off (Own mb r es) w (setBlock w1 (w.heap.size + 1) (.mapIter (some r) clock (seen.push e.born) clock)) := hO.step hO2 (fun i hi' k => by omega)
      have hent : (Instr.entry (.pointer (some ⟨w.heap.size + 1, 0, none⟩))).run Try.prog (setBlock w1 (w.heap.size + 1) (.mapIter (some r) clock (seen.push e.born) clock)) = .ok (.tuple #[.agg #[.int .u64 e.a.1, .int .u64 e.a.2], .pointer (some ⟨e.o, 0, none⟩)]) (setBlock w1 (w.heap.size + 1) (.mapIter (some r) clock (seen.push e.born) clock)) := by
        refine run_entry_at (P := Try.prog) _ (w.heap.size + 1) r clock seen _ clock { key := addrV e.a, val := .pointer (some ⟨e.o, 0, none⟩), born := e.born } hit2 hM2.map ?_ ?_
        · simp only [List.mem_map]
          exact ⟨_, ⟨_, ⟨e, he, rfl⟩, rfl⟩, rfl⟩
        · have := hM2.bornN
          simpa [List.map_map, Function.comp_def, KEnt.raw, Ent.kent, reS] using this
      generalize setBlock w1 (w.heap.size + 1) (.mapIter (some r) clock (seen.push e.born) clock) = w2 at *
      clear hrun hx hw1 hOw1 hO2
      have hO3 : Off (fun _ => False) w2 (w2.alloc (.cells #[.int .u64 e.a.1, .int .u64 e.a.2] 46)) := (Off.refl _ _).alloc _
      have hM3 := hM2.off hO3 (fun _ _ h => h)
      have hB3 := Blk.new w2 46 #[.int .u64 e.a.1, .int .u64 e.a.2]
      have hV3 := hV2.alloc (.cells #[.int .u64 e.a.1, .int .u64 e.a.2] 46)
      have hit3 := (hO3.block (w.heap.size + 1) (by rcases Nat.lt_or_ge (w.heap.size + 1) w2.heap.size with h' | h'; exact h'; rw [Array.getElem?_eq_none h'] at hit2; cases hit2) id).trans hit2
      have hO3' := hO2'.step hO3 (fun _ _ h => h.elim)
      have hem : reS (metS seen now) e ∈ es.map (reS (metS seen now)) := List.mem_map_of_mem he
      have hes : (reS (metS seen now) e).s = e.s := by simp only [reS, metS, hsn]; rfl
      have o0 : (w2.alloc (.cells #[.int .u64 e.a.1, .int .u64 e.a.2] 46)).cell? ⟨e.o, 0, none⟩ = some (.pointer (some ⟨e.bb, 0, none⟩)) := (hM3.one _ hem).cell 0
      have hbk := hM3.bk _ hem
      rw [hes] at hbk
      have hok := hM3.ok _ hem
      rw [hes] at hok
      have hcur : w2.heap.size ≠ w.heap.size := by have := hV2.lt; omega
      have hbb : e.bb < w.heap.size := hN _ (.inr (.inr ⟨e, he, .inr rfl⟩))
      have hit2lt : w.heap.size + 1 < w2.heap.size := by
        rcases Nat.lt_or_ge (w.heap.size + 1) w2.heap.size with h' | h'
        · exact h'
        · rw [Array.getElem?_eq_none h'] at hit2; cases hit2
      have hit3lt : w.heap.size + 1 < (w2.alloc (.cells #[.int .u64 e.a.1, .int .u64 e.a.2] 46)).heap.size := by simp; omega
      have hoo : e.o < w.heap.size := hN _ (.inr (.inr ⟨e, he, .inl rfl⟩))
      have hL0 := left_at hit hM.map
      rw [show (((es.map (reS (metS seen now))).map Ent.kent).map (KEnt.raw addrV)) = ((es.map Ent.kent).map (KEnt.raw addrV)) by rw [reS_proj (g := metS seen now) Ent.kent (fun _ => rfl)]] at hless
      rw [← hL0] at hless
      clear hit hM hV hO hM2 hV2 hO2' hold hit2 hL0
      go_wp2_with fail
      clear hrun' hent o0
      generalize w2.alloc (.cells #[.int .u64 e.a.1, .int .u64 e.a.2] 46) = w3 at *
      generalize w2.heap.size = cb at *
      refine (full_any e.bb e.s now w3 hbk hok hn).mono ?_
      rintro ending w4 ⟨rfl, hB4, hO4⟩
      have hM4 := hM3.setBk hem hB4 (Bk.learn_ok hok hn) hO4
      have hg := met_next (seen := seen) (now := now) he h.keys h.bornN
      rw [hg] at hM4
      have hV4 := hO4.blk hV3 (by omega)
      have hC4 := hO4.blk hB3 (by omega)
      have hit4 := (hO4.block (w.heap.size + 1) hit3lt (by omega)).trans hit3
      have hO4' := hO3'.step hO4 (fun i _ k => .inr (.inr ⟨e, he, .inr k⟩))
      have hem4 : reS (metS (seen.push e.born) now) e ∈ es.map (reS (metS (seen.push e.born) now)) := List.mem_map_of_mem he
      have o1 : w4.cell? ⟨e.o, 1, none⟩ = some (.int .i64 e.turn) := (hM4.one _ hem4).cell 1
      have v0 : w4.cell? ⟨w.heap.size, 0, none⟩ = some (.int .u64 hi) := hV4.cell 0
      have v1 : w4.cell? ⟨w.heap.size, 1, none⟩ = some (.int .u64 lo) := hV4.cell 1
      have fv0 : w4.frozen? ⟨w.heap.size, 0, none⟩ = false := hV4.free 0
      have fv1 : w4.frozen? ⟨w.heap.size, 1, none⟩ = false := hV4.free 1
      have k0 : w4.cell? ⟨cb, 0, none⟩ = some (.int .u64 e.a.1) := hC4.cell 0
      have k1 : w4.cell? ⟨cb, 1, none⟩ = some (.int .u64 e.a.2) := hC4.cell 1
      clear hM3 hB3 hV3 hit3 hO3 hO3' hbk hB4 hO4 hem hes hg
      have hL4 := left_at hit4 hM4.map
      have hfin : leftAt (w.heap.size + 1) r w4 < leftAt (w.heap.size + 1) r wr := by rw [hL4]; exact hless
      have hoffi : Off (Own mb r es) w w4 := hO4'
      clear hless hL4
      cases hf : (e.s.learn now).tokens == e.s.burst with
      | false =>
        go_wp2
        exact ⟨⟨_, _, _, _, rfl, hit4, hM4, hV4, hO4', hbest.miss he h.bornN (.inl hf) h.turnLe⟩, hfin⟩
      | true =>
        by_cases hlt : e.turn < least
        · go_wp2_with fail
          go_region
          go_wp2
          have hM5 := hM4.off (S := fun i => i = w.heap.size) (w' := ((w4.setCell ⟨w.heap.size, 0, none⟩ (.int .u64 e.a.1)).setCell ⟨w.heap.size, 1, none⟩ (.int .u64 e.a.2)).drew) (((Off.refl _ _).setAt _ _).setAt _ _).drew (fun i hi' k => by have := hN i ((own_reS es i).1 hi'); omega)
          have hOv : Off (· = w.heap.size) w4 ((w4.setCell ⟨w.heap.size, 0, none⟩ (.int .u64 e.a.1)).setCell ⟨w.heap.size, 1, none⟩ (.int .u64 e.a.2)).drew := (((Off.refl _ _).setAt _ _).setAt _ _).drew
          have hit5 := (hOv.block (w.heap.size + 1) (by rcases Nat.lt_or_ge (w.heap.size + 1) w4.heap.size with h' | h'; exact h'; rw [Array.getElem?_eq_none h'] at hit4; cases hit4) (by omega)).trans hit4
          refine ⟨⟨_, _, _, _, rfl, hit5, hM5, ((hV4.setCell 0 _).setCell 1 _).drew, hO4'.step hOv (fun i hi' k => by omega), hbest.hit he h.bornN hf hlt⟩, ?_⟩
          rw [left_at hit5 hM5.map, ← left_at hit4 hM4.map]; exact hfin
        · go_wp2
          exact ⟨⟨_, _, _, _, rfl, hit4, hM4, hV4, hO4', hbest.miss he h.bornN (.inr (by omega)) h.turnLe⟩, hfin⟩
end Go.Proofs.Ytepibimlmfhceaa
