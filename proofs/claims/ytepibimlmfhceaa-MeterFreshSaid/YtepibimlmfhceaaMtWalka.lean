/- The walks over meter.New, Len, Has, Tokens. Conditions: the meters lie whole in memory. -/
import Derived.Test.YtepibimlmfhceaaMt
import Derived.Deep.RegionHeld3
namespace Go.Proofs.Ytepibimlmfhceaa
open Go.RowKit
open Go.ChangeMaps (setBlock)

def MNew (rate burst : Int) (w : World) (e : Ending) (w' : World) : Prop :=
  ∃ mb r, e = .returned (.pointer (some ⟨mb, 0, none⟩)) ∧ w.heap.size ≤ mb ∧ w.heap.size ≤ r ∧ MAt w' mb r rate burst 0 [] 0 ∧ Off (fun _ => False) w w'

set_option maxHeartbeats 400000 in
theorem mnew_any (rate burst : Int) (w : World) : Calls Try.prog 20 #[.int .i64 rate, .int .i64 burst] w (MNew rate burst w) := by
  have hmm := @run_makeMap Try.prog
  go_enter Try.func20, Try.ntmps20
  go_wp2
  go_ret
  refine ⟨w.heap.size + 1, w.heap.size, rfl, by omega, Nat.le_refl _, ⟨?_, ?_, ?_, ?_, ?_, ?_, ?_, ?_, ?_, ?_, ?_, ?_⟩, ((Off.refl _ _).alloc _).alloc _⟩
  · simpa using Blk.new (w.alloc (.map #[] 0)) 68 #[.int .i64 rate, .int .i64 burst, .int .i64 0, .map (some w.heap.size)]
  · exact MapAt.alloc (show MapAt addrV (w.alloc (.map #[] 0)) w.heap.size [] 0 from heap_alloc_new _ _) _
  all_goals simp

set_option maxHeartbeats 400000 in
theorem mlen_any {w : World} {mb r : Nat} {rate burst turns : Int} {es : List Ent} {clock : Nat} (h : MAt w mb r rate burst turns es clock) :
    Calls Try.prog 23 #[.pointer (some ⟨mb, 0, none⟩)] w fun e w' => e = .returned (.int .i64 es.length) ∧ w' = w := by
  have c3 : w.cell? ⟨mb, 3, none⟩ = some (.map (some r)) := h.top.cell 3
  have hl : ∀ ty, (Builtin.len_ #[66] ty #[.map (some r)]).run Try.prog w = .ok (.int .i64 es.length) w := fun ty => by
    have := run_length (P := Try.prog) (T := 66) Try.underlying66 h.map ty
    simpa using this
  go_enter Try.func23, Try.ntmps23
  go_wp2
  go_ret
  exact ⟨rfl, rfl⟩

set_option maxHeartbeats 400000 in
theorem mhas_any {w : World} {mb r : Nat} {rate burst turns : Int} {es : List Ent} {clock : Nat} (hi lo : Int) (h : MAt w mb r rate burst turns es clock) :
    Calls Try.prog 22 #[.pointer (some ⟨mb, 0, none⟩), .agg #[.int .u64 hi, .int .u64 lo]] w fun e w' =>
      e = .returned (.bool (klook (hi, lo) (es.map Ent.kent)).isSome) ∧ Off (fun _ => False) w w' := by
  have h1 := h.off ((Off.refl (fun _ => False) w).alloc (.cells #[.int .u64 hi, .int .u64 lo] 46)) (fun _ _ h => h)
  have c3 : (w.alloc (.cells #[.int .u64 hi, .int .u64 lo] 46)).cell? ⟨mb, 3, none⟩ = some (.map (some r)) := h1.top.cell 3
  have b0 : (w.alloc (.cells #[.int .u64 hi, .int .u64 lo] 46)).cell? ⟨w.heap.size, 0, none⟩ = some (.int .u64 hi) := (Blk.new w 46 #[.int .u64 hi, .int .u64 lo]).cell 0
  have b1 : (w.alloc (.cells #[.int .u64 hi, .int .u64 lo] 46)).cell? ⟨w.heap.size, 1, none⟩ = some (.int .u64 lo) := (Blk.new w 46 #[.int .u64 hi, .int .u64 lo]).cell 1
  have hk : ∀ n, (Instr.lookup 66 (.map (some r)) (.agg #[.int .u64 hi, .int .u64 lo]) true).run Try.prog ((w.alloc (.cells #[.int .u64 hi, .int .u64 lo] 46)).drewN n) = .ok (.tuple #[(klook (hi, lo) (es.map Ent.kent)).getD (.pointer none), .bool (klook (hi, lo) (es.map Ent.kent)).isSome]) ((w.alloc (.cells #[.int .u64 hi, .int .u64 lo] 46)).drewN n) :=
    fun n => mt_lookup (h1.off ((Off.refl (fun _ => False) _).drewN n) (fun _ _ h => h)) hi lo
  have hoff := (Off.refl (fun _ => False) w).alloc (.cells #[.int .u64 hi, .int .u64 lo] 46)
  go_enter Try.func22, Try.ntmps22
  go_wp2
  go_quiet (fail)
  go_wp2
  go_ret
  exact ⟨rfl, hoff.drewN _⟩
/-- Tokens of a source that has a bucket. -/
def MTok (mb r : Nat) (rate burst turns : Int) (es : List Ent) (clock : Nat) (v : Int) (w : World) (e : Ending) (w' : World) : Prop :=
  e = .returned (.int .i64 v) ∧ MAt w' mb r rate burst turns es clock ∧ Off (Own mb r es) w w'

set_option maxHeartbeats 400000 in
theorem mtok_some {w : World} {mb r : Nat} {rate burst turns : Int} {es : List Ent} {clock : Nat} (hi lo now : Int) (h : MAt w mb r rate burst turns es clock) (hn : I64 now)
    {x : Ent} (hx : x ∈ es) (ha : x.a = (hi, lo)) :
    Calls Try.prog 24 #[.pointer (some ⟨mb, 0, none⟩), .agg #[.int .u64 hi, .int .u64 lo], .int .i64 now] w
      (MTok mb r rate burst turns (es.map (reS fun e => if e.a = (hi, lo) then x.s.learn now else e.s)) clock (x.s.learn now).tokens w) := by
  have h1 := h.off ((Off.refl (fun _ => False) w).alloc (.cells #[.int .u64 hi, .int .u64 lo] 46)) (fun _ _ h => h)
  have c3 : (w.alloc (.cells #[.int .u64 hi, .int .u64 lo] 46)).cell? ⟨mb, 3, none⟩ = some (.map (some r)) := h1.top.cell 3
  have b0 : (w.alloc (.cells #[.int .u64 hi, .int .u64 lo] 46)).cell? ⟨w.heap.size, 0, none⟩ = some (.int .u64 hi) := (Blk.new w 46 #[.int .u64 hi, .int .u64 lo]).cell 0
  have b1 : (w.alloc (.cells #[.int .u64 hi, .int .u64 lo] 46)).cell? ⟨w.heap.size, 1, none⟩ = some (.int .u64 lo) := (Blk.new w 46 #[.int .u64 hi, .int .u64 lo]).cell 1
  have hlook := MAt.look_some h.keys hx
  rw [ha] at hlook
  have hk : ∀ n, (Instr.lookup 66 (.map (some r)) (.agg #[.int .u64 hi, .int .u64 lo]) true).run Try.prog ((w.alloc (.cells #[.int .u64 hi, .int .u64 lo] 46)).drewN n) = .ok (.tuple #[.pointer (some ⟨x.o, 0, none⟩), .bool true]) ((w.alloc (.cells #[.int .u64 hi, .int .u64 lo] 46)).drewN n) :=
    fun n => by
      have := mt_lookup (h1.off ((Off.refl (fun _ => False) _).drewN n) (fun _ _ h => h)) hi lo
      rw [hlook] at this; exact this
  have o0 : (w.alloc (.cells #[.int .u64 hi, .int .u64 lo] 46)).cell? ⟨x.o, 0, none⟩ = some (.pointer (some ⟨x.bb, 0, none⟩)) := (h1.one x hx).cell 0
  have hoff := (Off.refl (fun _ => False) w).alloc (.cells #[.int .u64 hi, .int .u64 lo] 46)
  have hL := Lib.hid hlook
  clear hlook
  go_enter Try.func24, Try.ntmps24
  go_wp2
  go_quiet (fail)
  go_wp2_with fail
  have h2 := h1.off ((Off.refl (fun _ => False) _).drewN nq) (fun _ _ h => h)
  refine (tokens_any x.bb x.s now _ (h2.bk x hx) (h2.ok x hx) hn).mono ?_
  rintro e w1 ⟨rfl, hB, hO⟩
  have h3 := h2.setBk hx hB (Bk.learn_ok (h.ok x hx) hn) hO
  rw [ha] at h3
  have hO3 : Off (Own mb r es) w w1 := (hoff.drewN nq).mono (fun _ _ h => h.elim) |>.step hO (fun i _ e => .inr (.inr ⟨x, hx, .inr e⟩))
  go_wp2
  go_ret
  exact ⟨rfl, h3, hO3.mono fun i _ k => (own_reS es i).2 k⟩

set_option maxHeartbeats 400000 in
theorem mtok_none {w : World} {mb r : Nat} {rate burst turns : Int} {es : List Ent} {clock : Nat} (hi lo now : Int) (h : MAt w mb r rate burst turns es clock)
    (hx : ∀ e ∈ es, e.a ≠ (hi, lo)) :
    Calls Try.prog 24 #[.pointer (some ⟨mb, 0, none⟩), .agg #[.int .u64 hi, .int .u64 lo], .int .i64 now] w
      (MTok mb r rate burst turns es clock 0 w) := by
  have h1 := h.off ((Off.refl (fun _ => False) w).alloc (.cells #[.int .u64 hi, .int .u64 lo] 46)) (fun _ _ h => h)
  have c3 : (w.alloc (.cells #[.int .u64 hi, .int .u64 lo] 46)).cell? ⟨mb, 3, none⟩ = some (.map (some r)) := h1.top.cell 3
  have b0 : (w.alloc (.cells #[.int .u64 hi, .int .u64 lo] 46)).cell? ⟨w.heap.size, 0, none⟩ = some (.int .u64 hi) := (Blk.new w 46 #[.int .u64 hi, .int .u64 lo]).cell 0
  have b1 : (w.alloc (.cells #[.int .u64 hi, .int .u64 lo] 46)).cell? ⟨w.heap.size, 1, none⟩ = some (.int .u64 lo) := (Blk.new w 46 #[.int .u64 hi, .int .u64 lo]).cell 1
  have hk : ∀ n, (Instr.lookup 66 (.map (some r)) (.agg #[.int .u64 hi, .int .u64 lo]) true).run Try.prog ((w.alloc (.cells #[.int .u64 hi, .int .u64 lo] 46)).drewN n) = .ok (.tuple #[.pointer none, .bool false]) ((w.alloc (.cells #[.int .u64 hi, .int .u64 lo] 46)).drewN n) :=
    fun n => by
      have := mt_lookup (h1.off ((Off.refl (fun _ => False) _).drewN n) (fun _ _ h => h)) hi lo
      rw [MAt.look_none hx] at this; exact this
  have hoff := (Off.refl (fun _ => False) w).alloc (.cells #[.int .u64 hi, .int .u64 lo] 46)
  go_enter Try.func24, Try.ntmps24
  go_wp2
  go_quiet (fail)
  go_wp2
  go_ret
  have hd := hoff.drewN nq
  exact ⟨rfl, h.off hd (fun _ _ h => h), hd.mono fun _ _ h => h.elim⟩

end Go.Proofs.Ytepibimlmfhceaa
