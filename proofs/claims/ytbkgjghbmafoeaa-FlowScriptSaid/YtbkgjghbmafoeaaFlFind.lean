/- The walks over a table's Find and Get. Conditions: the table lies whole in memory. -/
import Derived.Test.YtbkgjghbmafoeaaFlTaken
import Derived.Test.YtbkgjghbmafoeaaMSmall
import Derived.StillTailTactics
import Derived.Deep.DeepCutAuto
namespace Go.Proofs.Ytbkgjghbmafoeaa
open Go.RowKit
open Go.ChangeMaps (setBlock)

/-- A flow, written out. -/
abbrev flW (f : Fl) : Value := .agg #[.int .i64 f.id, .int .i64 f.opn.1, .int .u64 f.opn.2.1, .int .u64 f.opn.2.2.1, .int .u64 f.opn.2.2.2.1, .int .u64 f.opn.2.2.2.2.1, .int .i64 f.opn.2.2.2.2.2.1, .int .i64 f.opn.2.2.2.2.2.2, .int .i64 f.bck.1, .int .u64 f.bck.2.1, .int .u64 f.bck.2.2.1, .int .u64 f.bck.2.2.2.1, .int .u64 f.bck.2.2.2.2.1, .int .i64 f.bck.2.2.2.2.2.1, .int .i64 f.bck.2.2.2.2.2.2, .int .i64 f.inn, .int .i64 f.out, .int .i64 f.rule, .int .i64 f.state, .int .i64 f.ends]
theorem flW_eq (f : Fl) : flW f = flV f := rfl
def fl0 : Fl := ⟨0, (0, 0, 0, 0, 0, 0, 0), (0, 0, 0, 0, 0, 0, 0), 0, 0, 0, 0, 0⟩

theorem flc {w : World} {b o : Nat} {f : Fl} (h : w.rangeAt b o (flL f)) :
    w.cell? ⟨b, o, none⟩ = some (.int .i64 f.id) ∧ w.cell? ⟨b, o + 1, none⟩ = some (.int .i64 f.opn.1) ∧ w.cell? ⟨b, o + 2, none⟩ = some (.int .u64 f.opn.2.1) ∧ w.cell? ⟨b, o + 3, none⟩ = some (.int .u64 f.opn.2.2.1) ∧ w.cell? ⟨b, o + 4, none⟩ = some (.int .u64 f.opn.2.2.2.1) ∧ w.cell? ⟨b, o + 5, none⟩ = some (.int .u64 f.opn.2.2.2.2.1) ∧ w.cell? ⟨b, o + 6, none⟩ = some (.int .i64 f.opn.2.2.2.2.2.1) ∧ w.cell? ⟨b, o + 7, none⟩ = some (.int .i64 f.opn.2.2.2.2.2.2) ∧ w.cell? ⟨b, o + 8, none⟩ = some (.int .i64 f.bck.1) ∧ w.cell? ⟨b, o + 9, none⟩ = some (.int .u64 f.bck.2.1) ∧ w.cell? ⟨b, o + 10, none⟩ = some (.int .u64 f.bck.2.2.1) ∧ w.cell? ⟨b, o + 11, none⟩ = some (.int .u64 f.bck.2.2.2.1) ∧ w.cell? ⟨b, o + 12, none⟩ = some (.int .u64 f.bck.2.2.2.2.1) ∧ w.cell? ⟨b, o + 13, none⟩ = some (.int .i64 f.bck.2.2.2.2.2.1) ∧ w.cell? ⟨b, o + 14, none⟩ = some (.int .i64 f.bck.2.2.2.2.2.2) ∧ w.cell? ⟨b, o + 15, none⟩ = some (.int .i64 f.inn) ∧ w.cell? ⟨b, o + 16, none⟩ = some (.int .i64 f.out) ∧ w.cell? ⟨b, o + 17, none⟩ = some (.int .i64 f.rule) ∧ w.cell? ⟨b, o + 18, none⟩ = some (.int .i64 f.state) ∧ w.cell? ⟨b, o + 19, none⟩ = some (.int .i64 f.ends) :=
  ⟨h 0 _ rfl, h 1 _ rfl, h 2 _ rfl, h 3 _ rfl, h 4 _ rfl, h 5 _ rfl, h 6 _ rfl, h 7 _ rfl, h 8 _ rfl, h 9 _ rfl, h 10 _ rfl, h 11 _ rfl, h 12 _ rfl, h 13 _ rfl, h 14 _ rfl, h 15 _ rfl, h 16 _ rfl, h 17 _ rfl, h 18 _ rfl, h 19 _ rfl⟩

theorem load_flVar {w : World} {b o : Nat} {f : Fl} (h : w.rangeAt b o (flL f)) : (loadVar 38 ⟨b, o, none⟩).run Try.prog w = .ok (flV f) w :=
  run_loadVar_mid w b o 38 (flL f) _ h (show Try.prog.underlying 38 = some (.struct (Try.prog.fieldsOf 38)) by kernel_rfl) rfl (by kernel_rfl)

/-- A flow that lies in memory, handed back beside two plain results. -/
theorem res_fl3 {fn : Func} {t u v : Tmp} {f : Fl} {x y : Value} {b : Nat} (h : fn.results = #[.cell t 38, .tmp u, .tmp v]) (tmps : Array Value) (w : World) (ht : tmps.getD t undef = .pointer (some ⟨b, 0, none⟩)) (hr : w.rangeAt b 0 (flL f))
    (hu : tmps.getD u undef = x) (hv : tmps.getD v undef = y) : (results fn tmps).run Try.prog w = .ok (.tuple #[flV f, x, y]) w := by
  have ht' : tmps[t]?.getD undef = .pointer (some ⟨b, 0, none⟩) := by simpa using ht
  have hu' : tmps[u]?.getD undef = x := by simpa using hu
  have hv' : tmps[v]?.getD undef = y := by simpa using hv
  simp [results, h, ht', hu', hv', asAddr, load_flVar hr]

theorem res_fl2 {fn : Func} {t u : Tmp} {f : Fl} {x : Value} {b : Nat} (h : fn.results = #[.cell t 38, .tmp u]) (tmps : Array Value) (w : World) (ht : tmps.getD t undef = .pointer (some ⟨b, 0, none⟩)) (hr : w.rangeAt b 0 (flL f))
    (hu : tmps.getD u undef = x) : (results fn tmps).run Try.prog w = .ok (.tuple #[flV f, x]) w := by
  have ht' : tmps[t]?.getD undef = .pointer (some ⟨b, 0, none⟩) := by simpa using ht
  have hu' : tmps[u]?.getD undef = x := by simpa using hu
  simp [results, h, ht', hu', asAddr, load_flVar hr]

theorem Try.results35' : Try.f35.results = #[.cell 4 38, .tmp 5, .tmp 6] := by kernel_rfl
theorem Try.results36' : Try.f36.results = #[.cell 4 38, .tmp 5] := by kernel_rfl

theorem new_cell {w1 : World} {N j : Nat} {v : Value} {f : Fl} {o : Obj} (hsz : w1.heap.size = N) (hj : (flL f)[j]? = some v) : (((w1.alloc (.cells (flL f).toArray 38)).alloc o).drew).cell? ⟨N, 0 + j, none⟩ = some v := by
  subst hsz
  have := ((Blk.new w1 38 (flL f).toArray).alloc o).drew.cell (0 + j)
  rw [this]; simpa using hj

theorem exec_load_fl {a : Act} {op : Oper} {w : World} {x : Operand} {b o : Nat} {f : Fl} (ho : op.op = .load 38 x) (hx : a.eval x = .pointer (some ⟨b, o, none⟩)) (h : w.rangeAt b o (flL f)) :
    (execOp a.eval op).run Try.prog w = .ok (.value (flV f)) w := by
  unfold execOp
  simp only [ho, hx, Instr.loadAt, Instr.sureAddr, Sem.run_bind, Sem.run_pure, Result.andThen_ok, load_flVar h]

theorem flL_one (f : Fl) : (flL f).toArray.all (·.oneCell') = true := by simp [flL, Value.oneCell']

/-- What Find answers. -/
def findV (x : Option (Fl × Bool)) : Value := match x with
  | none => .tuple #[flV fl0, .bool false, .bool false]
  | some (f, b) => .tuple #[flV f, .bool b, .bool true]

def FFind (x : Option (Fl × Bool)) (w : World) (e : Ending) (w' : World) : Prop := e = .returned (findV x) ∧ Off (fun _ => False) w w'

set_option maxRecDepth 100000 in
set_option maxHeartbeats 4000000 in
theorem find_none {w : World} {tb wb r : Nat} {p : Nat → Option Nat} {kes : List (KEnt FKey)} {clock : Nat} {L : List Fl} (H : TB w tb wb r p kes clock L) (k : FKey) (hn : fnd L k = none) :
    Calls Try.prog 35 #[.pointer (some ⟨tb, 0, none⟩), keyV k] w (FFind none w) := by
  have hO1 : Off (fun _ => False) w (w.alloc (.cells (keyL k).toArray 36)) := (Off.refl _ _).alloc _
  have hB1 := Blk.new w 36 (keyL k).toArray
  have hc0 : ∀ w', Off (fun _ => False) (w.alloc (.cells (keyL k).toArray 36)) w' → w'.cell? ⟨tb, 50, none⟩ = some (.map (some r)) := fun w' h => ((hO1.step h fun _ _ k => k).blk H.top id).cell 50
  have hk := fun w' (h : Off (fun _ => False) (w.alloc (.cells (keyL k).toArray 36)) w') => keyc (range_blk (h.blk hB1 id) 0 (keyL k) (fun j v hj => by simpa using hj))
  have k0 := fun w' h => (hk w' h).1
  have k1 := fun w' h => (hk w' h).2.1
  have k2 := fun w' h => (hk w' h).2.2.1
  have k3 := fun w' h => (hk w' h).2.2.2.1
  have k4 := fun w' h => (hk w' h).2.2.2.2.1
  have k5 := fun w' h => (hk w' h).2.2.2.2.2.1
  have k6 := fun w' h => (hk w' h).2.2.2.2.2.2
  clear hk
  have hlk := fun w' (h : Off (fun _ => False) (w.alloc (.cells (keyL k).toArray 36)) w') => tb_lookup H k (hO1.step h fun _ _ k => k)
  rw [show tkn L k = false by simp [tkn, hn], hn] at hlk
  simp only [Option.map_none, Option.getD_none, ← keyW_eq] at hlk
  clear H hB1 hn
  have HO := Lib.hid hO1
  go_enter Try.func35, Try.ntmps35
  go_wp2_with fail
  clear hO1
  have hsz : (w.alloc (.cells (keyL k).toArray 36)).heap.size = w.heap.size + 1 := by simp
  generalize w.alloc (.cells (keyL k).toArray 36) = w1 at *
  generalize hN : w.heap.size = N at *
  have HN := Lib.hid hN
  clear hN
  go_region_held3 (fun w' => Off (fun _ => False) w1 w') (first | (repeat (first | exact Off.refl _ _ | assumption | apply Off.drew | apply Off.alloc | (refine Off.setCell ?_ _ (fun h => absurd h (by simp [hsz])))))) (first | fail)
  all_goals
    have hb38 := ((Blk.new w1 38 (flL fl0).toArray).alloc (.cells #[.int .i64 0, .bool false] 78)).drew
    have hX : Off (fun _ => False) w1 (((w1.alloc (.cells (flL fl0).toArray 38)).alloc (.cells #[.int .i64 0, .bool false] 78)).drew) := (((Off.refl _ _).alloc _).alloc _).drew
    rw [hsz] at hb38
    go_wp2_with (first | (refine wpList_store_blk rfl 38 (.tmp 4) (.tmp 20) rfl (N + 1) 38 (flL fl0).toArray (flL fl0).toArray hb38 rfl rfl (by kernel_rfl) rfl (by kernel_rfl) ?_; intro w3 hO3 hb3; clear hb38))
    refine bodyPost_ret (res_fl3 (f := fl0) Try.results35' _ _ rfl (range_blk hb3 0 _ (fun j v hj => by simpa using hj)) rfl rfl) rfl ⟨rfl, ?_⟩
    exact (HO.out.step hX (fun _ _ k => k)).step hO3 (fun i hi e => by have := HN.out; omega)
set_option maxRecDepth 100000 in
set_option maxHeartbeats 4000000 in
theorem find_some {w : World} {tb wb r : Nat} {p : Nat → Option Nat} {kes : List (KEnt FKey)} {clock : Nat} {L : List Fl} (H : TB w tb wb r p kes clock L) (k : FKey) (f : Fl) (b : Bool) (hn : fnd L k = some (f, b)) :
    Calls Try.prog 35 #[.pointer (some ⟨tb, 0, none⟩), keyV k] w (FFind (some (f, b)) w) := by
  have hO1 : Off (fun _ => False) w (w.alloc (.cells (keyL k).toArray 36)) := (Off.refl _ _).alloc _
  have hB1 := Blk.new w 36 (keyL k).toArray
  have hc0 : ∀ w', Off (fun _ => False) (w.alloc (.cells (keyL k).toArray 36)) w' → w'.cell? ⟨tb, 50, none⟩ = some (.map (some r)) := fun w' h => ((hO1.step h fun _ _ k => k).blk H.top id).cell 50
  have hk := fun w' (h : Off (fun _ => False) (w.alloc (.cells (keyL k).toArray 36)) w') => keyc (range_blk (h.blk hB1 id) 0 (keyL k) (fun j v hj => by simpa using hj))
  have k0 := fun w' h => (hk w' h).1
  have k1 := fun w' h => (hk w' h).2.1
  have k2 := fun w' h => (hk w' h).2.2.1
  have k3 := fun w' h => (hk w' h).2.2.2.1
  have k4 := fun w' h => (hk w' h).2.2.2.2.1
  have k5 := fun w' h => (hk w' h).2.2.2.2.2.1
  have k6 := fun w' h => (hk w' h).2.2.2.2.2.2
  clear hk
  have hlk := fun w' (h : Off (fun _ => False) (w.alloc (.cells (keyL k).toArray 36)) w') => tb_lookup H k (hO1.step h fun _ _ k => k)
  rw [show tkn L k = true by simp [tkn, hn], hn] at hlk
  simp only [Option.map_some, Option.getD_some, ← keyW_eq] at hlk
  have hf := (fnd_some hn).1
  obtain ⟨o, ho, hfb⟩ := H.one f hf
  have hrng := H.ok.rng f hf
  obtain ⟨i, hi⟩ : ∃ i : Nat, f.id = i := ⟨f.id.toNat, by omega⟩
  rw [hi, Int.toNat_natCast] at ho
  have hi1 : 1 ≤ i := by omega
  have hi2 : i < 49 := by omega
  have hcp : w.cell? ⟨tb, 1 + i, none⟩ = some (.pointer (some ⟨o, 0, none⟩)) := by
    rw [H.top.cell, List.getElem?_toArray, tblL_flow wb p r L.length hi2, ho]; rfl
  have htl := H.top.lt
  have hol := hfb.lt
  rw [hi] at hlk
  clear H hB1 hn hi hrng ho
  have HO := Lib.hid hO1
  go_enter Try.func35, Try.ntmps35
  go_wp2_with fail
  clear hO1
  have hsz : (w.alloc (.cells (keyL k).toArray 36)).heap.size = w.heap.size + 1 := by simp
  generalize w.alloc (.cells (keyL k).toArray 36) = w1 at *
  generalize hN : w.heap.size = N at *
  have HN := Lib.hid hN
  clear hN
  go_region_held3 (fun w' => Off (fun _ => False) w1 w') (first | (repeat (first | exact Off.refl _ _ | assumption | apply Off.drew | apply Off.alloc | (refine Off.setCell ?_ _ (fun h => absurd h (by simp [hsz])))))) (first | fail)
  all_goals
    have hb38 := ((Blk.new w1 38 (flL fl0).toArray).alloc (.cells #[.int .i64 i, .bool b] 78)).drew
    have hs78 := (Blk.new (w1.alloc (.cells (flL fl0).toArray 38)) 78 #[.int .i64 i, .bool b]).drew
    have hX : Off (fun _ => False) w1 (((w1.alloc (.cells (flL fl0).toArray 38)).alloc (.cells #[.int .i64 i, .bool b] 78)).drew) := (((Off.refl _ _).alloc _).alloc _).drew
    rw [hsz] at hb38
    rw [show (w1.alloc (.cells (flL fl0).toArray 38)).heap.size = N + 1 + 1 by simp [hsz]] at hs78
    go_upto_region 4 with fail
    change Code.wp _ _ _ _ (((w1.alloc (.cells (flL fl0).toArray 38)).alloc (.cells #[.int .i64 i, .bool b] 78)).drew)
    clear hc0 hlk k0 k1 k2 k3 k4 k5 k6
    generalize (((w1.alloc (.cells (flL fl0).toArray 38)).alloc (.cells #[.int .i64 i, .bool b] 78)).drew) = w2 at *
    have hO2 := HO.out.step hX (fun _ _ k => k)
    have s0 : ∀ w', Off (· = N + 1) w2 w' → w'.cell? ⟨N + 1 + 1, 0, none⟩ = some (.int .i64 i) := fun w' h => (h.blk hs78 (by omega)).cell 0
    have s1 : ∀ w', Off (· = N + 1) w2 w' → w'.cell? ⟨N + 1 + 1, 1, none⟩ = some (.bool b) := fun w' h => (h.blk hs78 (by omega)).cell 1
    have hwN := HN.out
    have sp : ∀ w', Off (· = N + 1) w2 w' → w'.cell? ⟨tb, 1 + i, none⟩ = some (.pointer (some ⟨o, 0, none⟩)) := fun w' h => (h.cell (p := ⟨tb, 1 + i, none⟩) (by have := hO2.size; show tb < _; omega) (by show ¬ tb = _; omega)).trans ((hO2.cell (p := ⟨tb, 1 + i, none⟩) (by show tb < _; omega) id).trans hcp)
    have q1 : (0 : Int) ≤ (i : Int) := by omega
    have q2 : (i : Int) < 49 := by omega
    have hfl : ∀ w', Off (· = N + 1) w2 w' → w'.rangeAt o 0 (flL f) := fun w' h => range_blk (h.blk (hO2.blk hfb id) (by show ¬ o = _; omega)) 0 (flL f) (fun j v hj => by simpa using hj)
    have HF := Lib.hid hfl
    clear hwN hfl
    refine wp_region_held_drew (S := fun w' => Off (· = N + 1) w2 w') (by kernel_rfl) ((Off.refl _ _).drew) (fun hS => ?_)
    refine wpAnyH_take (i := 0) (oi := _) (v := ?_) rfl (by kernel_rfl) (by kernel_rfl) (by kernel_rfl) (fun _ _ _ h => h) (Or.inl ⟨by rfl, fun w' hSw => ?_⟩) hS ?_
    rotate_left 1
    · go_simp
      try with_reducible rfl
    try simp only [Act.put, List.getElem_toArray, List.getElem_cons_zero, List.getElem_cons_succ, List.setIfInBounds_toArray, List.set_cons_zero, List.set_cons_succ]
    refine wpAnyH_take (i := 1) (oi := _) (v := ?_) rfl (by kernel_rfl) (by kernel_rfl) (by kernel_rfl) (fun _ _ _ h => h) (Or.inl ⟨by rfl, fun w' hSw => ?_⟩) hS ?_
    rotate_left 1
    · go_simp
      try with_reducible rfl
    try simp only [Act.put, List.getElem_toArray, List.getElem_cons_zero, List.getElem_cons_succ, List.setIfInBounds_toArray, List.set_cons_zero, List.set_cons_succ]
    refine wpAnyH_take (i := 2) (oi := _) (v := ?_) rfl (by kernel_rfl) (by kernel_rfl) (by kernel_rfl) (fun _ _ _ h => h) (Or.inl ⟨by rfl, fun w' hSw => ?_⟩) hS ?_
    rotate_left 1
    · go_simp
      try with_reducible rfl
    try simp only [Act.put, List.getElem_toArray, List.getElem_cons_zero, List.getElem_cons_succ, List.setIfInBounds_toArray, List.set_cons_zero, List.set_cons_succ]
    refine wpAnyH_take (i := 3) (oi := _) (v := ?_) rfl (by kernel_rfl) (by kernel_rfl) (by kernel_rfl) (fun _ _ _ h => h) (Or.inl ⟨by rfl, fun w' hSw => ?_⟩) hS ?_
    rotate_left 1
    · go_simp
      try with_reducible rfl
    try simp only [Act.put, List.getElem_toArray, List.getElem_cons_zero, List.getElem_cons_succ, List.setIfInBounds_toArray, List.set_cons_zero, List.set_cons_succ]
    refine wpAnyH_take (i := 4) (oi := _) (v := ?_) rfl (by kernel_rfl) (by kernel_rfl) (by kernel_rfl) (fun _ _ _ h => h) (Or.inl ⟨by rfl, fun w' hSw => ?_⟩) hS ?_
    rotate_left 1
    · go_simp
      try with_reducible rfl
    try simp only [Act.put, List.getElem_toArray, List.getElem_cons_zero, List.getElem_cons_succ, List.setIfInBounds_toArray, List.set_cons_zero, List.set_cons_succ]
    refine wpAnyH_take (i := 5) (oi := _) (v := ?_) rfl (by kernel_rfl) (by kernel_rfl) (by kernel_rfl) (fun _ _ _ h => h) (Or.inl ⟨by rfl, fun w' hSw => ?_⟩) hS ?_
    rotate_left 1
    · go_simp
      try with_reducible rfl
    try simp only [Act.put, List.getElem_toArray, List.getElem_cons_zero, List.getElem_cons_succ, List.setIfInBounds_toArray, List.set_cons_zero, List.set_cons_succ]
    refine wpAnyH_take (i := 6) (oi := _) (v := ?_) rfl (by kernel_rfl) (by kernel_rfl) (by kernel_rfl) (fun _ _ _ h => h) (Or.inl ⟨by rfl, fun w' hSw => ?_⟩) hS ?_
    rotate_left 1
    · go_simp
      try with_reducible rfl
    try simp only [Act.put, List.getElem_toArray, List.getElem_cons_zero, List.getElem_cons_succ, List.setIfInBounds_toArray, List.set_cons_zero, List.set_cons_succ]
    refine wpAnyH_take (i := 7) (oi := _) (v := ?_) rfl (by kernel_rfl) (by kernel_rfl) (by kernel_rfl) (fun _ _ _ h => h) (Or.inl ⟨by rfl, fun w' hSw => ?_⟩) hS ?_
    rotate_left 1
    · go_simp
      try with_reducible rfl
    try simp only [Act.put, List.getElem_toArray, List.getElem_cons_zero, List.getElem_cons_succ, List.setIfInBounds_toArray, List.set_cons_zero, List.set_cons_succ]
    refine wpAnyH_take (i := 8) (oi := _) (v := ?_) rfl (by kernel_rfl) (by kernel_rfl) (by kernel_rfl) (fun _ _ _ h => h) (Or.inl ⟨by rfl, fun w' hSw => ?_⟩) hS ?_
    rotate_left 1
    · refine exec_load_fl (x := .tmp 28) ?_ ?_ (HF.out w' hSw)
      · rfl
      · rfl
    try simp only [Act.put, List.getElem_toArray, List.getElem_cons_zero, List.getElem_cons_succ, List.setIfInBounds_toArray, List.set_cons_zero, List.set_cons_succ]
    refine wpAnyH_take (i := 9) (oi := _) (v := ?_) rfl (by kernel_rfl) (by kernel_rfl) (by kernel_rfl) (fun _ _ _ h => h) (Or.inl ⟨by rfl, fun w' hSw => ?_⟩) hS ?_
    rotate_left 1
    · go_simp
      try with_reducible rfl
    try simp only [Act.put, List.getElem_toArray, List.getElem_cons_zero, List.getElem_cons_succ, List.setIfInBounds_toArray, List.set_cons_zero, List.set_cons_succ]
    refine wpAnyH_take (i := 10) (oi := _) (v := ?_) rfl (by kernel_rfl) (by kernel_rfl) (by kernel_rfl) (fun _ _ _ h => h) (Or.inl ⟨by rfl, fun w' hSw => ?_⟩) hS ?_
    rotate_left 1
    · go_simp
      try with_reducible rfl
    try simp only [Act.put, List.getElem_toArray, List.getElem_cons_zero, List.getElem_cons_succ, List.setIfInBounds_toArray, List.set_cons_zero, List.set_cons_succ]
    refine wpAnyH_ready (rs := [11]) (by kernel_rfl) (by simp) (AllReadyH.cons rfl (fun K hK => ?_) AllReadyH.nil)
    rw [if_pos (by rfl)]
    refine wp_store_row 38 (.tmp 4) (.tmp 29) rfl (N + 1) (flL f).toArray rfl rfl 38 (flL fl0).toArray (hb38.drew) (by kernel_rfl) rfl (flL_one f) ?_
    refine hK.out _ _ ((Off.refl _ _).drew.trans off_setRow) (fun hS' => ?_)
    clear hK K
    have hb4 : Blk (w2.drew.setRow (N + 1) (flL f).toArray) (N + 1) 38 (flL f).toArray := setRow_heap _ _ _ _ _ _ hb38.drew
    generalize w2.drew.setRow (N + 1) (flL f).toArray = w4 at *
    try simp only [Act.put, List.getElem_toArray, List.getElem_cons_zero, List.getElem_cons_succ, List.setIfInBounds_toArray, List.set_cons_zero, List.set_cons_succ]
    refine wpAnyH_take (i := 12) (oi := _) (v := ?_) rfl (by kernel_rfl) (by kernel_rfl) (by kernel_rfl) (fun _ _ _ h => h) (Or.inl ⟨by rfl, fun w' hSw => ?_⟩) hS' ?_
    rotate_left 1
    · go_simp
      try with_reducible rfl
    try simp only [Act.put, List.getElem_toArray, List.getElem_cons_zero, List.getElem_cons_succ, List.setIfInBounds_toArray, List.set_cons_zero, List.set_cons_succ]
    refine wpAnyH_take (i := 13) (oi := _) (v := ?_) rfl (by kernel_rfl) (by kernel_rfl) (by kernel_rfl) (fun _ _ _ h => h) (Or.inl ⟨by rfl, fun w' hSw => ?_⟩) hS' ?_
    rotate_left 1
    · go_simp
      try with_reducible rfl
    try simp only [Act.put, List.getElem_toArray, List.getElem_cons_zero, List.getElem_cons_succ, List.setIfInBounds_toArray, List.set_cons_zero, List.set_cons_succ]
    refine wpAnyH_done (by kernel_rfl) ?_ _
    go_wp2_with fail
    refine bodyPost_ret (res_fl3 (f := f) Try.results35' _ _ rfl (range_blk hb4 0 _ (fun j v hj => by simpa using hj)) rfl rfl) rfl ⟨rfl, ?_⟩
    exact hO2.step hS' (fun i hi e => by have := HN.out; omega)

theorem find_any {w : World} {tb wb r : Nat} {p : Nat → Option Nat} {kes : List (KEnt FKey)} {clock : Nat} {L : List Fl} (H : TB w tb wb r p kes clock L) (k : FKey) :
    Calls Try.prog 35 #[.pointer (some ⟨tb, 0, none⟩), keyV k] w (FFind (fnd L k) w) := by
  cases h : fnd L k with
  | none => exact find_none H k h
  | some x => obtain ⟨f, b⟩ := x; exact find_some H k f b h
end Go.Proofs.Ytbkgjghbmafoeaa
