/- The walks over a table's Get and Due. Conditions: the table lies whole in memory. -/
import Derived.Test.YtbkgjghbmafoeaaFlSet
namespace Go.Proofs.Ytbkgjghbmafoeaa
open Go.RowKit

def getF (L : List Fl) (id : Int) : Option Fl := L.find? fun f => decide (f.id = id)
def getV (x : Option Fl) : Value := match x with
  | none => .tuple #[flV fl0, .bool false]
  | some f => .tuple #[flV f, .bool true]

theorem getF_none {L : List Fl} {id : Int} (h : ∀ f ∈ L, f.id ≠ id) : getF L id = none := List.find?_eq_none.2 fun f hf => by simpa using h f hf
theorem getF_some {L : List Fl} (h : FOk L) {f : Fl} (hf : f ∈ L) : getF L f.id = some f := by
  cases hq : getF L f.id with
  | none => have := List.find?_eq_none.1 hq f hf; simp at this
  | some g =>
    have h1 := List.find?_some hq
    have h2 := List.mem_of_find?_eq_some hq
    rw [h.inj h2 hf (by simpa using h1)]

def FGetF (x : Option Fl) (w : World) (e : Ending) (w' : World) : Prop := e = .returned (getV x) ∧ Off (fun _ => False) w w'

set_option maxRecDepth 100000 in
set_option maxHeartbeats 2000000 in
theorem fget_none {w : World} {tb wb r : Nat} {p : Nat → Option Nat} {kes : List (KEnt FKey)} {clock : Nat} {L : List Fl} (H : TB w tb wb r p kes clock L) (id : Int) (hno : ∀ f ∈ L, f.id ≠ id) :
    Calls Try.prog 36 #[.pointer (some ⟨tb, 0, none⟩), .int .i64 id] w (FGetF none w) := by
  have hO1 : Off (fun _ => False) w (w.alloc (.cells (flL fl0).toArray 38)) := (Off.refl _ _).alloc _
  have hget := get_no (H.off hO1 fun _ _ k => k) id hno
  have hb4 := Blk.new w 38 (flL fl0).toArray
  clear hno H
  go_enter Try.func36, Try.ntmps36
  go_wp2_with fail
  change Calls Try.prog 39 _ (w.alloc (.cells (flL fl0).toArray 38)) _
  generalize w.alloc (.cells (flL fl0).toArray 38) = w1 at *
  generalize hN : w.heap.size = N at *
  have HN := Lib.hid hN
  clear hN
  refine hget.mono ?_
  rintro e w2 ⟨rfl, rfl⟩
  clear hget
  have HO := Lib.hid hO1
  clear hO1
  go_wp2_with (first | (refine wpList_store_blk rfl 38 (.tmp 4) (.tmp 15) rfl N 38 (flL fl0).toArray (flL fl0).toArray hb4 rfl rfl (by kernel_rfl) rfl (flL_one fl0) ?_; intro w3 hO3 hb3; clear hb4))
  refine bodyPost_ret (res_fl2 (f := fl0) Try.results36' _ _ rfl (range_blk hb3 0 _ (fun j v hj => by simpa using hj)) rfl) rfl ⟨rfl, ?_⟩
  exact HO.out.step hO3 (fun i hi e => by have := HN.out; omega)

set_option maxRecDepth 100000 in
set_option maxHeartbeats 2000000 in
theorem fget_some {w : World} {tb wb r : Nat} {p : Nat → Option Nat} {kes : List (KEnt FKey)} {clock : Nat} {L : List Fl} (H : TB w tb wb r p kes clock L) (f : Fl) (hf : f ∈ L) :
    Calls Try.prog 36 #[.pointer (some ⟨tb, 0, none⟩), .int .i64 f.id] w (FGetF (some f) w) := by
  have hO1 : Off (fun _ => False) w (w.alloc (.cells (flL fl0).toArray 38)) := (Off.refl _ _).alloc _
  have H1 := H.off hO1 fun _ _ k => k
  obtain ⟨o, ho, hB⟩ := H1.one f hf
  have hget := get_yes H1 hf ho
  have hb4 := Blk.new w 38 (flL fl0).toArray
  have hrg : (w.alloc (.cells (flL fl0).toArray 38)).rangeAt o 0 (flL f) := range_blk hB 0 (flL f) (fun j v hj => by simpa using hj)
  clear H H1 hf ho hB
  go_enter Try.func36, Try.ntmps36
  go_wp2_with fail
  change Calls Try.prog 39 _ (w.alloc (.cells (flL fl0).toArray 38)) _
  generalize w.alloc (.cells (flL fl0).toArray 38) = w1 at *
  generalize hN : w.heap.size = N at *
  have HN := Lib.hid hN
  clear hN
  refine hget.mono ?_
  rintro e w2 ⟨rfl, rfl⟩
  clear hget
  have HO := Lib.hid hO1
  have HR := Lib.hid hrg
  clear hO1 hrg
  go_wp2_with (first
    | (refine wpList_load_mid rfl 38 (.tmp 13) rfl o 0 rfl (flL f) _ HR.out (show Try.prog.underlying 38 = some (.struct (Try.prog.fieldsOf 38)) by kernel_rfl) rfl (by kernel_rfl) ?_)
    | (refine wpList_store_blk rfl 38 (.tmp 4) (.tmp 14) rfl N 38 (flL fl0).toArray (flL f).toArray hb4 rfl rfl (by kernel_rfl) rfl (flL_one f) ?_; intro w3 hO3 hb3; clear hb4))
  refine bodyPost_ret (res_fl2 (f := f) Try.results36' _ _ rfl (range_blk hb3 0 _ (fun j v hj => by simpa using hj)) rfl) rfl ⟨rfl, ?_⟩
  exact HO.out.step hO3 (fun i hi e => by have := HN.out; omega)

theorem fget_any {w : World} {tb wb r : Nat} {p : Nat → Option Nat} {kes : List (KEnt FKey)} {clock : Nat} {L : List Fl} (H : TB w tb wb r p kes clock L) (id : Int) :
    Calls Try.prog 36 #[.pointer (some ⟨tb, 0, none⟩), .int .i64 id] w (FGetF (getF L id) w) := by
  by_cases h : ∃ f ∈ L, f.id = id
  · obtain ⟨f, hf, rfl⟩ := h
    rw [getF_some H.ok hf]; exact fget_some H f hf
  · have hno : ∀ f ∈ L, f.id ≠ id := fun f hf e => h ⟨f, hf, e⟩
    rw [getF_none hno]; exact fget_none H id hno
end Go.Proofs.Ytbkgjghbmafoeaa
