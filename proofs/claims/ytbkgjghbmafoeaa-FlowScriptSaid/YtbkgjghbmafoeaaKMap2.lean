/- Maps by their entries: a new entry that is laid and then stored; clear. No conditions. -/
import Derived.Test.YtbkgjghbmafoeaaWheelAt
import Derived.WideKeyEntry
namespace Go.Proofs.Ytbkgjghbmafoeaa
open Go.RowKit
open Go.ChangeMaps (setBlock)

section
variable {P : Program} {kt et T : TypeId} {α : Type} [DecidableEq α] {enc : α → Value}

theorem run_mapEntry_new (K : KeyTy P kt α enc) (hT : P.underlying T = some (.map kt et)) {z : Value} (hz : ∀ w : World, (zeroValue et).run P w = .ok z w) {w : World} {r clock : Nat} {es : List (KEnt α)} (hm : MapAt enc w r es clock) (k : α) (hk : klook k es = none) :
    (Instr.mapEntry T (.map (some r)) (enc k)).run P w = .ok (.tuple #[z, .int .i64 clock]) (setBlock w r (.map ((es ++ [(⟨k, z, clock⟩ : KEnt α)]).map (KEnt.raw enc)).toArray (clock + 1))) := by
  simp only [Instr.mapEntry, Sem.run_bind, run_underlying hT, Result.andThen_ok, MapKept.run_getObj_map hm, K.check, K.find, kfind_none hk, hz]
  rw [run_setObj_map w hm]
  simp [KEnt.raw, goInt]

omit [DecidableEq α] in
theorem run_entryStore_last {w : World} {r clock c : Nat} {es : List (KEnt α)} {k : α} {z : Value} (hm : MapAt enc w r (es ++ [(⟨k, z, c⟩ : KEnt α)]) clock) (hb : ∀ e ∈ es, e.born < c) (v : Value) :
    (Instr.entryStore T (.map (some r)) (.int .i64 c) v).run P w = .ok () (setBlock w r (.map ((es ++ [(⟨k, v, c⟩ : KEnt α)]).map (KEnt.raw enc)).toArray clock)) := by
  have hf : (((es ++ [(⟨k, z, c⟩ : KEnt α)]).map (KEnt.raw enc)).toArray).findIdx? (fun e => ((e.born : Nat) : Int) == ((c : Nat) : Int)) = some es.length := by
    rw [Go.WideElems.findIdx_arr]
    simp only [List.map_append, List.map_cons, List.map_nil]
    rw [List.findIdx?_append]
    have h1 : (es.map (KEnt.raw enc)).findIdx? (fun e => ((e.born : Nat) : Int) == ((c : Nat) : Int)) = none := by
      rw [List.findIdx?_eq_none_iff]
      intro e he
      obtain ⟨x, hx, rfl⟩ := List.mem_map.1 he
      have := hb x hx
      simp only [KEnt.raw, beq_eq_false_iff_ne, ne_eq, Int.natCast_inj]
      omega
    rw [h1]
    simp [KEnt.raw, List.findIdx?_cons]
  simp only [Instr.entryStore, Sem.run_bind, Sem.run_pure, Result.andThen_ok, MapKept.run_getObj_map hm, asInt, asIntOf, hf]
  rw [run_setObj_map w hm]
  congr 2
  simp only [List.map_append, List.map_cons, List.map_nil]
  have := Go.WideElems.modify_last (fun e : MapEntry => { e with val := v }) (KEnt.raw enc (⟨k, z, c⟩ : KEnt α)) (es.map (KEnt.raw enc))
  rw [List.length_map] at this
  simp only [List.modify_toArray, this]
  simp [KEnt.raw]

omit [DecidableEq α] in
theorem run_clear (hT : P.underlying T = some (.map kt et)) {w : World} {r clock : Nat} {es : List (KEnt α)} (hm : MapAt enc w r es clock) (ty : TypeId) :
    (Builtin.clear_ #[T] ty #[.map (some r)]).run P w = .ok (.tuple #[]) (setBlock w r (.map (([] : List (KEnt α)).map (KEnt.raw enc)).toArray clock)) := by
  simp only [Builtin.clear_, List.getElem?_toArray, List.getElem?_cons_zero, Sem.run_bind, run_underlying hT, Result.andThen_ok, MapKept.run_getObj_map hm]
  rw [run_setObj_map w hm]
  simp
end
end Go.Proofs.Ytbkgjghbmafoeaa
