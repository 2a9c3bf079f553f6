/- The plain law of two wheels, of which one lacks an id. No program in sight. -/
import Derived.Test.YtbkgjghbmafoeaaWheelPure
namespace Go.Proofs.Ytbkgjghbmafoeaa
open Go.RowKit

theorem del_del (a b : Int) (L : List Tm) : del a (del b L) = del b (del a L) := by
  unfold del; rw [List.filter_filter, List.filter_filter]
  exact List.filter_congr fun x _ => Bool.and_comm _ _

theorem del_same (a : Int) (L : List Tm) : del a (del a L) = del a L := del_none fun y hy => (mem_del.1 hy).2

theorem del_ins_same {id t : Int} {L : List Tm} (h : Srt L) : del id (ins (id, t) (del id L)) = del id L := by
  refine Srt.eq (((h.del id).ins (fun y hy => (mem_del.1 hy).2)).del id) (h.del id) fun y => ?_
  rw [mem_del, mem_ins]
  constructor
  · rintro ⟨rfl | h1, h2⟩
    · exact absurd rfl h2
    · exact h1
  · exact fun h1 => ⟨.inr h1, (mem_del.1 h1).2⟩

theorem del_ins_ne {id gone t : Int} {L : List Tm} (h : Srt L) (hne : id ≠ gone) : del gone (ins (id, t) (del id L)) = ins (id, t) (del id (del gone L)) := by
  have hx : ∀ (M : List Tm), ∀ y ∈ del id M, y.1 ≠ (id, t).1 := fun M y hy => (mem_del.1 hy).2
  refine Srt.eq (((h.del id).ins (hx L)).del gone) (((h.del gone).del id).ins (hx _)) fun y => ?_
  simp only [mem_del, mem_ins]
  constructor
  · rintro ⟨rfl | ⟨h1, h2⟩, h3⟩
    · exact .inl rfl
    · exact .inr ⟨⟨h1, h3⟩, h2⟩
  · rintro (rfl | ⟨⟨h1, h3⟩, h2⟩)
    · exact ⟨.inl rfl, hne⟩
    · exact ⟨.inr ⟨h1, h2⟩, h3⟩
end Go.Proofs.Ytbkgjghbmafoeaa
