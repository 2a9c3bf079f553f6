/- Small words for the laws over wheels. No conditions. -/
import Derived.Test.YtbkgjghbmafoeaaSameInts
import Derived.Test.YtbkgjghbmafoeaaMSmall
namespace Go.Proofs.Ytbkgjghbmafoeaa
open Go.RowKit

theorem below_off {B : Nat} {w a a' : World} {S : Nat → Prop} (h : Below B w a) (k : Off S a a') (hB : B ≤ w.heap.size) (hS : ∀ i, i < B → ¬ S i) : Below B w a' :=
  h.trans (k.below (Nat.le_trans hB h.size) hS)

theorem ins_del_length {L : List Tm} {id t : Int} : (ins (id, t) (del id L)).length ≤ L.length + 1 := by
  rw [ins_length]; exact Nat.succ_le_succ (List.length_filter_le _ _)

theorem setR_few {L L' : List Tm} {id t e : Int} (h : SetR L id t L' e) (hl : L.length < 256) : e = 0 ∧ L' = ins (id, t) (del id L) := by
  rcases h with ⟨_, h1, h2⟩ | ⟨_, h, _⟩
  · exact ⟨h2, h1⟩
  · omega

theorem RfAt.new (w : World) : RfAt (w.alloc (.cells #[.slice none 0 0] 60)) w.heap.size (.slice none 0 0) none [] :=
  ⟨Blk.new _ _ _, ⟨⟨none, 0, rfl, Nat.le_refl _, Nat.zero_le _, fun j u hu => by simp [tcells] at hu⟩, fun b hb => (by cases hb), .inl rfl⟩, Srt.nil, Nat.zero_le _⟩

theorem Whl.apart {w : World} {wb rb : Nat} {S : Nat → Prop} {La Lr : List Tm} {v : Value} {g : Option Nat} (H : Whl w wb S La) (R : RfAt w rb v g Lr) : ∀ i, RfOwn rb g i → ¬ S i := by
  rintro i (rfl | hi)
  · exact H.not_blk R.top (by decide) (by decide) (by decide)
  · obtain ⟨cur, hb⟩ := R.row.blk i hi
    exact H.not_blk hb (by decide) (by decide) (by decide)

theorem Whl.apart' {w : World} {wb rb : Nat} {S : Nat → Prop} {La Lr : List Tm} {v : Value} {g : Option Nat} (H : Whl w wb S La) (R : RfAt w rb v g Lr) : ∀ i, S i → ¬ i = rb :=
  fun _ hi e => H.apart R _ (.inl e) hi

theorem own_row_at {w : World} {base T n g off c m : Nat} {v : Value} {xs : List Value} (h : w.ownsRow base T 1 v n xs) (hv : v = .slice (some ⟨g, off, none⟩) m c) : base ≤ g :=
  (h.lt g (by rw [hv]; rfl)).1
end Go.Proofs.Ytbkgjghbmafoeaa
