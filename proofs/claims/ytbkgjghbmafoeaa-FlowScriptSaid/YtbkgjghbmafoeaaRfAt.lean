/- The document's wheel in memory, and the walks over its less, Drop. Conditions: the wheel lies whole in memory. -/
import Derived.Test.YtbkgjghbmafoeaaWheelDue
namespace Go.Proofs.Ytbkgjghbmafoeaa
open Go.RowKit

theorem Try.info98 : (Try.prog.info? 98).map (fun i => (i.zero, i.size, i.bytes)) = some (some (.agg #[.int .i64 0, .int .i64 0]), 2, 16) := by kernel_rfl

/-- The cells of a row of ids and times. -/
def tcells (L : List Tm) : List Value := (L.map fun x => [Value.int .i64 x.1, Value.int .i64 x.2]).flatten

theorem tcells_cons (x : Tm) (L : List Tm) : tcells (x :: L) = .int .i64 x.1 :: .int .i64 x.2 :: tcells L := by simp [tcells]
theorem tcells_append (L M : List Tm) : tcells (L ++ M) = tcells L ++ tcells M := by simp [tcells]
theorem tcells_length : ∀ L : List Tm, (tcells L).length = L.length * 2
  | [] => rfl
  | x :: L => by rw [tcells_cons, List.length_cons, List.length_cons, tcells_length L, List.length_cons]; omega
theorem tcells_at : ∀ {L : List Tm} {k : Nat} {x : Tm}, L[k]? = some x → (tcells L)[k * 2]? = some (.int .i64 x.1) ∧ (tcells L)[k * 2 + 1]? = some (.int .i64 x.2)
  | [], k, x, h => by simp at h
  | y :: L, 0, x, h => by
    simp only [List.getElem?_cons_zero, Option.some.injEq] at h
    subst h; rw [tcells_cons]; exact ⟨rfl, rfl⟩
  | y :: L, k + 1, x, h => by
    simp only [List.getElem?_cons_succ] at h
    have := tcells_at h
    rw [tcells_cons]
    rw [show (k + 1) * 2 = k * 2 + 1 + 1 by omega]
    exact this
theorem tcells_take : ∀ (L : List Tm) (k : Nat), tcells (L.take k) = (tcells L).take (k * 2)
  | [], k => by simp [tcells]
  | x :: L, 0 => by simp [tcells]
  | x :: L, k + 1 => by rw [List.take_succ_cons, tcells_cons, tcells_take L k, tcells_cons, show (k + 1) * 2 = k * 2 + 1 + 1 by omega]; rfl
theorem tcells_drop : ∀ (L : List Tm) (k : Nat), tcells (L.drop k) = (tcells L).drop (k * 2)
  | [], k => by simp [tcells]
  | x :: L, 0 => by simp [tcells]
  | x :: L, k + 1 => by rw [List.drop_succ_cons, tcells_drop L k, tcells_cons, show (k + 1) * 2 = k * 2 + 1 + 1 by omega]; rfl
theorem tcells_one : ∀ {L : List Tm}, ∀ u ∈ tcells L, u.oneCell' = true
  | [], u, h => by simp [tcells] at h
  | x :: L, u, h => by
    rw [tcells_cons] at h
    rcases List.mem_cons.1 h with rfl | h
    · rfl
    · rcases List.mem_cons.1 h with rfl | h
      · rfl
      · exact tcells_one u h

/-- The row that v tells: its cells, from its offset on. -/
structure TRow (w : World) (v : Value) (L : List Tm) (g : Option Nat) : Prop where
  form : ∃ a cap, v = .slice a L.length cap ∧ L.length ≤ cap ∧ cap ≤ maxLen ∧ ∀ j u, (tcells L)[j]? = some u → ∃ b off, a = some ⟨b, off, none⟩ ∧ g = some b ∧ w.cell? ⟨b, off + j, none⟩ = some u
  blk : ∀ b, g = some b → ∃ cur, Blk w b 98 cur
  shape : v = .slice none 0 0 ∨ ∃ b off n cap, v = .slice (some ⟨b, off, none⟩) n cap

/-- The document's wheel: it holds L. -/
structure RfAt (w : World) (rb : Nat) (v : Value) (g : Option Nat) (L : List Tm) : Prop where
  top : Blk w rb 60 #[v]
  row : TRow w v L g
  srt : Srt L
  few : L.length ≤ 256

def RfOwn (rb : Nat) (g : Option Nat) (i : Nat) : Prop := i = rb ∨ g = some i

theorem TRow.off {w w' : World} {v : Value} {L : List Tm} {g : Option Nat} {S : Nat → Prop} (H : TRow w v L g) (k : Off S w w') (hn : ∀ b, g = some b → ¬ S b) : TRow w' v L g := by
  obtain ⟨⟨a, cap, hv, h1, h2, hc⟩, hb, hsh⟩ := H
  refine ⟨⟨a, cap, hv, h1, h2, fun j u hu => ?_⟩, fun b hg => ?_, hsh⟩
  · obtain ⟨b, off, ha, hg, hcell⟩ := hc j u hu
    obtain ⟨cur, hcur⟩ := hb b hg
    exact ⟨b, off, ha, hg, by rw [k.cell (p := ⟨b, off + j, none⟩) hcur.lt (hn b hg)]; exact hcell⟩
  · obtain ⟨cur, hcur⟩ := hb b hg
    exact ⟨cur, k.blk hcur (hn b hg)⟩

theorem RfAt.off {w w' : World} {rb : Nat} {v : Value} {g : Option Nat} {L : List Tm} {S : Nat → Prop} (H : RfAt w rb v g L) (k : Off S w w') (hn : ∀ i, RfOwn rb g i → ¬ S i) : RfAt w' rb v g L :=
  ⟨k.blk H.top (hn _ (.inl rfl)), H.row.off k (fun b hb => hn b (.inr hb)), H.srt, H.few⟩

theorem RfAt.lt {w : World} {rb : Nat} {v : Value} {g : Option Nat} {L : List Tm} (H : RfAt w rb v g L) {i : Nat} (hi : RfOwn rb g i) : i < w.heap.size := by
  rcases hi with rfl | hi
  · exact H.top.lt
  · obtain ⟨cur, hb⟩ := H.row.blk i hi; exact hb.lt

/-- The element k. -/
theorem TRow.at {w : World} {a : Option Addr} {n cap : Nat} {L : List Tm} {g : Option Nat} (H : TRow w (.slice a n cap) L g) {k : Nat} {x : Tm} (hx : L[k]? = some x) :
    ∃ b off, a = some ⟨b, off, none⟩ ∧ g = some b ∧ w.cell? ⟨b, off + k * 2, none⟩ = some (.int .i64 x.1) ∧ w.cell? ⟨b, off + k * 2 + 1, none⟩ = some (.int .i64 x.2) := by
  obtain ⟨⟨a', cap', hv, h1, h2, hc⟩, hb, _⟩ := H
  simp only [Value.slice.injEq] at hv
  obtain ⟨rfl, _, rfl⟩ := hv
  obtain ⟨t1, t2⟩ := tcells_at hx
  obtain ⟨b, off, rfl, hg, c1⟩ := hc _ _ t1
  obtain ⟨b', off', hbo, _, c2⟩ := hc _ _ t2
  simp only [Option.some.injEq, Addr.mk.injEq, and_true] at hbo
  obtain ⟨rfl, rfl⟩ := hbo
  exact ⟨b, off, rfl, hg, c1, by rw [Nat.add_assoc]; exact c2⟩

theorem own_trow {w : World} {base : Nat} {v : Value} {L : List Tm} (h : w.ownsRow base 98 2 v L.length (tcells L)) : TRow w v L v.ownBlock := by
  obtain ⟨hl, ⟨rfl, h0⟩ | ⟨g, cap, cur, rfl, _, hg, hc, hm, hs, ht⟩⟩ := h
  · refine ⟨⟨none, 0, by rw [h0], by omega, Nat.zero_le _, fun j u hu => ?_⟩, fun b hb => by simp [Value.ownBlock] at hb, .inl rfl⟩
    have : (tcells L).length = 0 := by rw [tcells_length, h0]
    rw [List.getElem?_eq_none (by omega)] at hu; cases hu
  · refine ⟨⟨some ⟨g, 0, none⟩, cap, rfl, hc, hm, fun j u hu => ⟨g, 0, rfl, rfl, ?_⟩⟩, fun b hb => ?_, .inr ⟨g, 0, _, _, rfl⟩⟩
    · rw [← ht, List.getElem?_take] at hu
      split at hu
      · have hb : Blk w g 98 cur := hg
        rw [Nat.zero_add, hb.cell]; simpa using hu
      · cases hu
    · have : g = b := by simpa [Value.ownBlock] using hb
      subst this; exact ⟨cur, hg⟩

set_option maxHeartbeats 1000000 in
theorem rless_any (x y : Tm) (w : World) : Calls Try.prog 45 #[.agg #[.int .i64 x.1, .int .i64 x.2], .agg #[.int .i64 y.1, .int .i64 y.2]] w fun e w' => e = .returned (.bool (decide (tlt x y))) ∧ Off (fun _ => False) w w' := by
  have h1 := Blk.new w 98 #[.int .i64 x.1, .int .i64 x.2]
  have h2 := Blk.new (w.alloc (.cells #[.int .i64 x.1, .int .i64 x.2] 98)) 98 #[.int .i64 y.1, .int .i64 y.2]
  rw [show (w.alloc (.cells #[.int .i64 x.1, .int .i64 x.2] 98)).heap.size = w.heap.size + 1 by simp] at h2
  have h1' := h1.alloc (.cells #[.int .i64 y.1, .int .i64 y.2] 98)
  have c0 := h1'.cell 0
  have c1 := h1'.cell 1
  have d0 := h2.cell 0
  have d1 := h2.cell 1
  have hO : Off (fun _ => False) w ((w.alloc (.cells #[.int .i64 x.1, .int .i64 x.2] 98)).alloc (.cells #[.int .i64 y.1, .int .i64 y.2] 98)) := ((Off.refl _ _).alloc _).alloc _
  by_cases hlt : x.2 < y.2
  · have hb : decide (tlt x y) = true := by simp only [decide_eq_true_eq]; unfold tlt; omega
    rw [hb]
    go_enter Try.func45, Try.ntmps45
    go_wp2
    go_ret
    exact ⟨rfl, hO⟩
  · by_cases he : x.2 = y.2
    · by_cases hi : x.1 < y.1
      · have hb : decide (tlt x y) = true := by simp only [decide_eq_true_eq]; unfold tlt; omega
        rw [hb]
        go_enter Try.func45, Try.ntmps45
        go_wp2
        go_ret
        exact ⟨rfl, by have h' := hO; simp only [he] at h' ⊢; exact h'⟩
      · have hb : decide (tlt x y) = false := by simp only [decide_eq_false_iff_not]; unfold tlt; omega
        rw [hb]
        go_enter Try.func45, Try.ntmps45
        go_wp2
        go_ret
        exact ⟨rfl, by have h' := hO; simp only [he] at h' ⊢; exact h'⟩
    · have hb : decide (tlt x y) = false := by simp only [decide_eq_false_iff_not]; unfold tlt; omega
      rw [hb]
      go_enter Try.func45, Try.ntmps45
      go_wp2
      go_ret
      exact ⟨rfl, hO⟩

/-- Drop of the document's wheel. -/
def RDrop (rb : Nat) (L : List Tm) (g : Option Nat) (id : Int) (w : World) (e : Ending) (w' : World) : Prop :=
  ∃ v' g' L' b, e = .returned (.bool b) ∧ DropR L id L' b ∧ RfAt w' rb v' g' L' ∧ Off (· = rb) w w' ∧ (g' = g ∨ ∀ i, g' = some i → w.heap.size ≤ i)

def RDropRel (W : World) (id : Int) (L : List Tm) (iv : Value) (wr : World) : Prop :=
  ∃ k : Nat, k ≤ L.length ∧ iv = .int .i64 k ∧ W = wr ∧ ∀ j x, j < k → L[j]? = some x → x.1 ≠ id

theorem erase_del : ∀ {L : List Tm} {k : Nat} {x : Tm}, (L.map (·.1)).Nodup → L[k]? = some x → L.eraseIdx k = del x.1 L
  | [], k, _, _, h => by simp at h
  | y :: L, 0, x, hn, h => by
    simp only [List.getElem?_cons_zero, Option.some.injEq] at h
    subst h
    simp only [List.map_cons, List.nodup_cons] at hn
    have : del y.1 L = L := del_none fun z hz e => hn.1 (e ▸ List.mem_map_of_mem hz)
    rw [List.eraseIdx_cons_zero, ← this]; simp [del]
  | y :: L, k + 1, x, hn, h => by
    simp only [List.getElem?_cons_succ] at h
    simp only [List.map_cons, List.nodup_cons] at hn
    have hne : y.1 ≠ x.1 := fun e => hn.1 (by rw [e]; exact List.mem_map_of_mem (List.mem_of_getElem? h))
    rw [List.eraseIdx_cons_succ, erase_del hn.2 h]
    simp [del, hne]

theorem TRow.news {w w1 : World} {b off n cap : Nat} {L : List Tm} {g : Option Nat} (H : TRow w (.slice (some ⟨b, off, none⟩) n cap) L g) (hO : Off (fun _ => False) w w1) :
    ∀ j u, (tcells L)[j]? = some u → w1.cell? ⟨b, off + j, none⟩ = some u := by
  intro j u hu
  obtain ⟨⟨a', cap', hv, h1, h2, hc⟩, hb, _⟩ := H
  simp only [Value.slice.injEq] at hv
  obtain ⟨rfl, _, rfl⟩ := hv
  obtain ⟨b', off', hbo, hg, c⟩ := hc j u hu
  simp only [Option.some.injEq, Addr.mk.injEq, and_true] at hbo
  obtain ⟨rfl, rfl⟩ := hbo
  obtain ⟨cur, hcur⟩ := hb _ hg
  rw [hO.cell (p := ⟨b, off + j, none⟩) hcur.lt id]; exact c

theorem TRow.newsTake {w w1 : World} {b off n cap k : Nat} {L : List Tm} {g : Option Nat} (H : TRow w (.slice (some ⟨b, off, none⟩) n cap) L g) (hO : Off (fun _ => False) w w1) :
    ∀ j u, ((tcells L).take (k * 2))[j]? = some u → w1.cell? ((⟨b, off, none⟩ : Addr).add j) = some u := by
  intro j u hu
  rw [List.getElem?_take] at hu
  split at hu
  · rw [Go.WideShapes.add_plain]; exact H.news hO j u hu
  · cases hu

theorem TRow.newsDrop {w w1 : World} {b off n cap k : Nat} {L : List Tm} {g : Option Nat} (H : TRow w (.slice (some ⟨b, off, none⟩) n cap) L g) (hO : Off (fun _ => False) w w1) :
    ∀ j u, ((tcells L).drop (k * 2))[j]? = some u → w1.cell? ((⟨b, off + k * 2, none⟩ : Addr).add j) = some u := by
  intro j u hu
  rw [List.getElem?_drop] at hu
  rw [Go.WideShapes.add_plain, Nat.add_assoc]; exact H.news hO _ u hu

theorem RfAt.set {w2 w3 : World} {rb base : Nat} {v0 v : Value} {L' : List Tm} (hT : Blk w2 rb 60 #[v0]) (hrow : w2.ownsRow base 98 2 v L'.length (tcells L')) (hw : w3 = w2.setCell ⟨rb, 0, none⟩ v) (hs : Srt L') (few : L'.length ≤ 256) :
    RfAt w3 rb v v.ownBlock L' := by
  have hO : Off (· = rb) w2 w3 := by rw [hw]; exact (Off.refl _ _).setAt 0 _
  refine ⟨by rw [hw]; exact hT.setCell 0 _, own_trow (ownsRow_off hrow hO (fun g hg => ?_)), hs, few⟩
  obtain ⟨cur, hb⟩ := ownsRow_blk hrow hg
  exact blk_ne hb hT (by decide)
end Go.Proofs.Ytbkgjghbmafoeaa
