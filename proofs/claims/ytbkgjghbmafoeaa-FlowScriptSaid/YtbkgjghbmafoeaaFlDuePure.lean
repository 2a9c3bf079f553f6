/- The plain law of what is due in a table of flows. No program in sight. -/
import Derived.Test.YtbkgjghbmafoeaaWheelDue
import Derived.Test.YtbkgjghbmafoeaaMPure
namespace Go.Proofs.Ytbkgjghbmafoeaa
open Go.RowKit

def srtF (L : List Fl) : List Tm := (L.map ft).foldr ins []

theorem srtF_mem {L : List Fl} {y : Tm} : y ∈ srtF L ↔ y ∈ L.map ft := by
  unfold srtF
  induction L.map ft with
  | nil => simp
  | cons x M ih => rw [List.foldr_cons, mem_ins, ih, List.mem_cons]

theorem srtF_srt : ∀ {L : List Fl}, L.Pairwise (fun a b => a.id < b.id) → Srt (srtF L)
  | [], _ => Srt.nil
  | x :: L, h => by
    have hp := List.pairwise_cons.1 h
    refine (srtF_srt hp.2).ins (x := ft x) fun y hy e => ?_
    obtain ⟨g, hg, rfl⟩ := List.mem_map.1 (srtF_mem.1 hy)
    have := hp.1 g hg
    simp only [ft] at e; omega

theorem wt_eq {T : List Tm} {L : List Fl} (hs : Srt T) (hT : T.Perm (L.map ft)) (ok : FOk L) : T = srtF L :=
  Srt.eq hs (srtF_srt ok.ids) fun y => by rw [srtF_mem]; exact hT.mem_iff

theorem srt_take {now : Int} : ∀ {T : List Tm}, Srt T → T.takeWhile (isDue now) = T.filter (isDue now) ∧ T.dropWhile (isDue now) = T.filter fun x => !isDue now x
  | [], _ => ⟨rfl, rfl⟩
  | x :: T, h => by
    have ih := srt_take (now := now) (h.sub (List.sublist_cons_self x T))
    have hp := List.pairwise_cons.1 h.up
    by_cases hx : isDue now x = true
    · simp only [List.takeWhile_cons, List.dropWhile_cons, List.filter_cons, hx, if_true, Bool.not_true, Bool.false_eq_true, if_false]
      exact ⟨by rw [ih.1], ih.2⟩
    · have hall : ∀ y ∈ T, isDue now y = false := fun y hy => by
        have h1 := hp.1 y hy
        simp only [isDue, decide_eq_true_eq] at hx
        simp only [isDue, decide_eq_false_iff_not]
        unfold tlt at h1; omega
      have hx' : isDue now x = false := by simpa using hx
      simp only [List.takeWhile_cons, List.dropWhile_cons, List.filter_cons, hx', Bool.false_eq_true, if_false, Bool.not_false, if_true]
      refine ⟨(List.filter_eq_nil_iff.2 fun y hy => by rw [hall y hy]; simp).symm, ?_⟩
      rw [List.filter_eq_self.2 fun y hy => by rw [hall y hy]; rfl]

theorem mem_dueIds {now id : Int} {T : List Tm} (h : Srt T) : id ∈ dueIds now T ↔ ∃ y ∈ T, y.1 = id ∧ y.2 ≤ now := by
  unfold dueIds
  rw [(srt_take h).1, List.mem_map]
  constructor
  · rintro ⟨y, hy, rfl⟩
    obtain ⟨h1, h2⟩ := List.mem_filter.1 hy
    exact ⟨y, h1, rfl, by simpa [isDue] using h2⟩
  · rintro ⟨y, hy, rfl, h2⟩
    exact ⟨y, List.mem_filter.2 ⟨hy, by simpa [isDue] using h2⟩, rfl⟩

theorem dueIds_nodup {now : Int} {T : List Tm} (h : Srt T) : (dueIds now T).Nodup := by
  unfold dueIds; exact h.ids.sublist ((List.takeWhile_sublist _).map _)

/-- All but those. -/
def dropAll (ids : List Int) (L : List Fl) : List Fl := L.filter fun f => decide (f.id ∉ ids)

theorem dropAll_nil (L : List Fl) : dropAll [] L = L := List.filter_eq_self.2 fun f _ => by simp
theorem dropAll_snoc (ids : List Int) (id : Int) (L : List Fl) : dropF id (dropAll ids L) = dropAll (ids ++ [id]) L := by
  unfold dropF dropAll
  rw [List.filter_filter]
  refine List.filter_congr fun f _ => ?_
  rw [Bool.eq_iff_iff]
  simp only [Bool.and_eq_true, decide_eq_true_eq, List.mem_append, List.mem_singleton, not_or]
  exact And.comm
theorem mem_dropAll {ids : List Int} {L : List Fl} {f : Fl} : f ∈ dropAll ids L ↔ f ∈ L ∧ f.id ∉ ids := by simp [dropAll]
theorem FOk.dropAll {L : List Fl} (h : FOk L) (ids : List Int) : FOk (dropAll ids L) := h.sub List.filter_sublist

theorem dropAll_due {now : Int} {T : List Tm} {L : List Fl} (hs : Srt T) (hT : T.Perm (L.map ft)) (ok : FOk L) : dropAll (dueIds now T) L = liveF now L := by
  refine List.filter_congr fun f hf => ?_
  rw [Bool.eq_iff_iff]
  simp only [decide_eq_true_eq]
  rw [mem_dueIds hs]
  constructor
  · exact fun h1 h2 => h1 ⟨ft f, hT.mem_iff.2 (List.mem_map_of_mem hf), rfl, h2⟩
  · rintro h1 ⟨y, hy, h2, h3⟩
    obtain ⟨g, hg, rfl⟩ := List.mem_map.1 (hT.mem_iff.1 hy)
    obtain rfl := ok.inj hg hf h2
    exact h1 h3

theorem perm_live {now : Int} {T : List Tm} {L : List Fl} (hs : Srt T) (hT : T.Perm (L.map ft)) : (dueRest now T).Perm ((liveF now L).map ft) := by
  unfold dueRest
  rw [(srt_take hs).2]
  have h1 : (liveF now L).map ft = (L.map ft).filter fun x => !isDue now x := by
    unfold liveF
    rw [List.filter_map]
    refine congrArg (List.map ft) (List.filter_congr fun f _ => ?_)
    show decide (¬ f.ends ≤ now) = !decide ((ft f).2 ≤ now)
    exact decide_not
  rw [h1]
  exact hT.filter _

/-- Whose time has come, in their order. -/
def dueF (now : Int) (L : List Fl) : List Int := dueIds now (srtF L)
end Go.Proofs.Ytbkgjghbmafoeaa
