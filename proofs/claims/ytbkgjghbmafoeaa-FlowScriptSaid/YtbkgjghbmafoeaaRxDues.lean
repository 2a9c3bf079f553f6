/- The plain law of the document's Due: the least deadline first. No program in sight. · The walk over the Due of the document's table. Conditions: the table lies whole in memory. -/
import Derived.Test.YtbkgjghbmafoeaaFlDuePure
import Derived.Test.YtbkgjghbmafoeaaRxRow
import Derived.Deep.CutBlock
import Derived.Deep.DeepCutAuto
import Derived.Deep.LoopGhost
namespace Go.Proofs.Ytbkgjghbmafoeaa
open Go.RowKit

/-- Of those whose time has come, the first one with the least deadline. -/
def dmin1 (now : Int) (b : Option Fl) (f : Fl) : Option Fl := if f.ends ≤ now ∧ beats f b = true then some f else b
def dmin (now : Int) (L : List Fl) : Option Fl := L.foldl (dmin1 now) none

theorem dmin_snoc {now : Int} {L : List Fl} {i : Nat} {x : Fl} (h : L[i]? = some x) : dmin now (L.take (i + 1)) = dmin1 now (dmin now (L.take i)) x := by
  rw [List.take_add_one, h]; simp [dmin]
theorem dmin1_true {now : Int} {b : Option Fl} {x : Fl} (h : decide (x.ends ≤ now ∧ beats x b = true) = true) : dmin1 now b x = some x := by
  unfold dmin1; rw [if_pos (of_decide_eq_true h)]
theorem dmin1_false {now : Int} {b : Option Fl} {x : Fl} (h : decide (x.ends ≤ now ∧ beats x b = true) = false) : dmin1 now b x = b := by
  unfold dmin1; rw [if_neg (of_decide_eq_false h)]

def DGood (now : Int) (S : List Fl) : Option Fl → Prop
  | none => ∀ g ∈ S, ¬ g.ends ≤ now
  | some x => x ∈ S ∧ x.ends ≤ now ∧ ∀ g ∈ S, g = x ∨ tlt (ft x) (ft g)

theorem dmin_step {now : Int} {S : List Fl} {b : Option Fl} {f : Fl} (hs : ∀ s ∈ S, s.id < f.id) (h : DGood now S b) : DGood now (S ++ [f]) (dmin1 now b f) := by
  unfold dmin1
  cases b with
  | none =>
    by_cases hf : f.ends ≤ now
    · rw [if_pos ⟨hf, rfl⟩]
      refine ⟨by simp, hf, fun g hg => ?_⟩
      rcases List.mem_append.1 hg with hg | hg
      · have := h g hg
        right; unfold tlt ft; simp only; omega
      · exact .inl (List.mem_singleton.1 hg)
    · rw [if_neg (fun k => hf k.1)]
      intro g hg
      rcases List.mem_append.1 hg with hg | hg
      · exact h g hg
      · rw [List.mem_singleton.1 hg]; exact hf
  | some x =>
    obtain ⟨h1, h2, h3⟩ := h
    by_cases hf : f.ends ≤ now ∧ f.ends < x.ends
    · rw [if_pos ⟨hf.1, by simp [beats, hf.2]⟩]
      refine ⟨by simp, hf.1, fun g hg => ?_⟩
      rcases List.mem_append.1 hg with hg | hg
      · right
        rcases h3 g hg with rfl | h4
        · unfold tlt ft; simp only; omega
        · unfold tlt ft at *; simp only at *; omega
      · exact .inl (List.mem_singleton.1 hg)
    · rw [if_neg (fun k => hf ⟨k.1, by simpa [beats] using k.2⟩)]
      refine ⟨List.mem_append_left _ h1, h2, fun g hg => ?_⟩
      rcases List.mem_append.1 hg with hg | hg
      · exact h3 g hg
      · rw [List.mem_singleton.1 hg]
        right
        have := hs x h1
        unfold tlt ft; simp only; omega

theorem dmin_acc {now : Int} : ∀ (L S : List Fl) (b : Option Fl), (S ++ L).Pairwise (fun a b => a.id < b.id) → DGood now S b → DGood now (S ++ L) (L.foldl (dmin1 now) b)
  | [], S, b, _, h => by simpa using h
  | f :: L, S, b, hp, h => by
    have e : S ++ f :: L = (S ++ [f]) ++ L := by simp
    have hs : ∀ s ∈ S, s.id < f.id := fun s hs => (List.pairwise_append.1 hp).2.2 s hs f List.mem_cons_self
    rw [e] at hp ⊢
    exact dmin_acc L (S ++ [f]) _ hp (dmin_step hs h)

theorem dmin_good {now : Int} {L : List Fl} (ok : FOk L) : DGood now L (dmin now L) := dmin_acc L [] none (by simpa using ok.ids) (fun g hg => by cases hg)

theorem dueF_none {now : Int} {L : List Fl} (ok : FOk L) (h : dmin now L = none) : dueF now L = [] ∧ liveF now L = L := by
  have hg := dmin_good (now := now) ok
  rw [h] at hg
  refine ⟨?_, List.filter_eq_self.2 fun f hf => by simpa using hg f hf⟩
  refine List.eq_nil_iff_forall_not_mem.2 fun id hid => ?_
  obtain ⟨y, hy, _, h2⟩ := (mem_dueIds (srtF_srt ok.ids)).1 hid
  obtain ⟨f, hf, rfl⟩ := List.mem_map.1 (srtF_mem.1 hy)
  exact hg f hf h2

theorem dueF_some {now : Int} {L : List Fl} {x : Fl} (ok : FOk L) (h : dmin now L = some x) : x ∈ L ∧ dueF now L = x.id :: dueF now (dropF x.id L) ∧ liveF now (dropF x.id L) = liveF now L := by
  have hg := dmin_good (now := now) ok
  rw [h] at hg
  obtain ⟨hx, hn, hm⟩ := hg
  have hne : ∀ g ∈ dropF x.id L, tlt (ft x) (ft g) := fun g hg => by
    obtain ⟨h1, h2⟩ := mem_dropF.1 hg
    exact (hm g h1).resolve_left fun e => h2 (by rw [e])
  have hS : srtF L = ft x :: srtF (dropF x.id L) := by
    refine Srt.eq (srtF_srt ok.ids) ⟨?_, ?_⟩ fun y => ?_
    · refine List.pairwise_cons.2 ⟨fun y hy => ?_, (srtF_srt (ok.drop x.id).ids).up⟩
      obtain ⟨g, hg, rfl⟩ := List.mem_map.1 (srtF_mem.1 hy)
      exact hne g hg
    · refine List.nodup_cons.2 ⟨fun hm => ?_, (srtF_srt (ok.drop x.id).ids).ids⟩
      obtain ⟨y, hy, he⟩ := List.mem_map.1 hm
      obtain ⟨g, hg, rfl⟩ := List.mem_map.1 (srtF_mem.1 hy)
      exact (mem_dropF.1 hg).2 he
    · rw [srtF_mem, List.mem_cons, srtF_mem]
      constructor
      · intro hy
        obtain ⟨g, hg, rfl⟩ := List.mem_map.1 hy
        by_cases hgx : g.id = x.id
        · rw [ok.inj hg hx hgx]; exact .inl rfl
        · exact .inr (List.mem_map_of_mem (mem_dropF.2 ⟨hg, hgx⟩))
      · rintro (rfl | hy)
        · exact List.mem_map_of_mem hx
        · obtain ⟨g, hg, rfl⟩ := List.mem_map.1 hy
          exact List.mem_map_of_mem (mem_dropF.1 hg).1
  refine ⟨hx, ?_, ?_⟩
  · unfold dueF dueIds
    have : isDue now (ft x) = true := decide_eq_true hn
    rw [hS, List.takeWhile_cons, this]; rfl
  · unfold liveF dropF
    rw [List.filter_filter]
    refine List.filter_congr fun f hf => ?_
    rw [Bool.eq_iff_iff]
    simp only [Bool.and_eq_true, decide_eq_true_eq]
    constructor
    · exact fun k => k.1
    · exact fun k => ⟨k, fun e => k (by rw [ok.inj hf hx e]; exact hn)⟩

theorem dueF_length {now : Int} {L : List Fl} : (dueF now L).length ≤ L.length := by
  unfold dueF dueIds
  rw [List.length_map]
  refine Nat.le_trans (List.takeWhile_prefix _).length_le ?_
  unfold srtF
  induction L with
  | nil => simp
  | cons f L ih => rw [List.map_cons, List.foldr_cons, ins_length, List.length_cons]; omega

/-- Where the one stands who is due next, of the first i. -/
def DueAt (now : Int) (L : List Fl) (i : Nat) (kv : Value) : Prop :=
  (kv = .int .i64 (-1) ∧ dmin now (L.take i) = none) ∨ ∃ (n : Nat) (x : Fl), kv = .int .i64 n ∧ L[n]? = some x ∧ dmin now (L.take i) = some x
end Go.Proofs.Ytbkgjghbmafoeaa
namespace Go.Proofs.Ytbkgjghbmafoeaa
open Go.RowKit

def XDue (rb : Nat) (g : Option Nat) (L : List Fl) (now : Int) (w : World) (e : Ending) (w' : World) : Prop :=
  ∃ v v' g', e = .returned v ∧ w'.ownsRow w.heap.size 3 1 v (dueF now L).length ((dueF now L).map ik) ∧ RxAt w' rb v' g' (liveF now L) ∧ Off (· = rb) w w' ∧ (g' = g ∨ ∀ i, g' = some i → w.heap.size ≤ i)

def XDueRel (W : World) (rb : Nat) (g : Option Nat) (L : List Fl) (now : Int) (ov : Value) (wr : World) : Prop :=
  ∃ (pre : List Int) (M : List Fl) (v : Value) (g' : Option Nat), dueF now L = pre ++ dueF now M ∧ liveF now M = liveF now L ∧ FOk M ∧ pre.length + M.length ≤ L.length ∧ wr.ownsRow W.heap.size 3 1 ov pre.length (pre.map ik) ∧ RxAt wr rb v g' M ∧ Off (· = rb) W wr ∧ (g' = g ∨ ∀ i, g' = some i → W.heap.size ≤ i)

def XDueIn (W : World) (now : Int) (L : List Fl) (kv iv : Value) (wr : World) : Prop :=
  ∃ i : Nat, i ≤ L.length ∧ iv = .int .i64 i ∧ DueAt now L i kv ∧ Off (fun _ => False) W wr

set_option maxRecDepth 100000 in
set_option maxHeartbeats 4000000 in
theorem xdue_any {w : World} {rb : Nat} {v : Value} {g : Option Nat} {L : List Fl} (now : Int) (H : RxAt w rb v g L) (ok : FOk L) :
    Calls Try.prog 17 #[.pointer (some ⟨rb, 0, none⟩), .int .i64 now] w (XDue rb g L now w) := by
  obtain ⟨i0, hi0, hz0, hz1, hz2⟩ := info_parts Try.info3
  have hrbl := H.top.lt
  have hLl := H.few
  have hown0 := World.ownsRow_made w (e := 3) (size := 1) #[] 0 (Nat.le_refl _) (by decide) rfl
  go_enter Try.func17, Try.ntmps17
  go_wp2_with fail
  go_loopw [5] (XDueRel w rb g L now) (fun v _ => L.length - vlen v)
  case atStart => exact ⟨[], L, v, g, rfl, rfl, ok, by simp, hown0, H.off ((Off.refl (fun _ => False) w).alloc _) (fun _ _ k => k), (Off.refl _ _).alloc _, .inl rfl⟩
  case round =>
    clear H hown0
    obtain ⟨pre, M, v, g', hdue, hlive, okM, hlen, hrow, H, hO, hg'⟩ := hrel
    have HDue := Lib.hid (And.intro hdue hlive)
    have HRow := Lib.hid hrow
    have HH := Lib.hid H
    have HO := Lib.hid hO
    have HG := Lib.hid hg'
    have OkM := Lib.hid okM
    obtain ⟨a, cap, hv, hcap, hcm, _⟩ := H.row.form
    subst hv
    unfold maxLen at hcm
    have hMl : M.length ≤ 48 := H.few
    have c0 : wr.cell? ⟨rb, 0, none⟩ = some (.slice a M.length cap) := H.top.cell 0
    clear hdue hlive hrow H hO hg' okM
    obtain ⟨wo, hwo⟩ : ∃ wo, wo = wr := ⟨_, rfl⟩
    subst hwo
    go_upto_block 2 with fail
    go_cut [6] (fun s6 wx => DueAt now M M.length s6 ∧ Off (fun _ => False) wo wx)
    case first =>
      go_wp2_with fail
      go_loopw [6, 7] (XDueIn wo now M) (fun _ i _ => M.length - (intOf i).toNat)
      case atStart => exact ⟨0, Nat.zero_le _, rfl, .inl ⟨rfl, by simp [dmin]⟩, Off.refl _ _⟩
      case round =>
        obtain ⟨i, hi, rfl, hda, hO4⟩ := hrel
        have HDA := Lib.hid hda
        have HO4 := Lib.hid hO4
        have H4 := Lib.hid (HH.out.off hO4 (fun _ _ k => k))
        have c4 : wr.cell? ⟨rb, 0, none⟩ = some (.slice a M.length cap) := H4.out.top.cell 0
        have q0 : (0 : Int) ≤ (i : Int) := by omega
        clear hda hO4 c0
        by_cases hlt : i < M.length
        · obtain ⟨x, hx⟩ : ∃ x, M[i]? = some x := ⟨M[i], List.getElem?_eq_getElem hlt⟩
          have q1 : (i : Int) < (M.length : Int) := by omega
          obtain ⟨b, off, rfl, hg, hrg⟩ := H4.out.row.at hx
          have HX := Lib.hid hx
          have d19 : wr.cell? ⟨b, off + i * 20 + 19, none⟩ = some (.int .i64 x.ends) := hrg 19 _ rfl
          obtain ⟨bb, hbb⟩ : ∃ bb, decide (x.ends ≤ now ∧ beats x (dmin now (M.take i)) = true) = bb := ⟨_, rfl⟩
          have HBB := Lib.hid hbb
          clear hx hrg hg hbb
          go_upto_region 6 with fail
          go_cut [50] (fun s50 wx => s50 = .bool bb ∧ Off (fun _ => False) wr wx)
          case first =>
            by_cases hw : x.ends ≤ now
            · rcases HDA.out with ⟨hu6, hvn⟩ | ⟨n, y, hu6, hy, hvy⟩
              · subst hu6
                have hb : bb = true := by rw [← HBB.out, hvn]; simp [hw, beats]
                subst hb
                clear hvn
                go_quiet (fail)
                go_wp2_with fail
                go_meet
                exact ⟨by first | rfl | simp [hw], (Off.refl _ _).drewN _⟩
              · subst hu6
                obtain ⟨b', off', hbo, _, hry⟩ := H4.out.row.at hy
                simp only [Option.some.injEq, Addr.mk.injEq, and_true] at hbo
                obtain ⟨rfl, rfl⟩ := hbo
                have e19 : wr.cell? ⟨b, off + n * 20 + 19, none⟩ = some (.int .i64 y.ends) := hry 19 _ rfl
                have hnl : n < M.length := by
                  rcases Nat.lt_or_ge n M.length with h' | h'
                  · exact h'
                  · rw [List.getElem?_eq_none h'] at hy; cases hy
                have p0 : (0 : Int) ≤ (n : Int) := by omega
                have p1 : (n : Int) < (M.length : Int) := by omega
                have hb : decide (x.ends < y.ends) = bb := by rw [← HBB.out, hvy]; simp [hw, beats]
                have HB := Lib.hid hb
                clear hb hvy hy hry
                go_quiet (fail)
                go_wp2_with fail
                go_meet
                exact ⟨by rw [← HB.out]; simp [show ¬ (n : Int) < 0 by omega], (Off.refl _ _).drewN _⟩
            · have hb : bb = false := by rw [← HBB.out]; simp [hw]
              subst hb
              have hw2 : decide (x.ends ≤ now) = false := by simpa using hw
              go_quiet (fail)
              go_wp2_with fail
              go_meet
              exact ⟨by first | rfl | simp [hw], (Off.refl _ _).drewN _⟩
          case rest =>
            obtain ⟨hs50, hO6⟩ := hcut
            subst hs50
            have HO6 := Lib.hid (HO4.out.step hO6 (fun _ _ k => k))
            clear hO6 c4 d19
            have hvs := dmin_snoc (now := now) HX.out
            cases bb with
            | true =>
              have HV := Lib.hid (hvs.trans (dmin1_true HBB.out))
              clear hvs
              go_wp2_with fail
              exact ⟨⟨i + 1, hlt, by go_num, .inr ⟨i, x, rfl, HX.out, HV.out⟩, HO6.out⟩, by simp [intOf]; omega⟩
            | false =>
              have HV := Lib.hid (hvs.trans (dmin1_false HBB.out))
              clear hvs
              go_wp2_with fail
              refine ⟨⟨i + 1, hlt, by go_num, ?_, HO6.out⟩, by simp [intOf]; omega⟩
              unfold DueAt
              rw [HV.out]
              exact HDA.out
        · have q1 : ¬ (i : Int) < (M.length : Int) := by omega
          have hiL : i = M.length := by omega
          have HFin := Lib.hid (show DueAt now M M.length u6 ∧ Off (fun _ => False) wo wr from ⟨by rw [← hiL]; exact HDA.out, HO4.out⟩)
          clear hiL
          go_wp2_with fail
          go_meet
          exact HFin.out
    case rest =>
      obtain ⟨hda, hO4⟩ := hcut
      obtain ⟨w4, hw4⟩ : ∃ w4, w4 = wc := ⟨_, rfl⟩
      subst hw4
      have HO4 := Lib.hid hO4
      have H4 := Lib.hid (HH.out.off hO4 (fun _ _ k => k))
      have c4 : w4.cell? ⟨rb, 0, none⟩ = some (.slice a M.length cap) := H4.out.top.cell 0
      have hrow4 := ownsRow_off HRow.out hO4 (fun _ _ k => k)
      clear hO4 c0
      rw [DueAt, List.take_length] at hda
      rcases hda with ⟨hu6, hvn⟩ | ⟨n, x, hu6, hx, hvx⟩
      · subst hu6
        obtain ⟨h1, h2⟩ := dueF_none OkM.out hvn
        have HEnd := Lib.hid (show XDue rb g L now w (.returned u5) w4 from
          ⟨_, _, g', rfl, by rw [HDue.out.1, h1, List.append_nil]; exact hrow4, by rw [← HDue.out.2, h2]; exact H4.out, HO.out.step HO4.out (fun _ _ k => k.elim), HG.out⟩)
        clear h1 h2 hvn hrow4
        go_wp2_with fail
        go_ret
        exact HEnd.out
      · subst hu6
        obtain ⟨h0, h1, h2⟩ := dueF_some OkM.out hvx
        have HH1 := Lib.hid (And.intro h1 h2)
        obtain ⟨b, off, rfl, hg, hry⟩ := H4.out.row.at hx
        have e0 : w4.cell? ⟨b, off + n * 20, none⟩ = some (.int .i64 x.id) := hry 0 _ rfl
        have hnl : n < M.length := by
          rcases Nat.lt_or_ge n M.length with h' | h'
          · exact h'
          · rw [List.getElem?_eq_none h'] at hx; cases hx
        have p0 : (0 : Int) ≤ (n : Int) := by omega
        have p1 : (n : Int) < (M.length : Int) := by omega
        have p2 : ¬ (n : Int) < 0 := by omega
        have hdl := dropF_length OkM.out.ids h0
        have HX := Lib.hid hx
        have HG4 := Lib.hid hg
        have hpl : pre.length ≤ 48 := by omega
        have hsz4 : w.heap.size ≤ w4.heap.size := Nat.le_trans HO.out.size HO4.out.size
        have hlow : ∀ i, u5.ownBlock = some i → w.heap.size ≤ i := fun i e => (hrow4.lt i e).1
        have hrow5 := hrow4.alloc (.cells #[.int .i64 x.id] 3)
        have HLow := Lib.hid hlow
        have HRow4 := Lib.hid hrow4
        obtain ⟨a5, cap5, hv5, _⟩ := ownsRow_form hrow4
        have HV := Lib.hid hv5
        clear h0 h1 h2 hvx hx hry hg hlow hv5 hrow4
        go_wp2_with (first
          | (at_builtin; refine wpList_append_own _ rfl (.tmp 55) (.tmp 64) 45 rfl w.heap.size 3 i0 (.int .i64 0) 1 8 Try.underlying45 hi0 hz0 hz1 hz2 rfl (by decide) u5 _ _ rfl hrow5 ⟨w4.heap.size, 0, none⟩ 1 1 [.int .i64 x.id] rfl rfl (cell_one_new _ _ _) (fun u hu => by simp at hu; subst hu; rfl) (by unfold maxLen; omega) (by omega) (by simp; omega) ?_; intro v6 w6 hown6 hgrow6 hnn6; have HO6 := Lib.hid (show Off (fun i => some i = u5.ownBlock) w4 w6 from (((Off.refl (fun _ => False) w4).alloc (.cells #[.int .i64 x.id] 3)).mono (fun _ _ k => k.elim)).step (grown_off hgrow6) (fun i _ e => e)); have H6 := Lib.hid (H4.out.off HO6.out (by
              rintro i (rfl | hi) e
              · have := HLow.out i e.symm; omega
              · obtain ⟨cur, hcur⟩ := H4.out.row.blk i hi
                obtain ⟨cur', hcur'⟩ := ownsRow_blk HRow4.out e.symm
                exact blk_ne hcur hcur' (by decide) rfl)); have c6 : w6.cell? ⟨rb, 0, none⟩ = some (.slice (some ⟨b, off, none⟩) M.length cap) := H6.out.top.cell 0; obtain ⟨b', off', hbo, _, hry6⟩ := H6.out.row.at HX.out; simp only [Option.some.injEq, Addr.mk.injEq, and_true] at hbo; obtain ⟨rfl, rfl⟩ := hbo; have e6 : w6.cell? ⟨b, off + n * 20, none⟩ = some (.int .i64 x.id) := hry6 0 _ rfl; have HOwn6 := Lib.hid hown6; clear hnn6 hown6 hry6 hgrow6))
        refine (xdrop_any x.id H6.out OkM.out).mono ?_
        rintro e w7 ⟨v7, g7, b7, rfl, _, H7, hO7, hg7⟩
        have hown7 := ownsRow_off HOwn6.out hO7 (fun g'' hg'' e => by obtain ⟨cur, hb⟩ := ownsRow_blk HOwn6.out hg''; exact absurd e (blk_ne hb H6.out.top (by decide)))
        have hO06 := (HO.out.step HO4.out (fun _ _ k => k.elim)).step HO6.out (fun i hi e => by have := HLow.out i e.symm; omega)
        have HRel := Lib.hid (show XDueRel w rb g L now v6 w7 from ⟨pre ++ [x.id], dropF x.id M, v7, g7, by rw [HDue.out.1, HH1.out.1]; simp, by rw [HH1.out.2]; exact HDue.out.2, OkM.out.drop _, by simp; omega, by simpa using hown7, H7, hO06.trans hO7, by
          rcases hg7 with rfl | h
          · exact HG.out
          · exact .inr fun i hi => Nat.le_trans hO06.size (h i hi)⟩)
        have HLess := Lib.hid (RDue.less (N := L.length) HV.out (ownsRow_form HOwn6.out) (by omega))
        clear hown7 hO06 H7 hO7 hg7
        go_wp2_with fail
        exact ⟨HRel.out, HLess.out⟩
end Go.Proofs.Ytbkgjghbmafoeaa
