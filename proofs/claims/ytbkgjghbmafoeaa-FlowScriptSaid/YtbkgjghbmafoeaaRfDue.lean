/- The walk over the Due of the document's wheel, and its New. Conditions: the wheel lies whole in memory. -/
import Derived.Test.YtbkgjghbmafoeaaRfSet
namespace Go.Proofs.Ytbkgjghbmafoeaa
open Go.RowKit

theorem TRow.tail {w : World} {b off cap : Nat} {x : Tm} {M : List Tm} {g : Option Nat} (H : TRow w (.slice (some ⟨b, off, none⟩) (M.length + 1) cap) (x :: M) g) :
    TRow w (.slice (some ⟨b, off + 2, none⟩) M.length (cap - 1)) M g := by
  obtain ⟨⟨a, cap', hv, h1, h2, hc⟩, hb, hsh⟩ := H
  simp only [Value.slice.injEq] at hv
  obtain ⟨rfl, _, rfl⟩ := hv
  rw [List.length_cons] at h1
  refine ⟨⟨_, _, rfl, by omega, by omega, fun j u hu => ?_⟩, hb, .inr ⟨_, _, _, _, rfl⟩⟩
  obtain ⟨b', off', he, hg, hcell⟩ := hc (j + 2) u (by rw [tcells_cons]; exact hu)
  simp only [Option.some.injEq, Addr.mk.injEq, and_true] at he
  obtain ⟨rfl, rfl⟩ := he
  exact ⟨_, _, rfl, hg, by rw [Nat.add_assoc, Nat.add_comm 2 j]; exact hcell⟩

theorem TRow.end {w : World} {b off n cap : Nat} {x : Tm} {M : List Tm} {g : Option Nat} (H : TRow w (.slice (some ⟨b, off, none⟩) n cap) (x :: M) g) :
    TRow w (.slice (some ⟨b, off, none⟩) 0 0) [] g :=
  ⟨⟨_, _, rfl, Nat.le_refl _, Nat.zero_le _, fun j u hu => by simp [tcells] at hu⟩, H.blk, .inr ⟨_, _, _, _, rfl⟩⟩

def RDue (rb : Nat) (L : List Tm) (g : Option Nat) (now : Int) (w : World) (e : Ending) (w' : World) : Prop :=
  ∃ v v', e = .returned v ∧ w'.ownsRow w.heap.size 3 1 v (dueIds now L).length ((dueIds now L).map ik) ∧ RfAt w' rb v' g (dueRest now L) ∧ Off (· = rb) w w'

def RDueRel (W : World) (rb : Nat) (L : List Tm) (g : Option Nat) (now : Int) (ov : Value) (wr : World) : Prop :=
  ∃ (pre L' : List Tm) (v : Value), L = pre ++ L' ∧ (∀ x ∈ pre, isDue now x = true) ∧ wr.ownsRow W.heap.size 3 1 ov (pre.map (·.1)).length ((pre.map (·.1)).map ik) ∧ RfAt wr rb v g L' ∧ Off (· = rb) W wr

/-- The first one taken: what is left. -/
theorem RDueRel.next {W wr w4 w5 : World} {rb : Nat} {L pre M : List Tm} {x : Tm} {g : Option Nat} {now : Int} {ov v4 v v' : Value} (hL : L = pre ++ x :: M) (hpre : ∀ x ∈ pre, isDue now x = true) (hx : isDue now x = true)
    (hown : w4.ownsRow W.heap.size 3 1 v4 ((pre.map (·.1)).length + 1) ((pre.map (·.1)).map ik ++ [.int .i64 x.1])) (H : RfAt wr rb v g (x :: M)) (hT0 : TRow wr v' M g) (hO : Off (· = rb) W wr)
    (hrow : wr.ownsRow W.heap.size 3 1 ov (pre.map (·.1)).length ((pre.map (·.1)).map ik)) (hO4 : Off (fun i => some i = ov.ownBlock) wr w4) (hlow : ∀ i, some i = ov.ownBlock → W.heap.size ≤ i) (hrb : rb < W.heap.size) (hw : w5 = w4.setCell ⟨rb, 0, none⟩ v') :
    RDueRel W rb L g now v4 w5 := by
  have hT : TRow w4 v' M g := hT0.off hO4 (fun b' hb' e => by
    obtain ⟨cur, hcur⟩ := hT0.blk b' hb'
    obtain ⟨cur', hcur'⟩ := ownsRow_blk hrow e.symm
    exact blk_ne hcur hcur' (by decide) rfl)
  have hT4 : Blk w4 rb 60 #[v] := hO4.blk H.top (fun e => by have := hlow _ e; omega)
  have hO5 : Off (· = rb) w4 w5 := by rw [hw]; exact (Off.refl _ _).setAt 0 _
  refine ⟨pre ++ [x], M, v', by rw [hL]; simp, ?_, ?_, ⟨by rw [hw]; exact hT4.setCell 0 _, hT.off hO5 (fun b hb e => ?_), H.srt.sub (List.sublist_cons_self x M), by have := H.few; simp at this; omega⟩, ?_⟩
  · intro y hy
    rcases List.mem_append.1 hy with hy | hy
    · exact hpre y hy
    · rw [List.mem_singleton.1 hy]; exact hx
  · have h2 := ownsRow_off hown hO5 (fun g' hg' e => by obtain ⟨cur, hb⟩ := ownsRow_blk hown hg'; exact absurd e (blk_ne hb hT4 (by decide)))
    simpa using h2
  · obtain ⟨cur, hcur⟩ := hT.blk b hb
    exact blk_ne hcur hT4 (by decide) e
  · exact (hO.step hO4 (fun i hi e => by have := hlow i e; omega)).step hO5 (fun _ _ e => e)

def vlen : Value → Nat
  | .slice _ n _ => n
  | _ => 0

theorem RDue.less {n N cap5 : Nat} {a5 : Option Addr} {v u : Value} {P : Option Addr → Nat → Prop} (hu : u = .slice a5 n cap5) (hv : ∃ a c, v = .slice a (n + 1) c ∧ P a c) (hn : n < N) : N - vlen v < N - vlen u := by
  obtain ⟨a, c, rfl, _⟩ := hv
  subst hu
  simp only [vlen]
  omega

set_option maxRecDepth 100000 in
set_option maxHeartbeats 4000000 in
theorem rdue_any {w : World} {rb : Nat} {v : Value} {g : Option Nat} {L : List Tm} (now : Int) (H : RfAt w rb v g L) :
    Calls Try.prog 32 #[.pointer (some ⟨rb, 0, none⟩), .int .i64 now] w (RDue rb L g now w) := by
  obtain ⟨i0, hi0, hz0, hz1, hz2⟩ := info_parts Try.info3
  have hrbl := H.top.lt
  have hLl := H.few
  have hown0 := World.ownsRow_made w (e := 3) (size := 1) #[] 0 (Nat.le_refl _) (by decide) rfl
  go_enter Try.func32, Try.ntmps32
  go_wp2_with fail
  go_loopw [5] (RDueRel w rb L g now) (fun v _ => L.length - vlen v)
  case atStart => exact ⟨[], L, v, rfl, (fun x hx => nomatch hx), hown0, H.off ((Off.refl (fun _ => False) w).alloc _) (fun _ _ k => k), (Off.refl _ _).alloc _⟩
  case round =>
    clear H hown0
    obtain ⟨pre, L', v, hL, hpre, hrow, H, hO⟩ := hrel
    have hpl : (pre.map (·.1)).length ≤ 256 := by rw [List.length_map]; rw [hL, List.length_append] at hLl; omega
    have HL := Lib.hid hL
    clear hL
    obtain ⟨a, cap, hv, hcap, hcm, _⟩ := H.row.form
    subst hv
    unfold maxLen at hcm
    have c0 : wr.cell? ⟨rb, 0, none⟩ = some (.slice a L'.length cap) := H.top.cell 0
    cases L' with
    | nil =>
      have hfin := due_split (now := now) hpre (L' := []) (fun x M e => nomatch e)
      rw [← HL.out] at hfin
      have hend : RDue rb L g now w (.returned u5) wr := ⟨_, _, rfl, by rw [hfin.1]; exact hrow, by rw [hfin.2]; exact H, hO⟩
      clear hfin HL H hrow
      go_wp2_with fail
      go_ret
      exact hend
    | cons x M =>
      obtain ⟨b, off, rfl, hg, d0, d1⟩ := H.row.at (k := 0) (x := x) rfl
      clear hg
      rw [Nat.zero_mul, Nat.add_zero] at d0 d1
      have hMI : (0 : Int) < ((M.length + 1 : Nat) : Int) := by omega
      have hcI : (1 : Int) ≤ (cap : Int) := by simp at hcap; omega
      have hc1 : (1 : Int) ≤ ((M.length + 1 : Nat) : Int) := by omega
      rw [List.length_cons] at c0
      by_cases hle : x.2 ≤ now
      · have hdx : isDue now x = true := by simpa [isDue] using hle
        have hlow : ∀ i, some i = u5.ownBlock → w.heap.size ≤ i := fun i e => (hrow.lt i e.symm).1
        have hrow0 := hrow.alloc (.cells #[.int .i64 x.1] 3)
        have hT := H.row
        rw [List.length_cons] at hT
        have hlt : (pre.map (·.1)).length < L.length := by rw [HL.out]; simp
        obtain ⟨a5, cap5, hv5, _⟩ := ownsRow_form hrow
        have hsz := hO.size
        have HV := Lib.hid hv5
        clear hv5
        have hrbr := H.top.lt
        by_cases hc : cap = 1
        · subst hc
          have hM0 : M.length = 0 := by have := hcap; rw [List.length_cons] at this; omega
          obtain rfl : M = [] := List.eq_nil_of_length_eq_zero hM0
          simp only [List.length_nil] at *
          go_wp2_with (first
            | (at_builtin; refine wpList_append_own _ rfl (.tmp 24) (.tmp 32) 45 rfl w.heap.size 3 i0 (.int .i64 0) 1 8 Try.underlying45 hi0 hz0 hz1 hz2 rfl (by decide) u5 _ _ rfl hrow0 ⟨wr.heap.size, 0, none⟩ 1 1 [.int .i64 x.1] rfl rfl (cell_one_new _ _ _) (fun u hu => by simp at hu; subst hu; rfl) (by unfold maxLen; omega) (by omega) (by simp; omega) ?_; intro v4 w4 hown4 hgrow4 hnn4; have hO4 : Off (fun i => some i = u5.ownBlock) wr w4 := (((Off.refl (fun _ => False) wr).alloc (.cells #[.int .i64 x.1] 3)).mono (fun _ _ k => k.elim)).step (grown_off hgrow4) (fun i _ e => e); have hT4 := hO4.blk H.top (fun e => by have := hlow _ e; omega); have c4 : w4.cell? ⟨rb, 0, none⟩ = some (.slice (some ⟨b, off, none⟩) 1 1) := hT4.cell 0; have cf4 : w4.frozen? ⟨rb, 0, none⟩ = false := hT4.free 0; clear hnn4))
          exact ⟨RDueRel.next HL.out hpre hdx hown4 H hT.end hO hrow hO4 hlow hrbl rfl, RDue.less HV.out (ownsRow_form hown4) hlt⟩
        · go_wp2_with (first
            | (at_builtin; refine wpList_append_own _ rfl (.tmp 24) (.tmp 32) 45 rfl w.heap.size 3 i0 (.int .i64 0) 1 8 Try.underlying45 hi0 hz0 hz1 hz2 rfl (by decide) u5 _ _ rfl hrow0 ⟨wr.heap.size, 0, none⟩ 1 1 [.int .i64 x.1] rfl rfl (cell_one_new _ _ _) (fun u hu => by simp at hu; subst hu; rfl) (by unfold maxLen; omega) (by omega) (by simp; omega) ?_; intro v4 w4 hown4 hgrow4 hnn4; have hO4 : Off (fun i => some i = u5.ownBlock) wr w4 := (((Off.refl (fun _ => False) wr).alloc (.cells #[.int .i64 x.1] 3)).mono (fun _ _ k => k.elim)).step (grown_off hgrow4) (fun i _ e => e); have hT4 := hO4.blk H.top (fun e => by have := hlow _ e; omega); have c4 : w4.cell? ⟨rb, 0, none⟩ = some (.slice (some ⟨b, off, none⟩) (M.length + 1) cap) := hT4.cell 0; have cf4 : w4.frozen? ⟨rb, 0, none⟩ = false := hT4.free 0; clear hnn4))
          exact ⟨RDueRel.next HL.out hpre hdx hown4 H hT.tail hO hrow hO4 hlow hrbl rfl, RDue.less HV.out (ownsRow_form hown4) hlt⟩
      · have hfin := due_split (now := now) hpre (L' := x :: M) (fun y M' e => by
          simp only [List.cons.injEq] at e
          rw [← e.1]; simpa [isDue] using hle)
        rw [← HL.out] at hfin
        have hend : RDue rb L g now w (.returned u5) wr := ⟨_, _, rfl, by rw [hfin.1]; exact hrow, by rw [hfin.2]; exact H, hO⟩
        clear hfin HL H hrow
        go_wp2_with fail
        go_ret
        exact hend
end Go.Proofs.Ytbkgjghbmafoeaa
