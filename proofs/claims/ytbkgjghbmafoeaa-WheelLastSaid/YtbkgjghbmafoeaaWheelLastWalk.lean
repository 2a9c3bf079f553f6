/- The walk over WheelLast: it returns true and writes nothing that was there. Conditions: the slices' elements are ints. -/
import Derived.Test.YtbkgjghbmafoeaaWheelDue
import Derived.Test.YtbkgjghbmafoeaaIn
namespace Go.Proofs.Ytbkgjghbmafoeaa
open Go.RowKit

theorem below_off {B : Nat} {w a a' : World} {S : Nat → Prop} (h : Below B w a) (k : Off S a a') (hB : B ≤ w.heap.size) (hS : ∀ i, i < B → ¬ S i) : Below B w a' :=
  h.trans (k.below (Nat.le_trans hB h.size) hS)

def Has (L : List Tm) (id : Int) : Prop := ∃ y ∈ L, y.1 = id

theorem has_ins {L : List Tm} {id t : Int} (i : Int) : Has (ins (id, t) (del id L)) i ↔ i = id ∨ Has L i := by
  unfold Has
  constructor
  · rintro ⟨y, hy, rfl⟩
    rcases mem_ins.1 hy with rfl | hy
    · exact .inl rfl
    · exact .inr ⟨y, (mem_del.1 hy).1, rfl⟩
  · rintro (rfl | ⟨y, hy, rfl⟩)
    · exact ⟨_, mem_ins.2 (.inl rfl), rfl⟩
    · by_cases hid : y.1 = id
      · exact ⟨_, mem_ins.2 (.inl rfl), hid.symm⟩
      · exact ⟨y, mem_ins.2 (.inr (mem_del.2 ⟨hy, hid⟩)), rfl⟩

theorem has_del {L : List Tm} {id : Int} (i : Int) : Has (del id L) i ↔ i ≠ id ∧ Has L i := by
  unfold Has
  constructor
  · rintro ⟨y, hy, rfl⟩; exact ⟨(mem_del.1 hy).2, y, (mem_del.1 hy).1, rfl⟩
  · rintro ⟨h, y, hy, rfl⟩; exact ⟨y, mem_del.2 ⟨hy, h⟩, rfl⟩

theorem ins_del_length {L : List Tm} {id t : Int} : (ins (id, t) (del id L)).length ≤ L.length + 1 := by
  rw [ins_length]; exact Nat.succ_le_succ (List.length_filter_le _ _)

theorem setR_few {L L' : List Tm} {id t e : Int} (h : SetR L id t L' e) (hl : L.length < 256) : e = 0 ∧ L' = ins (id, t) (del id L) := by
  rcases h with ⟨_, h1, h2⟩ | ⟨_, h, _⟩
  · exact ⟨h2, h1⟩
  · omega

def LastRel1 (W : World) (wb m : Nat) (zs : List Int) (i : Value) (wr : World) : Prop :=
  ∃ (k : Nat) (S : Nat → Prop) (L : List Tm), k ≤ m ∧ i = .int .i64 k ∧ Whl wr wb S L ∧ (∀ i, S i → W.heap.size ≤ i) ∧ Below W.heap.size W wr ∧ L.length ≤ k ∧ ∀ id, Has L id ↔ ∃ j, j < k ∧ zs.getD j 0 = id

def LastRel2 (W : World) (wb len m : Nat) (zs : List Int) (i : Value) (wr : World) : Prop :=
  ∃ (t : Nat) (S : Nat → Prop) (L : List Tm), t ≤ len ∧ i = .int .i64 ((t : Int) - 1) ∧ Whl wr wb S L ∧ (∀ i, S i → W.heap.size ≤ i) ∧ Below W.heap.size W wr ∧
    ∀ id, Has L id ↔ (∃ j, j < m ∧ zs.getD j 0 = id) ∧ ¬ ∃ j, t ≤ j ∧ j < m ∧ zs.getD j 0 = id

def LastRel3 (W : World) (m t : Nat) (zs : List Int) (lv kv : Value) (wr : World) : Prop :=
  ∃ (q : Nat) (b : Bool), t ≤ q ∧ q ≤ max t m ∧ kv = .int .i64 q ∧ lv = .bool b ∧ Off (fun _ => False) W wr ∧ (b = true ↔ ∃ j, t ≤ j ∧ j < q ∧ zs.getD j 0 = zs.getD (t - 1) 0)

set_option maxRecDepth 100000 in
set_option maxHeartbeats 4000000 in
theorem last_walk (a : Option Addr) (len cap : Nat) (zs : List Int) (a' : Option Addr) (len' cap' : Nat) (us : List Int) (w : World) (hin : Ints .i64 w a len (-9223372036854775808) 9223372036854775807 zs) (hin' : Ints .i64 w a' len' (-9223372036854775808) 9223372036854775807 us)
    (hlen : len ≤ 9223372036854775807) (hlen' : len' ≤ 9223372036854775807) :
    Calls Try.prog 6 #[.slice a len cap, .slice a' len' cap'] w fun e w' => e = .returned (.bool true) ∧ Below w.heap.size w w' := by
  by_cases hbig : 200 < len
  · go_enter Try.func6, Try.ntmps6
    go_wp2
    go_ret
    exact ⟨rfl, Below.refl _ _⟩
  obtain ⟨m, hm⟩ : ∃ m, min len len' = m := ⟨_, rfl⟩
  have hm1 : m ≤ len := by omega
  have hm2 : m ≤ len' := by omega
  have hm3 : m = len ∨ m = len' := by omega
  clear hm
  go_enter Try.func6, Try.ntmps6
  go_wp2_with fail
  refine (wnew_any w).mono ?_
  rintro e w1 ⟨wb, S1, rfl, hW1, hS1, _, hO1⟩
  have hbel1 := hO1.below (Nat.le_refl _) (fun _ _ h => h)
  go_wp2_with fail
  go_loopw [6] (LastRel1 w wb m zs) (fun i _ => m - (intOf i).toNat)
  case atStart => exact ⟨0, S1, [], Nat.zero_le _, rfl, hW1, hS1, hbel1, Nat.le_refl _, fun id => ⟨fun ⟨y, hy, _⟩ => by (cases hy), fun ⟨j, hj, _⟩ => by omega⟩⟩
  case round =>
    clear hW1 hS1 hbel1 hO1
    obtain ⟨k, S, L, hk, rfl, hW, hS, hbel, hLk, hHas⟩ := hrel
    by_cases hlt : k < m
    · have q1 : (k : Int) < (len : Int) := by omega
      have q2 : (k : Int) < (len' : Int) := by omega
      have q0 : (0 : Int) ≤ (k : Int) := by omega
      obtain ⟨bx, off, rfl, hbx, hc0, _, _⟩ := hin.2 k (by omega)
      obtain ⟨by_, off', rfl, hby, hc0', _, _⟩ := hin'.2 k (by omega)
      have hc := (hbel.cell (p := ⟨bx, off + k, none⟩) hbx).trans hc0
      have hc' := (hbel.cell (p := ⟨by_, off' + k, none⟩) hby).trans hc0'
      clear hc0 hc0'
      obtain ⟨z, hz⟩ : ∃ z, zs.getD k 0 = z := ⟨_, rfl⟩
      obtain ⟨u, hu⟩ : ∃ u, us.getD k 0 = u := ⟨_, rfl⟩
      rw [hz] at hc
      rw [hu] at hc'
      have HZ := Lib.hid hz
      clear hz hu
      have hbxr := Nat.lt_of_lt_of_le hbx hbel.size
      have hbyr := Nat.lt_of_lt_of_le hby hbel.size
      go_wp2_with fail
      go_region_held3 (fun w' => w'.cell? ⟨bx, off + k, none⟩ = some (.int .i64 z) ∧ w'.cell? ⟨by_, off' + k, none⟩ = some (.int .i64 u)) (first | exact ⟨hc, hc'⟩ | exact ⟨d1, d2⟩)
        (first | (go_at_call 28; refine (wset_any z u (hW.off ((Off.refl (fun _ => False) wr).drew) (fun _ _ k => k))).mono ?_; rintro e w2 ⟨S2, L2, er, rfl, hSR, hW2, hO2, hS2⟩; obtain ⟨rfl, rfl⟩ := setR_few hSR (by omega); have d1 := (hO2.cell (p := ⟨bx, off + k, none⟩) hbxr (fun k => by have := hS bx k; omega)).trans hc; have d2 := (hO2.cell (p := ⟨by_, off' + k, none⟩) hbyr (fun k => by have := hS by_ k; omega)).trans hc'))
      have hbel2 := below_off hbel.drew hO2 (Nat.le_refl _) (fun i hi k => by have := hS i k; omega)
      have hwr := hbel.size
      have hS2' : ∀ i, S2 i → w.heap.size ≤ i := fun i k => (hS2 i k).elim (hS i) (fun k => by simp at k; omega)
      go_wp2
      refine ⟨⟨k + 1, S2, _, by omega, by go_num, hW2, hS2', hbel2, Nat.le_trans ins_del_length (by omega), fun id => ?_⟩, by simp [intOf]; omega⟩
      rw [has_ins, hHas]
      constructor
      · rintro (rfl | ⟨j, hj, h⟩)
        · exact ⟨k, by omega, HZ.out⟩
        · exact ⟨j, by omega, h⟩
      · rintro ⟨j, hj, h⟩
        by_cases hjk : j = k
        · subst hjk; left; rw [← h, HZ.out]
        · right; exact ⟨j, by omega, h⟩
    · have hkm : m = k := by omega
      subst hkm
      by_cases hkl : m < len
      · have q1 : (m : Int) < (len : Int) := by omega
        have q2 : ¬ (m : Int) < (len' : Int) := by omega
        go_wp2_with fail
        have hbl : (len : Int) ≤ 200 := by omega
        go_loopw [7] (LastRel2 w wb len m zs) (fun i _ => (intOf i + 1).toNat)
        case atStart =>
          refine ⟨len, S, L, Nat.le_refl _, by go_num, hW, hS, hbel, fun id => ?_⟩
          rw [hHas id]
          constructor
          · exact fun h => ⟨h, fun ⟨j, h1, h2, _⟩ => by omega⟩
          · exact fun h => h.1
        case round =>
          clear hW hS hbel hHas hLk
          obtain ⟨t, S, L, ht, rfl, hW, hS, hbel, hHas⟩ := hrel
          cases t with
          | zero =>
            have hL : L = [] := by
              cases L with
              | nil => rfl
              | cons y M =>
                obtain ⟨h1, h2⟩ := (hHas y.1).1 ⟨y, List.mem_cons_self, rfl⟩
                exact absurd (by obtain ⟨j, hj, e⟩ := h1; exact ⟨j, Nat.zero_le _, hj, e⟩) h2
            subst hL
            go_wp2_with fail
            refine (wlen_any hW).mono ?_
            rintro e w3 ⟨rfl, rfl⟩
            go_wp2_with fail
            refine (wdue_any 9223372036854775807 hW).mono ?_
            rintro e w4 ⟨S4, v4, rfl, hrow4, hW4, hO4, hS4⟩
            obtain ⟨a4, cap4, hv4, _⟩ := ownsRow_form hrow4
            have hbel4 := below_off hbel hO4 (Nat.le_refl _) (fun i hi k => by have := hS i k; omega)
            have hv4' : v4 = .slice a4 0 cap4 := hv4
            subst hv4'
            clear hrow4 hv4
            go_wp2_with fail
            go_ret
            exact ⟨rfl, hbel4⟩
          | succ i =>
            have hi1 : ((i + 1 : Nat) : Int) - 1 = (i : Int) := by omega
            have hi2 : (i : Int) ≤ 200 := by omega
            have hi0 : (0 : Int) ≤ (i : Int) := by omega
            have hil : (i : Int) < (len : Int) := by omega
            rw [hi1]
            by_cases hge : i < len'
            · have hgI : ¬ (len' : Int) ≤ (i : Int) := by omega
              have him : i < m := by omega
              obtain ⟨bx, off, rfl, hbx, hc0, _, _⟩ := hin.2 i (by omega)
              have hc := (hbel.cell (p := ⟨bx, off + i, none⟩) hbx).trans hc0
              clear hc0
              obtain ⟨z, hz⟩ : ∃ z, zs.getD i 0 = z := ⟨_, rfl⟩
              rw [hz] at hc
              have hbxr := Nat.lt_of_lt_of_le hbx hbel.size
              go_wp2_with fail
              go_loopw [8, 9] (LastRel3 wr m (i + 1) zs) (fun _ q _ => m - (intOf q).toNat)
              case atStart =>
                refine ⟨i + 1, false, Nat.le_refl _, by omega, by go_num, rfl, Off.refl _ _, ?_⟩
                constructor
                · intro h; cases h
                · rintro ⟨j, h1, h2, _⟩; omega
              case round =>
                obtain ⟨q, b, hq1, hq2, rfl, rfl, hO, hb⟩ := hrel
                rw [Nat.add_sub_cancel, hz] at hb
                have hq3 : (q : Int) ≤ 200 := by omega
                have hq0 : (0 : Int) ≤ (q : Int) := by omega
                have hcr := (hO.cell (p := ⟨bx, off + i, none⟩) hbxr id).trans hc
                by_cases hqm : q < m
                · have p1 : (q : Int) < (len : Int) := by omega
                  have p2 : (q : Int) < (len' : Int) := by omega
                  obtain ⟨bx', off', hbo, hbx', hcq0, _, _⟩ := hin.2 q (by omega)
                  simp only [Option.some.injEq, Addr.mk.injEq, and_true] at hbo
                  obtain ⟨rfl, rfl⟩ := hbo
                  have hcq := (hO.cell (p := ⟨bx, off + q, none⟩) hbxr id).trans ((hbel.cell (p := ⟨bx, off + q, none⟩) hbx').trans hcq0)
                  clear hcq0
                  obtain ⟨y, hy⟩ : ∃ y, zs.getD q 0 = y := ⟨_, rfl⟩
                  rw [hy] at hcq
                  have hnext : ∀ b', (b' = true ↔ (b = true ∨ y = z)) → (b' = true ↔ ∃ j, i + 1 ≤ j ∧ j < q + 1 ∧ zs.getD j 0 = zs.getD (i + 1 - 1) 0) := by
                    intro b' hb'
                    rw [Nat.add_sub_cancel, hz, hb', hb]
                    constructor
                    · rintro (⟨j, h1, h2, h3⟩ | h)
                      · exact ⟨j, h1, by omega, h3⟩
                      · exact ⟨q, hq1, by omega, by rw [hy, h]⟩
                    · rintro ⟨j, h1, h2, h3⟩
                      by_cases hjq : j = q
                      · subst hjq; right; rw [← hy, h3]
                      · left; exact ⟨j, h1, by omega, h3⟩
                  have HN := Lib.hid hnext
                  clear hnext hb hy hz hHas
                  cases b with
                  | true =>
                    have hfin := Lib.hid (HN.out true (by simp))
                    go_wp2_with fail
                    go_quiet (fail)
                    go_wp2
                    exact ⟨⟨q + 1, true, by omega, by omega, by go_num, rfl, hO.drewN _, by simpa using hfin.out⟩, by simp [intOf]; omega⟩
                  | false =>
                    cases hyz : (y == z) with
                    | true =>
                      have hfin := Lib.hid (HN.out true (by simp at hyz; simp [hyz]))
                      go_wp2_with fail
                      go_quiet (fail)
                      go_wp2
                      exact ⟨⟨q + 1, true, by omega, by omega, by go_num, rfl, hO.drewN _, by simpa using hfin.out⟩, by simp [intOf]; omega⟩
                    | false =>
                      have hfin := Lib.hid (HN.out false (by simp at hyz; simp [hyz]))
                      go_wp2_with fail
                      go_quiet (fail)
                      go_wp2
                      exact ⟨⟨q + 1, false, by omega, by omega, by go_num, rfl, hO.drewN _, by simpa using hfin.out⟩, by simp [intOf]; omega⟩
                · have hqm' : q = m := by omega
                  have hW2 := hW.off hO (fun _ _ k => k)
                  have hbel2 := below_off hbel hO (Nat.le_refl _) (fun _ _ k => k)
                  have hHz := hHas z
                  have hpres : (Has L z ∧ b = false) ∨ ((∀ y ∈ L, y.1 ≠ z) ∧ b = true) := by
                    cases b with
                    | true =>
                      right
                      refine ⟨fun y hy e => ?_, rfl⟩
                      obtain ⟨j, h1, h2, h3⟩ := hb.1 rfl
                      exact (hHz.1 ⟨y, hy, e⟩).2 ⟨j, h1, by omega, h3⟩
                    | false =>
                      left
                      refine ⟨hHz.2 ⟨⟨i, him, hz⟩, fun ⟨j, h1, h2, h3⟩ => ?_⟩, rfl⟩
                      have := hb.2 ⟨j, h1, by omega, h3⟩
                      cases this
                  have hnext : ∀ id, Has (del z L) id ↔ (∃ j, j < m ∧ zs.getD j 0 = id) ∧ ¬ ∃ j, i ≤ j ∧ j < m ∧ zs.getD j 0 = id := fun id => by
                    rw [has_del, hHas id]
                    constructor
                    · rintro ⟨h1, h2, h3⟩
                      refine ⟨h2, fun ⟨j, h4, h5, h6⟩ => ?_⟩
                      by_cases hji : j = i
                      · subst hji; exact h1 (by rw [← h6, hz])
                      · exact h3 ⟨j, by omega, h5, h6⟩
                    · rintro ⟨h2, h3⟩
                      exact ⟨fun e => h3 ⟨i, Nat.le_refl _, him, by rw [hz, e]⟩, h2, fun ⟨j, h4, h5, h6⟩ => h3 ⟨j, by omega, h5, h6⟩⟩
                  have HN := Lib.hid hnext
                  clear hnext hHz hHas hb hz hW hbel
                  subst hqm'
                  by_cases hql : q < len
                  · have p1 : (q : Int) < (len : Int) := by omega
                    have p2 : ¬ (q : Int) < (len' : Int) := by omega
                    first
                      | (exfalso; omega)
                      | skip
                        go_wp2_with fail
                        refine (wdrop_any z hW2).mono ?_
                        rintro e w5 ⟨S5, L5, b5, rfl, ⟨rfl, hb5⟩, hW5, hO5, hS5⟩
                        have hbel5 := below_off hbel2 hO5 (Nat.le_refl _) (fun i hi k => by have := hS i k; omega)
                        rcases hpres with ⟨h1, rfl⟩ | ⟨h1, rfl⟩
                        · rcases hb5 with ⟨rfl, h2⟩ | ⟨rfl, h2⟩
                          · clear h1 h2
                            go_wp2
                            exact ⟨⟨i, S5, _, by omega, by go_num, hW5, fun k hk => hS k (hS5 k hk), hbel5, HN.out⟩, by simp [intOf]⟩
                          · obtain ⟨y, hy, e⟩ := h1; exact absurd e (h2 y hy)
                        · rcases hb5 with ⟨rfl, h2⟩ | ⟨rfl, h2⟩
                          · obtain ⟨y, hy, e⟩ := h2; exact absurd e (h1 y hy)
                          · clear h1 h2
                            go_wp2
                            exact ⟨⟨i, S5, _, by omega, by go_num, hW5, fun k hk => hS k (hS5 k hk), hbel5, HN.out⟩, by simp [intOf]⟩
                  · have p1 : ¬ (q : Int) < (len : Int) := by omega
                    first
                      | (exfalso; omega)
                      | skip
                        go_wp2_with fail
                        refine (wdrop_any z hW2).mono ?_
                        rintro e w5 ⟨S5, L5, b5, rfl, ⟨rfl, hb5⟩, hW5, hO5, hS5⟩
                        have hbel5 := below_off hbel2 hO5 (Nat.le_refl _) (fun i hi k => by have := hS i k; omega)
                        rcases hpres with ⟨h1, rfl⟩ | ⟨h1, rfl⟩
                        · rcases hb5 with ⟨rfl, h2⟩ | ⟨rfl, h2⟩
                          · clear h1 h2
                            go_wp2
                            exact ⟨⟨i, S5, _, by omega, by go_num, hW5, fun k hk => hS k (hS5 k hk), hbel5, HN.out⟩, by simp [intOf]⟩
                          · obtain ⟨y, hy, e⟩ := h1; exact absurd e (h2 y hy)
                        · rcases hb5 with ⟨rfl, h2⟩ | ⟨rfl, h2⟩
                          · obtain ⟨y, hy, e⟩ := h2; exact absurd e (h1 y hy)
                          · clear h1 h2
                            go_wp2
                            exact ⟨⟨i, S5, _, by omega, by go_num, hW5, fun k hk => hS k (hS5 k hk), hbel5, HN.out⟩, by simp [intOf]⟩
            · have hgI : (len' : Int) ≤ (i : Int) := by omega
              go_wp2
              refine ⟨⟨i, S, L, by omega, by go_num, hW, hS, hbel, fun id => ?_⟩, by simp [intOf]⟩
              rw [hHas id]
              constructor
              · rintro ⟨h1, h2⟩; exact ⟨h1, fun ⟨j, h3, h4, _⟩ => by omega⟩
              · rintro ⟨h1, h2⟩; exact ⟨h1, fun ⟨j, h3, h4, _⟩ => by omega⟩
      · have q1 : ¬ (m : Int) < (len : Int) := by omega
        go_wp2_with fail
        have hbl : (len : Int) ≤ 200 := by omega
        go_loopw [7] (LastRel2 w wb len m zs) (fun i _ => (intOf i + 1).toNat)
        case atStart =>
          refine ⟨len, S, L, Nat.le_refl _, by go_num, hW, hS, hbel, fun id => ?_⟩
          rw [hHas id]
          constructor
          · exact fun h => ⟨h, fun ⟨j, h1, h2, _⟩ => by omega⟩
          · exact fun h => h.1
        case round =>
          clear hW hS hbel hHas hLk
          obtain ⟨t, S, L, ht, rfl, hW, hS, hbel, hHas⟩ := hrel
          cases t with
          | zero =>
            have hL : L = [] := by
              cases L with
              | nil => rfl
              | cons y M =>
                obtain ⟨h1, h2⟩ := (hHas y.1).1 ⟨y, List.mem_cons_self, rfl⟩
                exact absurd (by obtain ⟨j, hj, e⟩ := h1; exact ⟨j, Nat.zero_le _, hj, e⟩) h2
            subst hL
            go_wp2_with fail
            refine (wlen_any hW).mono ?_
            rintro e w3 ⟨rfl, rfl⟩
            go_wp2_with fail
            refine (wdue_any 9223372036854775807 hW).mono ?_
            rintro e w4 ⟨S4, v4, rfl, hrow4, hW4, hO4, hS4⟩
            obtain ⟨a4, cap4, hv4, _⟩ := ownsRow_form hrow4
            have hbel4 := below_off hbel hO4 (Nat.le_refl _) (fun i hi k => by have := hS i k; omega)
            have hv4' : v4 = .slice a4 0 cap4 := hv4
            subst hv4'
            clear hrow4 hv4
            go_wp2_with fail
            go_ret
            exact ⟨rfl, hbel4⟩
          | succ i =>
            have hi1 : ((i + 1 : Nat) : Int) - 1 = (i : Int) := by omega
            have hi2 : (i : Int) ≤ 200 := by omega
            have hi0 : (0 : Int) ≤ (i : Int) := by omega
            have hil : (i : Int) < (len : Int) := by omega
            rw [hi1]
            by_cases hge : i < len'
            · have hgI : ¬ (len' : Int) ≤ (i : Int) := by omega
              have him : i < m := by omega
              obtain ⟨bx, off, rfl, hbx, hc0, _, _⟩ := hin.2 i (by omega)
              have hc := (hbel.cell (p := ⟨bx, off + i, none⟩) hbx).trans hc0
              clear hc0
              obtain ⟨z, hz⟩ : ∃ z, zs.getD i 0 = z := ⟨_, rfl⟩
              rw [hz] at hc
              have hbxr := Nat.lt_of_lt_of_le hbx hbel.size
              go_wp2_with fail
              go_loopw [8, 9] (LastRel3 wr m (i + 1) zs) (fun _ q _ => m - (intOf q).toNat)
              case atStart =>
                refine ⟨i + 1, false, Nat.le_refl _, by omega, by go_num, rfl, Off.refl _ _, ?_⟩
                constructor
                · intro h; cases h
                · rintro ⟨j, h1, h2, _⟩; omega
              case round =>
                obtain ⟨q, b, hq1, hq2, rfl, rfl, hO, hb⟩ := hrel
                rw [Nat.add_sub_cancel, hz] at hb
                have hq3 : (q : Int) ≤ 200 := by omega
                have hq0 : (0 : Int) ≤ (q : Int) := by omega
                have hcr := (hO.cell (p := ⟨bx, off + i, none⟩) hbxr id).trans hc
                by_cases hqm : q < m
                · have p1 : (q : Int) < (len : Int) := by omega
                  have p2 : (q : Int) < (len' : Int) := by omega
                  obtain ⟨bx', off', hbo, hbx', hcq0, _, _⟩ := hin.2 q (by omega)
                  simp only [Option.some.injEq, Addr.mk.injEq, and_true] at hbo
                  obtain ⟨rfl, rfl⟩ := hbo
                  have hcq := (hO.cell (p := ⟨bx, off + q, none⟩) hbxr id).trans ((hbel.cell (p := ⟨bx, off + q, none⟩) hbx').trans hcq0)
                  clear hcq0
                  obtain ⟨y, hy⟩ : ∃ y, zs.getD q 0 = y := ⟨_, rfl⟩
                  rw [hy] at hcq
                  have hnext : ∀ b', (b' = true ↔ (b = true ∨ y = z)) → (b' = true ↔ ∃ j, i + 1 ≤ j ∧ j < q + 1 ∧ zs.getD j 0 = zs.getD (i + 1 - 1) 0) := by
                    intro b' hb'
                    rw [Nat.add_sub_cancel, hz, hb', hb]
                    constructor
                    · rintro (⟨j, h1, h2, h3⟩ | h)
                      · exact ⟨j, h1, by omega, h3⟩
                      · exact ⟨q, hq1, by omega, by rw [hy, h]⟩
                    · rintro ⟨j, h1, h2, h3⟩
                      by_cases hjq : j = q
                      · subst hjq; right; rw [← hy, h3]
                      · left; exact ⟨j, h1, by omega, h3⟩
                  have HN := Lib.hid hnext
                  clear hnext hb hy hz hHas
                  cases b with
                  | true =>
                    have hfin := Lib.hid (HN.out true (by simp))
                    go_wp2_with fail
                    go_quiet (fail)
                    go_wp2
                    exact ⟨⟨q + 1, true, by omega, by omega, by go_num, rfl, hO.drewN _, by simpa using hfin.out⟩, by simp [intOf]; omega⟩
                  | false =>
                    cases hyz : (y == z) with
                    | true =>
                      have hfin := Lib.hid (HN.out true (by simp at hyz; simp [hyz]))
                      go_wp2_with fail
                      go_quiet (fail)
                      go_wp2
                      exact ⟨⟨q + 1, true, by omega, by omega, by go_num, rfl, hO.drewN _, by simpa using hfin.out⟩, by simp [intOf]; omega⟩
                    | false =>
                      have hfin := Lib.hid (HN.out false (by simp at hyz; simp [hyz]))
                      go_wp2_with fail
                      go_quiet (fail)
                      go_wp2
                      exact ⟨⟨q + 1, false, by omega, by omega, by go_num, rfl, hO.drewN _, by simpa using hfin.out⟩, by simp [intOf]; omega⟩
                · have hqm' : q = m := by omega
                  have hW2 := hW.off hO (fun _ _ k => k)
                  have hbel2 := below_off hbel hO (Nat.le_refl _) (fun _ _ k => k)
                  have hHz := hHas z
                  have hpres : (Has L z ∧ b = false) ∨ ((∀ y ∈ L, y.1 ≠ z) ∧ b = true) := by
                    cases b with
                    | true =>
                      right
                      refine ⟨fun y hy e => ?_, rfl⟩
                      obtain ⟨j, h1, h2, h3⟩ := hb.1 rfl
                      exact (hHz.1 ⟨y, hy, e⟩).2 ⟨j, h1, by omega, h3⟩
                    | false =>
                      left
                      refine ⟨hHz.2 ⟨⟨i, him, hz⟩, fun ⟨j, h1, h2, h3⟩ => ?_⟩, rfl⟩
                      have := hb.2 ⟨j, h1, by omega, h3⟩
                      cases this
                  have hnext : ∀ id, Has (del z L) id ↔ (∃ j, j < m ∧ zs.getD j 0 = id) ∧ ¬ ∃ j, i ≤ j ∧ j < m ∧ zs.getD j 0 = id := fun id => by
                    rw [has_del, hHas id]
                    constructor
                    · rintro ⟨h1, h2, h3⟩
                      refine ⟨h2, fun ⟨j, h4, h5, h6⟩ => ?_⟩
                      by_cases hji : j = i
                      · subst hji; exact h1 (by rw [← h6, hz])
                      · exact h3 ⟨j, by omega, h5, h6⟩
                    · rintro ⟨h2, h3⟩
                      exact ⟨fun e => h3 ⟨i, Nat.le_refl _, him, by rw [hz, e]⟩, h2, fun ⟨j, h4, h5, h6⟩ => h3 ⟨j, by omega, h5, h6⟩⟩
                  have HN := Lib.hid hnext
                  clear hnext hHz hHas hb hz hW hbel
                  subst hqm'
                  by_cases hql : q < len
                  · have p1 : (q : Int) < (len : Int) := by omega
                    have p2 : ¬ (q : Int) < (len' : Int) := by omega
                    first
                      | (exfalso; omega)
                      | skip
                        go_wp2_with fail
                        refine (wdrop_any z hW2).mono ?_
                        rintro e w5 ⟨S5, L5, b5, rfl, ⟨rfl, hb5⟩, hW5, hO5, hS5⟩
                        have hbel5 := below_off hbel2 hO5 (Nat.le_refl _) (fun i hi k => by have := hS i k; omega)
                        rcases hpres with ⟨h1, rfl⟩ | ⟨h1, rfl⟩
                        · rcases hb5 with ⟨rfl, h2⟩ | ⟨rfl, h2⟩
                          · clear h1 h2
                            go_wp2
                            exact ⟨⟨i, S5, _, by omega, by go_num, hW5, fun k hk => hS k (hS5 k hk), hbel5, HN.out⟩, by simp [intOf]⟩
                          · obtain ⟨y, hy, e⟩ := h1; exact absurd e (h2 y hy)
                        · rcases hb5 with ⟨rfl, h2⟩ | ⟨rfl, h2⟩
                          · obtain ⟨y, hy, e⟩ := h2; exact absurd e (h1 y hy)
                          · clear h1 h2
                            go_wp2
                            exact ⟨⟨i, S5, _, by omega, by go_num, hW5, fun k hk => hS k (hS5 k hk), hbel5, HN.out⟩, by simp [intOf]⟩
                  · have p1 : ¬ (q : Int) < (len : Int) := by omega
                    first
                      | (exfalso; omega)
                      | skip
                        go_wp2_with fail
                        refine (wdrop_any z hW2).mono ?_
                        rintro e w5 ⟨S5, L5, b5, rfl, ⟨rfl, hb5⟩, hW5, hO5, hS5⟩
                        have hbel5 := below_off hbel2 hO5 (Nat.le_refl _) (fun i hi k => by have := hS i k; omega)
                        rcases hpres with ⟨h1, rfl⟩ | ⟨h1, rfl⟩
                        · rcases hb5 with ⟨rfl, h2⟩ | ⟨rfl, h2⟩
                          · clear h1 h2
                            go_wp2
                            exact ⟨⟨i, S5, _, by omega, by go_num, hW5, fun k hk => hS k (hS5 k hk), hbel5, HN.out⟩, by simp [intOf]⟩
                          · obtain ⟨y, hy, e⟩ := h1; exact absurd e (h2 y hy)
                        · rcases hb5 with ⟨rfl, h2⟩ | ⟨rfl, h2⟩
                          · obtain ⟨y, hy, e⟩ := h2; exact absurd e (h1 y hy)
                          · clear h1 h2
                            go_wp2
                            exact ⟨⟨i, S5, _, by omega, by go_num, hW5, fun k hk => hS k (hS5 k hk), hbel5, HN.out⟩, by simp [intOf]⟩
            · have hgI : (len' : Int) ≤ (i : Int) := by omega
              go_wp2
              refine ⟨⟨i, S, L, by omega, by go_num, hW, hS, hbel, fun id => ?_⟩, by simp [intOf]⟩
              rw [hHas id]
              constructor
              · rintro ⟨h1, h2⟩; exact ⟨h1, fun ⟨j, h3, h4, _⟩ => by omega⟩
              · rintro ⟨h1, h2⟩; exact ⟨h1, fun ⟨j, h3, h4, _⟩ => by omega⟩

theorem wheelLast_walk (a0 : Option Addr) (len0 cap0 : Nat) (z0 : List Int) (a1 : Option Addr) (len1 cap1 : Nat) (z1 : List Int) (w : World) (h0 : IsRow .i64 w a0 len0 cap0 z0) (h1 : IsRow .i64 w a1 len1 cap1 z1) :
    Calls Try.prog 6 #[.slice a0 len0 cap0, .slice a1 len1 cap1] w fun e w' => e = .returned (.bool true) ∧ Below w.heap.size w w' := by
  obtain ⟨i0, l0⟩ := h0.ints (lo := -9223372036854775808) (hi := 9223372036854775807) (fun n hn => I64_of_wf hn)
  obtain ⟨i1, l1⟩ := h1.ints (lo := -9223372036854775808) (hi := 9223372036854775807) (fun n hn => I64_of_wf hn)
  unfold maxLen at l0 l1
  exact last_walk a0 len0 cap0 z0 a1 len1 cap1 z1 w i0 i1 (by omega) (by omega)
end Go.Proofs.Ytbkgjghbmafoeaa
