/- ProgressRuns answers true for every input of bulk at most 1048576: behind each of any Updates the counts, the fronts of all operators and what is done are the document's. The bound on the bulk is the given statement's own. -/
import Derived.Test.YtiooalhfhnddjaaRows
import Derived.ChangeArms
import Derived.Deep.Slices
import Derived.OpenShut
import Derived.ProofKit
import Derived.JoinedCond
import Derived.ReadAgain
import Derived.Test.YtiooalhfhnddjaaCPR8
set_option linter.unusedVariables false
set_option linter.unusedSimpArgs false
set_option linter.unusedSectionVars false
section
set_option linter.unusedVariables false
set_option linter.unusedSimpArgs false
namespace Go.Proofs.Ytiooalhfhnddjaa
open Go.RowKit Go.Proofs.Ytiooalhfhnddjaa.MM Go.Proofs.Ytiooalhfhnddjaa.PX Go.Proofs.YtiooalhfhnddjaaW.PrintWords
abbrev kCounts : Kd (List Count) := Kd.slice 70 kCount
theorem at_lists {α : Type} {d : Kd α} {e : Nat} {w : World} {A : Option Addr} {n : Nat} {xs : List (List α)} (h : Kd.C (Kd.slice e d) w A n xs) {i : Nat} {x : List α} (hi : xs[i]? = some x) :
    ∃ ad iA ic, A = some ad ∧ w.cell? (ad.add i) = some (.slice iA x.length ic) ∧ x.length ≤ ic ∧ Kd.C d w iA x.length x := by
  have hin : i < n := by rw [← h.1]; exact (List.getElem?_eq_some_iff.1 hi).1
  obtain ⟨ad, c, e1, _, hK, hc0⟩ := Kd.C_get h ([] : List α) (i : Int) (by omega) (by omega)
  have hc : ∀ j u, c[j]? = some u → w.cell? (ad.add ((i : Int).toNat * 1 + j)) = some u := hc0
  obtain ⟨iA, ic, rfl, l0, g0⟩ := hK
  have hx : xs.getD (i : Int).toNat ([] : List α) = x := by simp [List.getD_eq_getElem?_getD, hi]
  rw [hx] at l0 g0 hc
  refine ⟨ad, iA, ic, e1, ?_, l0, g0⟩
  have := hc 0 _ rfl
  simpa using this
section
variable {w w' : World} {base p mb m : Nat} {g : List Op} {ways : List (List Bool)} {l : List (Stamp × Int)} {A : Option Addr} {c : Nat} {cs : List Count}
theorem TrkAt.beside (h : TrkAt w base p mb g ways l) (hr : RTrkAt w base m A c g cs) (hg : w.grownBy w' (some m)) : TrkAt w' base p mb g ways l := by
  obtain ⟨gv, wv, h1, h2, h3, h4, h5, h6⟩ := h
  obtain ⟨cv, _, hm, _⟩ := hr
  have hpm : p ≠ m := blk_ne h3 hm (by decide)
  refine ⟨gv, wv, h1, h2, blk_grown h3 hg (fun e => hpm (Option.some.inj e)), ?_, ?_, h6.grown hg (fun e => by
    injection e with e
    subst e
    exact h6.no_cells _ _ _ hm)⟩
  · exact Kd.R_mono (Kd.R_grown (Kd.R_types h4 hm (by decide)) hg (fun k hk e => hk.2 (Option.some.inj e))) (fun _ hk => hk.1)
  · exact Kd.R_mono (Kd.R_grown (Kd.R_types h5 hm (by decide)) hg (fun k hk e => hk.2 (Option.some.inj e))) (fun _ hk => hk.1)
theorem RTrkAt.beside (hr : RTrkAt w base m A c g cs) (h : TrkAt w base p mb g ways l) (hg : w.grownBy w' (some mb)) : RTrkAt w' base m A c g cs := by
  obtain ⟨gv, wv, h1, h2, h3, h4, h5, h6⟩ := h
  obtain ⟨cv, k1, hm, hR⟩ := hr
  exact ⟨cv, k1, blk_grown hm hg (fun e => by
    injection e with e
    subst e
    exact h6.no_cells _ _ _ hm), R_iter hR h6.no_cells hg⟩
theorem TrkAt.mb_le (h : TrkAt w base p mb g ways l) : base ≤ mb := by
  obtain ⟨_, _, _, h2, _⟩ := h
  exact h2
theorem RTrkAt.m_le (h : RTrkAt w base m A c g cs) : base ≤ m := by
  obtain ⟨_, h1, _⟩ := h
  exact h1
end
def UpdBoth (w : World) (base p mb : Nat) (g : List Op) (cs L : List Count) (e : Ending) (w' : World) : Prop :=
  ∃ l', e = .returned (.int .i64 (rErr g cs L)) ∧ TrkAt w' base p mb g (waysOf g) l' ∧ SameC l' (rNext g cs L) ∧ Tidy l' ∧ AllGood g l' ∧ w.grownBy w' (some mb)
theorem Update_both (w : World) {base p mb : Nat} {g : List Op} {l : List (Stamp × Int)} {cs : List Count} (h : TrkAt w base p mb g (waysOf g) l) (hS : SameC l cs) (ht : Tidy l) (hG : AllGood g l)
    (A : Option Addr) (c : Nat) (L : List Count) (hL : Kd.C kCount w A L.length L) (hLn : L.length ≤ 1000000000) :
    Calls Try.prog 17 #[.pointer (some ⟨p, 0, none⟩), .slice A L.length c] w (UpdBoth w base p mb g cs L) := by
  refine (Update_calls w h ht A c L hL hLn).mono ?_
  rintro e w' ⟨l', rfl, hT, hg, hbad, hl⟩
  have he := rErr_is (g := g) hS ht L
  refine ⟨l', by rw [he], hT, ?_, ?_, ?_, hg⟩
  all_goals
    by_cases h0 : updErr g l L = 0
  · unfold rNext
    rw [if_pos (by rw [he]; exact h0)]
    exact SameC.next (g := g) hS (hl h0)
  · unfold rNext
    rw [if_neg (by rw [he]; exact h0), (hbad h0).1]
    exact hS
  · exact Tidy.next ht hT.keys (hl h0) h0
  · rw [(hbad h0).1]; exact ht
  · exact AllGood.next hG hT.keys (hl h0) h0
  · rw [(hbad h0).1]; exact hG
theorem rNext_len (g : List Op) (cs L : List Count) : (rNext g cs L).length ≤ cs.length + L.length := by
  unfold rNext
  split
  · exact Nat.le_trans (List.length_filter_le _ _) (addsC_len cs L)
  · omega
theorem sameC_bd {l : List (Stamp × Int)} {cs : List Count} (h : SameC l cs) (ht : Tidy l) (s : Stamp) : -4611686018427387904 ≤ tot cs s ∧ tot cs s ≤ 4611686018427387904 := by
  rw [h.tot]; exact ht.bd s
set_option maxRecDepth 100000 in
set_option maxHeartbeats 8000000 in
theorem ProgressRuns_calls (w : World) (A : Option Addr) (c : Nat) (g : List Op) (hr : Kd.C kOp w A g.length g) (hc : g.length ≤ c) (hil : ∀ o ∈ g, o.f1.length ≤ 1000000000) (hgl : g.length ≤ 1000000000)
    (lA : Option Addr) (lc : Nat) (L : List (List Count)) (hL : Kd.C kCounts w lA L.length L) (hLl : L.length ≤ 1000000000) (hLn : ∀ x ∈ L, x.length ≤ 10000000)
    (sA : Option Addr) (sc : Nat) (S : List Stamp) (hS : Kd.C kStamp w sA S.length S) (hSl : S.length ≤ 1000000000) :
    Calls Try.prog 3 #[.agg #[.slice A g.length c], .slice lA L.length lc, .slice sA S.length sc] w fun e w' => e = .returned (.bool true) ∧ Below w.heap.size w w' := by
  have HIL := Aside0.mk hil
  have HLN := Aside0.mk hLn
  have HOK2 := Aside0.mk (chk_two g)
  clear hil hLn
  go_enter Try.func3, Try.ntmps3
  go_wp2_with (go_at_call 14; refine (known_calls _).mono ?_; rintro e w1 ⟨rfl, hb1⟩; have kb : w1.cell? ⟨w.heap.size, 0, none⟩ = some (.slice A g.length c) := (hb1.cell (p := ⟨w.heap.size, 0, none⟩) (by simp)).trans (by simp))
  have hb10 : Below w.heap.size w w1 := below_then (below_alloc (Below.refl _ w) (.cells #[.slice A g.length c] 24)) (by simp) hb1
  have hr1 := Kd.C_below hr hb10
  have hw1 : w.heap.size < w1.heap.size := World.block_lt_of_cell? _ _ kb
  obtain ⟨k11, hk11⟩ := ref_Check_is g HIL.out
  have HCK := Aside0.mk (fun W hW => millraceref11_Check.calls k11 A c g (chk g).1 (chk g).2 W hW hc hk11)
  have hNew := New_calls w1 A c g hr1 hc HIL.out
  clear hb1 hk11
  refine hNew.mono ?_
  rintro e w2 ⟨hb2, hN⟩
  have hb20 := below_then hb10 hb10.size hb2
  have kb2 : w2.cell? ⟨w.heap.size, 0, none⟩ = some (.slice A g.length c) := (hb2.cell (p := ⟨w.heap.size, 0, none⟩) hw1).trans kb
  have hw2 : w.heap.size < w2.heap.size := Nat.lt_of_lt_of_le hw1 hb2.size
  have hC3 := HCK.out w2 (Kd.C_below hr hb20)
  have HNB := Aside0.mk hb2
  clear hNew hb2 HCK
  obtain ⟨c1, hc1⟩ : ∃ c1, c1 = (chk g).1 := ⟨_, rfl⟩
  obtain ⟨c2, hc2⟩ : ∃ c2, c2 = (chk g).2 := ⟨_, rfl⟩
  rw [← hc1, ← hc2] at hC3
  have hok : okg g = (c2 == 0) := by rw [hc2]; rfl
  clear hc1
  by_cases hz : c2 = 0
  · rw [hok, show (c2 == 0) = true by simp [hz], if_pos rfl] at hN
    obtain ⟨p, mb, rfl, hT⟩ := hN
    have HOK : Aside0 (okg g = true) := ⟨by rw [hok]; simp [hz]⟩
    have hzb : (c2 != 0) = false := by simp [hz]
    clear hc2 hok hz
    go_wp2_with (go_at_call 16; refine hC3.mono ?_; rintro e w3 ⟨rfl, hb3⟩; have kb3 : w3.cell? ⟨w.heap.size, 0, none⟩ = some (.slice A g.length c) := (hb3.cell (p := ⟨w.heap.size, 0, none⟩) hw2).trans kb2)
    have hb30 := below_then hb20 hb20.size hb3
    have hT3 := hT.below hb3
    have hBw : w.heap.size ≤ w1.heap.size := hb10.size
    have hB3 : w1.heap.size ≤ w3.heap.size := Nat.le_trans HNB.out.size hb3.size
    have hT4 := hT3.below (below_alloc (Below.refl _ _) (.cells #[.slice A g.length c, .slice none 0 0] 37))
    have hR4 : RTrkAt (w3.alloc (.cells #[.slice A g.length c, .slice none 0 0] 37)) w1.heap.size w3.heap.size A c g [] := ⟨_, hB3, heap_alloc_new w3 _, Kd.R_nil _ _ _ _ _⟩
    have hb40 := below_alloc hb30 (.cells #[.slice A g.length c, .slice none 0 0] 37)
    obtain ⟨m, hm⟩ : ∃ m, m = w3.heap.size := ⟨_, rfl⟩
    obtain ⟨B, hB⟩ : ∃ B, B = w1.heap.size := ⟨_, rfl⟩
    rw [← hm, ← hB] at hR4 hB3
    rw [← hB] at hT4 hBw
    rw [← hm]
    clear hm hB hT hT3 hb3 kb3 kb2 kb hC3 hb20 hb30 hr1 hb10
    go_loopg [12] L.length (fun kq v12 wr => ∃ (i : Nat) (l : List (Stamp × Int)) (cs : List Count), v12 = .int .i64 i ∧ i + kq = L.length ∧ TrkAt wr B p mb g (waysOf g) l ∧ RTrkAt wr B m A c g cs ∧ SameC l cs ∧ Tidy l ∧ AllGood g l ∧ cs.length ≤ i * 10000000 ∧ i ≤ 60 ∧ Below w.heap.size w wr)
    case atStart => exact ⟨0, [], [], rfl, by simp, hT4, hR4, SameC.nil, Tidy.nil, (fun q hq => by cases hq), Nat.le_refl _, Nat.zero_le _, hb40⟩
    case round =>
      obtain ⟨i, l, cs, rfl, hk, hT, hR, hS, ht, hG, hsz, hi60, hb⟩ := hrel
      have HK := Aside0.mk hk
      by_cases hlt : i < L.length
      · by_cases h60 : i < 60
        · obtain ⟨x, hx⟩ : ∃ x, L[i]? = some x := ⟨_, List.getElem?_eq_getElem hlt⟩
          obtain ⟨ad, iA, ic, rfl, hcell, hxc, hxr⟩ := at_lists hL hx
          have hxl := HLN.out x (List.mem_of_getElem? hx)
          have hcb := World.block_lt_of_cell? _ _ hcell
          replace hcell := (hb.cell hcb).trans hcell
          have hbd : Below w.heap.size w (wr.drewN 1) := pw_below_drewN hb 1
          have hTd := Aside0.mk (hT.below (pw_below_drewN (Below.refl _ _) 1))
          have hRd := Aside0.mk (hR.below (pw_below_drewN (Below.refl _ _) 1))
          have hxd := Kd.C_below hxr hbd
          have hmb := hT.mb_le
          have hmm := hR.m_le
          have hcs : cs.length ≤ 1000000000 := by omega
          have hSs := Aside0.mk hS
          have hts := Aside0.mk ht
          have hGs := Aside0.mk hG
          have hne1 : some (ad.add i).block ≠ some mb := fun e => by injection e with e; omega
          have hne2 : some (ad.add i).block ≠ some m := fun e => by injection e with e; omega
          have d1 : decide (i < L.length) = true := decide_eq_true hlt
          have d2 : decide (i < 60) = true := decide_eq_true h60
          have HX := Aside0.mk hx
          have hcbr : (ad.add i).block < wr.heap.size := World.block_lt_of_cell? _ _ hcell
          clear hk hx hS ht hG
          go_wp2_with fail
          go_region_held3 (fun w' => w'.cell? (ad.add i) = some (.slice iA x.length ic))
            (first
              | go_keep
              | exact (hb7.cell (by omega)).trans ‹_›
              | exact (hb6.cell (by omega)).trans ‹_›
              | exact hg5.cell ‹_› hne2
              | exact hg4.cell ‹_› hne1)
            (first
              | (go_at_call 17; (refine (Update_both (wr.drewN 1) hTd.out hSs.out hts.out hGs.out iA ic x hxd (by omega)).mono ?_); rintro e w4 ⟨l2, rfl, hT4, hS4, ht4, hG4, hg4⟩; have hz4 : wr.heap.size ≤ w4.heap.size := (by have := hg4.size; simpa using this); have hb4 := Aside0.mk (hbd.grown hg4 hbd.size (fun k e => by injection e with e; omega)))
              | (go_at_call 18; (with_reducible refine (rUpdate_calls w4 (hRd.out.beside hTd.out hg4) (Kd.C_below hr hb4.out) hc HIL.out hSs.out.asc (sameC_bd hSs.out hts.out) hcs iA ic x (Kd.C_below hxr hb4.out) (by omega)).mono ?_); rintro e w5 ⟨rfl, hR5, hg5⟩; have hz5 : w4.heap.size ≤ w5.heap.size := hg5.size; have hb5 := Aside0.mk (hb4.out.grown hg5 hb4.out.size (fun k e => by injection e with e; omega)); have hT5 := Aside0.mk (hT4.beside (hRd.out.beside hTd.out hg4) hg5))
              | (go_at_call 19; (with_reducible refine (alike_calls w5 hT5.out hR5 (Kd.C_below hr hb5.out) hc HIL.out hS4 ht4 hgl (by have := rNext_len g cs x; omega) (-1)).mono ?_); rintro e w6 ⟨rfl, hb6⟩; have hz6 : w5.heap.size ≤ w6.heap.size := hb6.size; have hb60 := Aside0.mk (below_then hb5.out hb5.out.size hb6))
              | (go_at_call 19; (with_reducible refine (alike_calls w6 (hT5.out.below hb6) (hR5.below hb6) (Kd.C_below hr hb60.out) hc HIL.out hS4 ht4 hgl (by have := rNext_len g cs x; omega) 2).mono ?_); rintro e w7 ⟨rfl, hb7⟩; have hz7 : w6.heap.size ≤ w7.heap.size := hb7.size))
          have hb70 := Aside0.mk (below_then hb60.out hb60.out.size hb7)
          have hT7 := (hT5.out.below hb6).below hb7
          have hR7 := (hR5.below hb6).below hb7
          have hlen2 := rNext_len g cs x
          obtain ⟨cs2, hcs2⟩ : ∃ cs2, cs2 = rNext g cs x := ⟨_, rfl⟩
          rw [← hcs2] at hS4 hR7 hlen2
          have hcl : cs2.length ≤ 1000000000 := by omega
          have hll : l2.length ≤ 1000000000 := by rw [sameC_len hS4 ht4]; exact hcl
          replace hS4 := Aside0.mk hS4
          replace ht4 := Aside0.mk ht4
          replace hG4 := Aside0.mk hG4
          have hTo := Aside0.mk hT7
          have hRo := Aside0.mk hR7
          clear hcs2 hT7 hR7 hT4 hR5 hg4 hg5 hb6 hb7 hcell hz4 hz5 hz6 hz7
          obtain ⟨go, rfl⟩ : ∃ go, go = gk := ⟨_, rfl⟩
          go_wp2
          go_loopg [13] S.length (fun kq v13 W => ∃ k : Nat, v13 = .int .i64 k ∧ k + kq = S.length ∧ Below w7.heap.size w7 W)
          case atStart => exact ⟨0, rfl, by simp, Below.refl _ _⟩
          case round =>
            obtain ⟨k, rfl, hk, hbW⟩ := hrel
            have HK2 := Aside0.mk hk
            by_cases hlk : k < S.length
            · by_cases hk20 : k < 20
              · obtain ⟨sd, e1, x0, x1, x2⟩ := at_T45 hS (k : Int) (by omega) (by omega)
                cases e1
                simp only [Int.toNat_natCast] at x0 x1 x2
                generalize rd_T45 S k = s at x0 x1 x2
                have hbw := below_then hb70.out hb70.out.size hbW
                replace x0 := (hbw.cell (World.block_lt_of_cell? w _ x0)).trans x0
                replace x1 := (hbw.cell (World.block_lt_of_cell? w _ x1)).trans x1
                replace x2 := (hbw.cell (World.block_lt_of_cell? w _ x2)).trans x2
                have hxb := World.block_lt_of_cell? _ _ x0
                have hbd2 : Below w.heap.size w (wr.drewN 1) := pw_below_drewN hbw 1
                obtain ⟨b, hbe⟩ : ∃ b, b = rDoneB g cs2 s := ⟨_, rfl⟩
                obtain ⟨n, hn⟩ : ∃ n, n = tot cs2 s := ⟨_, rfl⟩
                have hD1 : Aside0 (∀ W', TrkAt W' B p mb g (waysOf g) l2 → Calls Try.prog 20 #[.pointer (some ⟨p, 0, none⟩), .agg #[.int .i64 s.f0, .int .i64 s.f1.f0, .int .i64 s.f1.f1]] W' fun e w' => e = .returned (.bool b) ∧ Below W'.heap.size W' w') := ⟨fun W' hW' => by
                  have h := Done_calls W' hW' (ways_square g) hG4.out.inG hgl hll s
                  rw [done_is hS4.out ht4.out hG4.out] at h
                  rw [hbe]
                  exact h⟩
                have hD2 : Aside0 (∀ W', RTrkAt W' B m A c g cs2 → Kd.C kOp W' A g.length g → Calls Try.prog 21 #[.pointer (some ⟨m, 0, none⟩), .agg #[.int .i64 s.f0, .int .i64 s.f1.f0, .int .i64 s.f1.f1]] W' fun e w' => e = .returned (.bool b) ∧ Below W'.heap.size W' w') := ⟨fun W' hW' hr' => by
                  rw [hbe]
                  exact rDone_calls W' hW' hr' hc HIL.out hcl s⟩
                have hD3 : Aside0 (∀ W', TrkAt W' B p mb g (waysOf g) l2 → Calls Try.prog 22 #[.pointer (some ⟨p, 0, none⟩), .agg #[.int .i64 s.f0, .int .i64 s.f1.f0, .int .i64 s.f1.f1]] W' fun e w' => e = .returned (.int .i64 n) ∧ Below W'.heap.size W' w') := ⟨fun W' hW' => by
                  rw [hn, hS4.out.tot]
                  exact Count_calls W' hW' s⟩
                have hD4 : Aside0 (∀ W', RTrkAt W' B m A c g cs2 → Calls Try.prog 23 #[.pointer (some ⟨m, 0, none⟩), .agg #[.int .i64 s.f0, .int .i64 s.f1.f0, .int .i64 s.f1.f1]] W' fun e w' => e = .returned (.int .i64 n) ∧ Below W'.heap.size W' w') := ⟨fun W' hW' => by
                  rw [hn]
                  exact rCount_calls W' hW' hS4.out.asc hcl s⟩
                have hTd2 := Aside0.mk ((hTo.out.below hbW).below (pw_below_drewN (Below.refl _ _) 1))
                have hRd2 := Aside0.mk ((hRo.out.below hbW).below (pw_below_drewN (Below.refl _ _) 1))
                have e1 : decide (k < S.length) = true := decide_eq_true hlk
                have e2 : decide (k < 20) = true := decide_eq_true hk20
                clear hk hbe hn
                go_wp2_with fail
                go_region_held3 (fun w' => w'.cell? (sd.add (k * 3)) = some (.int .i64 s.f0) ∧ w'.cell? ⟨(sd.add (k * 3)).block, (sd.add (k * 3)).off + 1, none⟩ = some (.int .i64 s.f1.f0) ∧ w'.cell? ⟨(sd.add (k * 3)).block, (sd.add (k * 3)).off + 2, none⟩ = some (.int .i64 s.f1.f1))
                  (first
                    | go_keep
                    | (go_split_ands
                       refine ⟨(hb11.cell (by exact hx10)).trans ‹_›, (hb11.cell (by exact hx10)).trans ‹_›, (hb11.cell (by exact hx10)).trans ‹_›⟩)
                    | (go_split_ands
                       refine ⟨(hb10.cell (by exact hx9)).trans ‹_›, (hb10.cell (by exact hx9)).trans ‹_›, (hb10.cell (by exact hx9)).trans ‹_›⟩)
                    | (go_split_ands
                       refine ⟨(hb9.cell (by exact hx8)).trans ‹_›, (hb9.cell (by exact hx8)).trans ‹_›, (hb9.cell (by exact hx8)).trans ‹_›⟩)
                    | (go_split_ands
                       refine ⟨(hb8.cell (by exact hxb)).trans ‹_›, (hb8.cell (by exact hxb)).trans ‹_›, (hb8.cell (by exact hxb)).trans ‹_›⟩))
                  (first
                    | (go_at_call 20; (refine (hD1.out (wr.drewN 1) hTd2.out).mono ?_); rintro e w8 ⟨rfl, hb8⟩; have hz8 : wr.heap.size ≤ w8.heap.size := (by have := hb8.size; simpa using this); have hb80 := Aside0.mk (below_then hbd2 hbd2.size hb8); have hx8 := Nat.lt_of_lt_of_le hxb hz8; have hT8 := Aside0.mk (hTd2.out.below hb8); have hR8 := Aside0.mk (hRd2.out.below hb8))
                    | (go_at_call 21; (refine (hD2.out w8 hR8.out (Kd.C_below hr hb80.out)).mono ?_); rintro e w9 ⟨rfl, hb9⟩; have hz9 : w8.heap.size ≤ w9.heap.size := hb9.size; have hx9 := Nat.lt_of_lt_of_le hx8 hz9; have hT9 := Aside0.mk (hT8.out.below hb9); have hR9 := Aside0.mk (hR8.out.below hb9))
                    | (go_at_call 22; (refine (hD3.out w9 hT9.out).mono ?_); rintro e w10 ⟨rfl, hb10⟩; have hz10 : w9.heap.size ≤ w10.heap.size := hb10.size; have hx10 := Nat.lt_of_lt_of_le hx9 hz10; have hR10 := Aside0.mk (hR9.out.below hb10))
                    | (go_at_call 23; (refine (hD4.out w10 hR10.out).mono ?_); rintro e w11 ⟨rfl, hb11⟩; have hz11 : w10.heap.size ≤ w11.heap.size := hb11.size))
                have hbx : Below wr.heap.size wr w11 := below_then (below_then (below_then (below_then (pw_below_drewN (Below.refl _ _) 1) (by simp) hb8) hz8 hb9) (by omega) hb10) (by omega) hb11
                clear hb8 hb9 hb10 hb11
                go_wp2
                go_roundg (gk - 1)
                case measure => have := HK2.out; omega
                case rel => exact ⟨k + 1, by go_num, by have := HK2.out; omega, below_then hbW hbW.size hbx⟩
              · have e1 : decide (k < S.length) = true := decide_eq_true hlk
                have e2 : decide (k < 20) = false := decide_eq_false hk20
                clear hk
                go_wp2
                go_roundg (go - 1)
                case measure => have := HK.out; omega
                case rel => exact ⟨i + 1, l2, cs2, by go_num, by have := HK.out; omega, hTo.out.below hbW, hRo.out.below hbW, hS4.out, ht4.out, hG4.out, by omega, by omega, below_then hb70.out hb70.out.size hbW⟩
            · have e1 : decide (k < S.length) = false := decide_eq_false hlk
              clear hk
              go_wp2
              go_roundg (go - 1)
              case measure => have := HK.out; omega
              case rel => exact ⟨i + 1, l2, cs2, by go_num, by have := HK.out; omega, hTo.out.below hbW, hRo.out.below hbW, hS4.out, ht4.out, hG4.out, by omega, by omega, below_then hb70.out hb70.out.size hbW⟩
        · have d1 : decide (i < L.length) = true := decide_eq_true hlt
          have d2 : decide (i < 60) = false := decide_eq_false h60
          clear hk
          go_wp2
          go_ret
          exact ⟨rfl, hb⟩
      · have d1 : decide (i < L.length) = false := decide_eq_false hlt
        clear hk
        go_wp2
        go_ret
        exact ⟨rfl, hb⟩
  · rw [hok, show (c2 == 0) = false by simp [hz], if_neg Bool.false_ne_true] at hN
    subst hN
    have hzb : (c2 != 0) = true := by simp [hz]
    clear hc2 hok hz
    go_wp2_with (go_at_call 16; refine hC3.mono ?_; rintro e w3 ⟨rfl, hb3⟩)
    go_ret
    exact ⟨rfl, below_then hb20 hb20.size hb3⟩
end Go.Proofs.Ytiooalhfhnddjaa
end
section
set_option linter.unusedVariables false
set_option linter.unusedSimpArgs false
namespace Go.Proofs.Ytiooalhfhnddjaa
open Go.ChangeShapes Go.WideShapes Go.RowKit Go.Proofs.Ytiooalhfhnddjaa.PX Go.Proofs.YtiooalhfhnddjaaW.PrintWords
def Opens {α : Type} (d : Kd α) (t : TypeId) (bulk : α → Nat) : Prop :=
  ∀ {H : Type} (enc : TypeId × Value → H) (w : World) (base : Nat) (spare : Nat → Bool) (held : Bool) (fuel : Nat) (cs : List Value) (x : DataW H × List MemPlace),
    DataW.trod enc Try.prog w base spare held fuel t cs = some x → ∃ a : α, d.K w a cs ∧ bulk a ≤ Rows.uptoBulk x.1
def OpensF {α : Type} (d : Kd α) (fs : List Field) (off : Nat) (bulk : α → Nat) : Prop :=
  ∀ {H : Type} (enc : TypeId × Value → H) (w : World) (base : Nat) (spare : Nat → Bool) (held : Bool) (n : Nat) (cs : List Value) (ys : List (DataW H × List MemPlace)),
    ys.length = fs.length → (∀ (i : Nat) (f : Field), fs[i]? = some f → DataW.trod enc Try.prog w base spare held n f.type ((cs.drop f.offset).take (Try.prog.cellsOf f.type)) = ys[i]?) →
    ∃ a : α, d.K w a ((cs.drop off).take d.sz) ∧ bulk a ≤ Rows.uptoBulkAll (ys.map (·.1))
theorem bulk_one {H : Type} (d : DataW H) : 1 ≤ Rows.uptoBulk d := by
  cases d with
  | lit l => cases l <;> simp [Rows.uptoBulk]
  | nil => simp [Rows.uptoBulk]
  | ptr d => simp [Rows.uptoBulk]
  | slice elems spare => simp [Rows.uptoBulk]
  | agg parts => simp [Rows.uptoBulk]
  | iface t d => simp [Rows.uptoBulk]
  | map entries => simp [Rows.uptoBulk]
  | held h => simp [Rows.uptoBulk]
theorem opens_int {k : IntKind} {t : TypeId} (ht : Try.prog.underlying t = some (.int k)) : Opens (Kd.int k) t (fun _ => 1) := by
  intro H enc w base spare held fuel cs x h
  obtain ⟨n, rfl, rfl, _⟩ := DataW.trod_int ht h
  exact ⟨n, rfl, bulk_one _⟩
theorem opensF_one {α : Type} {d : Kd α} {f : Field} {bulk : α → Nat} (h : Opens d f.type bulk) (hz : Try.prog.cellsOf f.type = d.sz) : OpensF d [f] f.offset bulk := by
  intro H enc w base spare held n cs ys hl hy
  match ys, hl with
  | [y], _ =>
    have h1 := hy 0 f rfl
    obtain ⟨a, hk, hb⟩ := h enc w base spare held n _ y h1
    rw [hz] at hk
    exact ⟨a, hk, by simpa [Rows.uptoBulkAll] using hb⟩
theorem opensF_cons {α β : Type} {d : Kd α} {e : Kd β} {f : Field} {fs : List Field} {off : Nat} {b1 : α → Nat} {b2 : β → Nat} (h : Opens d f.type b1) (hz : Try.prog.cellsOf f.type = d.sz) (ho : f.offset + d.sz = off) (hr : OpensF e fs off b2) : OpensF (Kd.pair d e) (f :: fs) f.offset (fun p => b1 p.1 + b2 p.2) := by
  intro H enc w base spare held n cs ys hl hy
  match ys, hl with
  | y :: ys, hl =>
    have h1 := hy 0 f rfl
    obtain ⟨a, hk, hb⟩ := h enc w base spare held n _ y h1
    obtain ⟨b, hk2, hb2⟩ := hr enc w base spare held n cs ys (by simpa using hl) (fun i g hg => hy (i + 1) g hg)
    rw [hz] at hk
    refine ⟨(a, b), ⟨_, _, ?_, hk, hk2⟩, ?_⟩
    · show (cs.drop f.offset).take (d.sz + e.sz) = _
      rw [List.take_add, List.drop_drop, ho]
    · simp only [List.map_cons, Rows.uptoBulkAll]
      show b1 a + b2 b ≤ _
      omega
theorem opens_struct {α β : Type} {d : Kd α} {f : β → α} (g : α → β) (hg : ∀ a, f (g a) = a) {fs : List Field} {t : TypeId} {bulk : α → Nat} (ht : Try.prog.underlying t = some (.struct fs.toArray)) (hz : Try.prog.cellsOf t = d.sz) (h : OpensF d fs 0 bulk) : Opens (Kd.iso d f) t (fun x => bulk (f x)) := by
  intro H enc w base spare held fuel cs x hx
  obtain ⟨xs, n, _, rfl, hl, hlen, hf⟩ := DataW.trod_struct ht hx
  obtain ⟨a, hk, hb⟩ := h enc w base spare held n cs xs (by simpa using hlen) (fun i fl hfl => hf i fl (by simpa using hfl))
  rw [List.drop_zero, ← hz, ← hl, List.take_length] at hk
  refine ⟨g a, ?_, ?_⟩
  · show d.K w (f (g a)) cs
    rw [hg]; exact hk
  · simp only [Rows.uptoBulk]
    rw [hg]
    omega
theorem bulkAll_sum {H α : Type} {bulk : α → Nat} : ∀ (xs : List α) (ds : List (DataW H)), xs.length = ds.length → (∀ (i : Nat) (a : α) (d : DataW H), xs[i]? = some a → ds[i]? = some d → bulk a ≤ Rows.uptoBulk d) → (xs.map bulk).sum ≤ Rows.uptoBulkAll ds
  | [], [], _, _ => Nat.le_refl _
  | x :: xs, d :: ds, hl, h => by
    have h1 := h 0 x d rfl rfl
    have h2 := bulkAll_sum xs ds (by simpa using hl) (fun i a e ha he => h (i + 1) a e ha he)
    simp only [List.map_cons, List.sum_cons, Rows.uptoBulkAll]
    omega
theorem pick_list {α : Type} {p : Nat → α → Prop} : ∀ n : Nat, (∀ i, i < n → ∃ a, p i a) → ∃ xs : List α, xs.length = n ∧ ∀ (i : Nat) (a : α), xs[i]? = some a → p i a
  | 0, _ => ⟨[], rfl, fun i a h => by simp at h⟩
  | n + 1, h => by
    obtain ⟨xs, hl, hx⟩ := pick_list n (fun i hi => h i (Nat.lt_succ_of_lt hi))
    obtain ⟨a, ha⟩ := h n (Nat.lt_succ_self n)
    refine ⟨xs ++ [a], by simp [hl], fun i b hb => ?_⟩
    by_cases hi : i < xs.length
    · rw [List.getElem?_append_left hi] at hb
      exact hx i b hb
    · rw [List.getElem?_append_right (by omega)] at hb
      have : i - xs.length = 0 := by
        have := (List.getElem?_eq_some_iff.1 hb).1
        simp at this
        omega
      rw [this] at hb
      simp at hb
      subst hb
      have : i = n := by omega
      rw [this]; exact ha
theorem opens_slice {α : Type} {d : Kd α} {t e : TypeId} {bulk : α → Nat} (ht : Try.prog.underlying t = some (.slice e)) (hz : Try.prog.cellsOf e = d.sz) (h : Opens d e bulk) : Opens (Kd.slice e d) t (fun xs => 1 + (xs.map bulk).sum) := by
  intro H enc w base spare held fuel cs x hx
  rcases Go.Deep.open_slice ht hx with ⟨rfl, rfl⟩ | ⟨a, len, cap, m, n, D, Pl, rfl, hb, hlc, hcm, hm, rfl, hel⟩
  · exact ⟨[], ⟨none, 0, rfl, Nat.le_refl _, rfl, by simp, fun h => absurd h (by simp)⟩, by simp [Rows.uptoBulk]⟩
  · have hlm : len ≤ m := by rw [hm]; split <;> omega
    obtain ⟨xs, hxl, hxs⟩ := pick_list (p := fun i (b : α) => ∃ cs', w.cells? base (a.add (i * Try.prog.cellsOf e)) (Try.prog.cellsOf e) = some cs' ∧ d.K w b cs' ∧ bulk b ≤ Rows.uptoBulk (D i)) len (fun i hi => by
      obtain ⟨cs', h1, h2⟩ := hel i (by omega)
      obtain ⟨b, hk, hbk⟩ := h enc w base spare held n cs' _ h2
      exact ⟨b, cs', h1, hk, hbk⟩)
    refine ⟨xs, ⟨some a, cap, by rw [hxl], by omega, rfl, by rw [hxl]; exact Nat.le_trans hlc hcm, fun _ => ⟨a, rfl, fun j p hj => ?_⟩⟩, ?_⟩
    · obtain ⟨cs', h1, hk, _⟩ := hxs j p hj
      obtain ⟨_, hcl, hat⟩ := World.cells?_some h1
      refine ⟨cs', d.K_len hk, hk, fun i u hu => ?_⟩
      have hi : i < Try.prog.cellsOf e := by rw [← hcl]; exact (List.getElem?_eq_some_iff.1 hu).1
      have := hat i hi
      rw [Go.Deep.add_add, hz] at this
      rw [this, hu]
    · simp only [Rows.uptoBulk]
      have := bulkAll_sum (H := H) (bulk := bulk) xs ((List.range len).map D) (by simp [hxl]) (fun i b dd hi hd => by
        obtain ⟨_, _, _, hb3⟩ := hxs i b hi
        have hil : i < len := by rw [← hxl]; exact (List.getElem?_eq_some_iff.1 hi).1
        rw [List.getElem?_map, List.getElem?_range hil] at hd
        simp at hd
        subst hd
        exact hb3)
      clear hcm
      omega
set_option maxRecDepth 100000 in
/-- A slice that came in. -/
theorem arg_slice {α : Type} {d : Kd α} {t e : TypeId} {bulk : α → Nat} (ht : Try.prog.underlying t = some (.slice e)) (hz : Try.prog.cellsOf e = d.sz) (h : Opens d e bulk) {H : Type} {enc : TypeId × Value → H} {w : World} {base b0 : Nat} {spare : Nat → Bool} {held : Bool} {r : Reach} {v : Value} {x : DataW H} {ps : List MemPlace}
    (hv : Value.okWide Try.prog w r b0 t v) (hx : DataW.Trod enc Try.prog w base spare held t v x ps) : ∃ (A : Option Addr) (c : Nat) (xs : List α), v = .slice A xs.length c ∧ xs.length ≤ c ∧ Kd.C d w A xs.length xs ∧ 1 + (xs.map bulk).sum ≤ Rows.uptoBulk x := by
  obtain ⟨a, len, cap, rfl⟩ := okWide_slice ht hv
  obtain ⟨fuel, hf⟩ := hx
  obtain ⟨xs, ⟨A, c, he, hlc, hC⟩, hb⟩ := opens_slice ht hz h enc w base spare held fuel _ _ hf
  have he2 : [Value.slice a len cap] = [Value.slice A xs.length c] := he
  injection he2 with he3 _
  rw [he3]
  exact ⟨A, c, xs, rfl, hlc, hC, hb⟩
set_option maxRecDepth 100000 in
theorem arg_struct {α : Type} {d : Kd α} {t : TypeId} {fs : Array Field} {bulk : α → Nat} (ht : Try.prog.underlying t = some (.struct fs)) (h : Opens d t bulk) {H : Type} {enc : TypeId × Value → H} {w : World} {base b0 : Nat} {spare : Nat → Bool} {held : Bool} {r : Reach} {v : Value} {x : DataW H} {ps : List MemPlace}
    (hv : Value.okWide Try.prog w r b0 t v) (hx : DataW.Trod enc Try.prog w base spare held t v x ps) : ∃ (cs : List Value) (a : α), v = .agg cs.toArray ∧ d.K w a cs ∧ bulk a ≤ Rows.uptoBulk x := by
  obtain ⟨cs, rfl, _⟩ := okWide_struct ht hv
  obtain ⟨fuel, hf⟩ := hx
  obtain ⟨a, hk, hb⟩ := h enc w base spare held fuel _ _ hf
  exact ⟨cs.toList, a, by simp, hk, hb⟩
set_option maxRecDepth 100000 in
theorem opens_Time : Opens k43 43 (fun x => (1 : Nat) + 1) :=
  opens_struct (d := Kd.pair (Kd.int .i64) (Kd.int .i64)) (f := fun x : S43 => (x.f0, x.f1)) (fun p => ⟨p.1, p.2⟩) (fun _ => rfl) (fs := (Try.prog.fieldsOf 43).toList) (by kernel_rfl) (by kernel_rfl)
    (opensF_cons (opens_int Try.underlying3) (by kernel_rfl) (by kernel_rfl) (opensF_one (opens_int Try.underlying3) (by kernel_rfl)))
def bulkStamp (x : S45) : Nat := 1 + (1 + 1)
def bulkCount (x : S70) : Nat := bulkStamp x.f0 + 1
def bulkCounts (xs : List S70) : Nat := 1 + (xs.map bulkCount).sum
set_option maxRecDepth 100000 in
theorem opens_Stamp : Opens k45 45 bulkStamp :=
  opens_struct (d := Kd.pair (Kd.int .i64) k43) (f := fun x : S45 => (x.f0, x.f1)) (fun p => ⟨p.1, p.2⟩) (fun _ => rfl) (fs := (Try.prog.fieldsOf 45).toList) (by kernel_rfl) (by kernel_rfl)
    (opensF_cons (opens_int Try.underlying3) (by kernel_rfl) (by kernel_rfl) (opensF_one opens_Time (by kernel_rfl)))
set_option maxRecDepth 100000 in
theorem opens_Count : Opens k70 70 bulkCount :=
  opens_struct (d := Kd.pair k45 (Kd.int .i64)) (f := fun x : S70 => (x.f0, x.f1)) (fun p => ⟨p.1, p.2⟩) (fun _ => rfl) (fs := (Try.prog.fieldsOf 70).toList) (by kernel_rfl) (by kernel_rfl)
    (opensF_cons opens_Stamp (by kernel_rfl) (by kernel_rfl) (opensF_one (opens_int Try.underlying3) (by kernel_rfl)))
def bulkOp (o : S95) : Nat := 1 + ((1 + (o.f1.map (fun _ => (1 : Nat))).sum) + (1 + (1 + (1 + (1 + 1)))))
set_option maxRecDepth 100000 in
theorem opens_Op : Opens k95 95 bulkOp :=
  opens_struct (d := Kd.pair (Kd.int .i64) (Kd.pair (Kd.slice 3 (Kd.int .i64)) (Kd.pair (Kd.int .i64) (Kd.pair (Kd.int .u32) (Kd.pair (Kd.int .i64) (Kd.pair (Kd.int .i64) (Kd.int .u32))))))) (f := fun x : S95 => (x.f0, x.f1, x.f2, x.f3, x.f4, x.f5, x.f6)) (fun p => ⟨p.1, p.2.1, p.2.2.1, p.2.2.2.1, p.2.2.2.2.1, p.2.2.2.2.2.1, p.2.2.2.2.2.2⟩) (fun _ => rfl) (fs := (Try.prog.fieldsOf 95).toList) (by kernel_rfl) (by kernel_rfl)
    (opensF_cons (opens_int Try.underlying3) (by kernel_rfl) (by kernel_rfl)
      (opensF_cons (opens_slice Try.underlying88 (by kernel_rfl) (opens_int Try.underlying3)) (by kernel_rfl) (by kernel_rfl)
        (opensF_cons (opens_int Try.underlying3) (by kernel_rfl) (by kernel_rfl)
          (opensF_cons (opens_int Try.underlying89) (by kernel_rfl) (by kernel_rfl)
            (opensF_cons (opens_int Try.underlying3) (by kernel_rfl) (by kernel_rfl)
              (opensF_cons (opens_int Try.underlying3) (by kernel_rfl) (by kernel_rfl) (opensF_one (opens_int Try.underlying89) (by kernel_rfl))))))))
theorem opens_Counts : Opens (Kd.slice 70 k70) 35 bulkCounts := opens_slice Try.underlying35 (by kernel_rfl) opens_Count
def bulkG (g : List S95) : Nat := 1 + (g.map bulkOp).sum
abbrev kGraph : Kd (List S95) := Kd.iso (Kd.slice 95 k95) (fun g => g)
set_option maxRecDepth 100000 in
theorem opens_Graph : Opens kGraph 24 bulkG :=
  opens_struct (d := Kd.slice 95 k95) (f := fun g => g) (fun g => g) (fun _ => rfl) (fs := (Try.prog.fieldsOf 24).toList) (by kernel_rfl) (by kernel_rfl)
    (opensF_one (opens_slice Try.underlying22 (by kernel_rfl) opens_Op) (by kernel_rfl))
theorem sum_ge {α : Type} {f : α → Nat} {xs : List α} {x : α} (h : x ∈ xs) : f x ≤ (xs.map f).sum := by
  induction xs with
  | nil => cases h
  | cons y r ih =>
    simp only [List.map_cons, List.sum_cons]
    rcases List.mem_cons.1 h with rfl | h
    · omega
    · have := ih h; omega
theorem sum_len {α : Type} {f : α → Nat} (hf : ∀ x, 1 ≤ f x) (xs : List α) : xs.length ≤ (xs.map f).sum := by
  induction xs with
  | nil => exact Nat.le_refl _
  | cons y r ih =>
    simp only [List.map_cons, List.sum_cons, List.length_cons]
    have := hf y
    omega
theorem bulkOp_ins (o : S95) : o.f1.length ≤ bulkOp o := by
  unfold bulkOp
  have := sum_len (f := fun _ : Int => (1 : Nat)) (fun _ => Nat.le_refl _) o.f1
  omega
theorem bulkG_len (g : List S95) : g.length ≤ bulkG g := by
  unfold bulkG
  have := sum_len (f := bulkOp) (fun o => by unfold bulkOp; omega) g
  omega
theorem bulkG_ins {g : List S95} {o : S95} (h : o ∈ g) : o.f1.length ≤ bulkG g := by
  unfold bulkG
  have h1 := sum_ge (f := bulkOp) h
  have h2 := bulkOp_ins o
  omega
theorem bulkCounts_len (xs : List S70) : xs.length ≤ bulkCounts xs := by
  unfold bulkCounts
  have := sum_len (f := bulkCount) (fun o => by unfold bulkCount; omega) xs
  omega
end Go.Proofs.Ytiooalhfhnddjaa
end
section
set_option linter.unusedVariables false
set_option linter.unusedSimpArgs false
namespace Go.Proofs.Ytiooalhfhnddjaa
open Go.ChangeShapes Go.WideShapes Go.ChangeAt Go.RowKit Go.Proofs.Ytiooalhfhnddjaa.PX Go.Proofs.YtiooalhfhnddjaaW.PrintWords
section
variable {H : Type} {enc : TypeId × Value → H} {P : Program}
theorem trodAll_turned {w w' : World} {base : Nat} {spare : Nat → Bool} {held : Bool} : ∀ {ts : List TypeId} {vs : List Value} {ds : List (DataW H)} {ps : List MemPlace}, DataW.TrodAll enc P w base spare held ts vs ds ps → (∀ p ∈ ps, w.sameAt w' p) → DataW.TrodAll enc P w' base spare held ts vs ds ps
  | [], [], [], _, h, _ => h
  | _ :: _, _ :: _, _ :: _, _, ⟨p, q, ⟨n, h1⟩, h2, e⟩, hs => ⟨p, q, ⟨n, DataW.trod_carry n _ _ _ h1 (fun x hx => hs x (by rw [e]; exact List.mem_append_left _ hx))⟩, trodAll_turned h2 (fun x hx => hs x (by rw [e]; exact List.mem_append_right _ hx)), e⟩
theorem law_end (K : Kids P (· < P.types.size)) (hz : ∀ t e, t < P.types.size → P.underlying t = some (.slice e) → 0 < P.cellsOf e) {f : Func} {s : ChangeSpec} {W W' : World} {args : Array Value} {ds : List (DataW H)} {before : List MemPlace} {tb : TypeId} {fresh handsOn again apart : Bool}
    (hW : DataW.Whole enc P f.params.toList s.vars apart W args.toList ds [] before) (hv : s.vars = []) (hT : ∀ t ∈ f.params.toList, t < P.types.size)
    (hr : f.resultTypes = #[tb]) (htb : P.underlying tb = some .bool) (hsr : (s.fn H (ds ++ [])).results = [.lit (.bool true)]) (hsa : (s.fn H (ds ++ [])).args = ds) (hsv : (s.fn H (ds ++ [])).vars = []) (hb : Below W.heap.size W W') :
    s.post enc P f apart fresh handsOn again W args (.bool true) W' := by
  have hW0 := hW
  obtain ⟨p, q, hA, hV, rfl, hfz, hnd⟩ := hW
  rw [hv] at hV
  obtain ⟨_, rfl⟩ := trodVars_none hV
  have hlt : ∀ x ∈ p ++ [], x.block < W.heap.size := fun x hx => hW0.lt x hx
  have hA' : DataW.TrodAll enc P W' 0 (fun _ => true) true f.params.toList args.toList ds p := trodAll_turned hA (fun x hx => hb.same (hlt x (by simpa using hx)))
  have hargs : ∀ sp : Nat → Bool, (∀ x ∈ p ++ [], sp x.block = true) → DataW.TrodAll enc P W' 0 sp true f.params.toList args.toList (s.fn H (ds ++ [])).args p := fun sp hsp => by
    rw [hsa]
    exact DataW.TrodAll.respare K hz hT hA' (fun x hx => hsp x (by simpa using hx))
  have hres : ∀ (b : Nat) (sp : Nat → Bool) (hd : Bool), DataW.TrodAll enc P W' b sp hd f.resultTypes.toList ((Value.bool true).resultList f.resultTypes.size) (s.fn H (ds ++ [])).results [] := fun b sp hd => by
    rw [hsr, hr]
    exact trodAll_cons_mk (shut_bool htb true) trodAll_mk0
  have hvars : ∀ sp : Nat → Bool, DataW.TrodVars enc P W' sp s.vars (s.fn H (ds ++ [])).vars [] := fun sp => by rw [hsv, hv]; exact rfl
  have hold : ∀ x ∈ p ++ [], (fun b => decide (b < W.heap.size)) x.block = true := fun x hx => by simpa using hlt x hx
  refine ⟨ds, [], p ++ [], [], p, [], hW0, hres _ _ _, hargs _ hold, hvars _, World.keptBut_mono (fun x hx => ⟨hx, by simpa using hx⟩) (hb.frame (· ∈ p ++ [])), fun _ => ?_⟩
  refine ⟨ok_one hr rfl (okWide_bool_mk htb true), _, _, ([] ++ p) ++ [], ⟨[] ++ p, [], trodAll_append (hargs _ (fun _ _ => rfl)) (hres _ _ _), hvars _, rfl, ?_, ?_⟩, ?_⟩
  · intro b off hp
    have hin : MemPlace.cell b off ∈ p ++ [] := by simpa using hp
    rw [hb.frozen (hlt _ hin)]
    exact hfz b off hin
  · intro ha
    simpa using hnd ha
  · intro x hx _
    simpa using hx
end
theorem tryKids : Kids Try.prog (· < Try.prog.types.size) := kids_rows (by kernel_rfl) (by kernel_rfl)
theorem tryFull : ∀ t e, t < Try.prog.types.size → Try.prog.underlying t = some (.slice e) → 0 < Try.prog.cellsOf e := slices_full_of Try.prog (by kernel_rfl)
theorem tryOwn : ownKnob Try.prog.godebug = none := by kernel_rfl
end Go.Proofs.Ytiooalhfhnddjaa
end
section
set_option linter.unusedVariables false
set_option linter.unusedSimpArgs false
namespace Go.Proofs.Ytiooalhfhnddjaa
open Go.ChangeShapes Go.WideShapes Go.ChangeAt Go.RowKit Go.Proofs.Ytiooalhfhnddjaa.PX Go.Proofs.YtiooalhfhnddjaaW.PrintWords
set_option maxRecDepth 100000 in
theorem ProgressRuns_post (H : Type) (enc : TypeId × Value → H) (W : World) (base : Nat) (args : Array Value) (ds gs : List (DataW H)) (before : List MemPlace)
    (hval : ∀ (j : Nat) t v, Try.f3.params[j]? = some t → args[j]? = some v → Value.okWide Try.prog W .any base t v)
    (hW : DataW.Whole enc Try.prog Try.f3.params.toList Rows.progressRunsSpec.vars false W args.toList ds gs before) (hk : Rows.uptoSmall H (ds ++ gs) = true) :
    Calls Try.prog 3 args W fun e W' => ∃ v, e = .returned v ∧ Rows.progressRunsSpec.post enc Try.prog Try.f3 false true false false W args v W' := by
  have hW' := hW
  obtain ⟨p, q, hA0, hV, rfl, hfz, hnd⟩ := hW
  have hA : DataW.TrodAll enc Try.prog W 0 (fun _ => true) true Try.f3.params.toList args.toList ds p := hA0
  rw [Try.params3] at hA hval
  obtain ⟨v0, vs0, d0, ds0, p0, q0, hargs, rfl, rfl, h0, r0⟩ := trodAll_cons hA
  obtain ⟨v1, vs1, d1, ds1, p1, q1, rfl, rfl, rfl, h1, r1⟩ := trodAll_cons r0
  obtain ⟨v2, vs2, d2, ds2, p2, q2, rfl, rfl, rfl, h2, r2⟩ := trodAll_cons r1
  obtain ⟨rfl, rfl, rfl⟩ := trodAll_nil r2
  obtain rfl : args = #[v0, v1, v2] := by cases args; simp_all
  obtain ⟨rfl, rfl⟩ := trodVars_none hV
  obtain ⟨cs, g, rfl, ⟨A, c, rfl, hc, hr⟩, hbg⟩ := arg_struct (fs := Try.prog.fieldsOf 24) (by kernel_rfl) opens_Graph (hval 0 24 v0 rfl rfl) h0
  obtain ⟨lA, lc, L, rfl, hlc, hL, hbL⟩ := arg_slice Try.underlying25 (by kernel_rfl) opens_Counts (hval 1 25 v1 rfl rfl) h1
  obtain ⟨sA, sc, S, rfl, hsc, hS, hbS⟩ := arg_slice Try.underlying26 (by kernel_rfl) opens_Stamp (hval 2 26 v2 rfl rfl) h2
  have hbulk : Rows.uptoBulkAll [d0, d1, d2] ≤ 1048576 := of_decide_eq_true hk
  simp only [Rows.uptoBulkAll] at hbulk
  have hgl := bulkG_len g
  have hLl := sum_len (f := bulkCounts) (fun _ => by unfold bulkCounts; omega) L
  have hSl := sum_len (f := bulkStamp) (fun _ => by unfold bulkStamp; omega) S
  have hil : ∀ o ∈ g, o.f1.length ≤ 1000000000 := fun o ho => by have := bulkG_ins ho; omega
  have hLn : ∀ x ∈ L, x.length ≤ 10000000 := fun x hx => by
    have h3 := sum_ge (f := bulkCounts) hx
    have h4 := bulkCounts_len x
    omega
  refine (ProgressRuns_calls W A c g hr hc hil (by omega) lA lc L hL (by omega) hLn sA sc S hS (by omega)).mono fun e W' ⟨he, hb⟩ => ?_
  subst he
  exact ⟨_, rfl, law_end tryKids tryFull hW' rfl (by rw [Try.params3]; exact of_decide_eq_true (by kernel_rfl)) rfl Try.underlying4 rfl rfl rfl hb⟩
set_option maxRecDepth 100000 in
theorem ProgressRuns_lifted (os : Os) (started : os.Started) (H : Type) (enc : TypeId × Value → H) (F : Stop.Interp) :
    ReturnsInHanded {} Try.checked os 3 .any ((Rows.OpenSpec.upto Rows.progressRunsSpec).pre6 enc Try.prog Try.f3 Rows.progressRunsUptoRow.domain false) (((Rows.OpenSpec.upto Rows.progressRunsSpec).at F).post enc Try.prog Try.f3 false true false false) := by
  refine returnsInHanded_of_cond (C := Try.checked) (s := Rows.OpenSpec.upto Rows.progressRunsSpec) (k := Rows.uptoSmall) rfl tryOwn started (by kernel_rfl) Try.func3
    (OpenSpec.witness (enc := enc) (C := Try.checked) (s := Rows.OpenSpec.upto Rows.progressRunsSpec) (k := Rows.uptoSmall) rfl false ⟨#[], #[.agg #[.slice none 0 0], .slice none 0 0, .slice none 0 0], []⟩ 8 (by kernel_rfl) (by kernel_rfl) (by kernel_rfl)
      (x := ([.agg [.nil], .nil, .nil], [], [])) (by kernel_rfl) rfl (by kernel_rfl)) ?_
  intro W base args ds gs before hval hW _ hk _
  exact ProgressRuns_post H enc W base args ds gs before hval hW hk
theorem ProgressRuns_proved : Rows.ProgressRunsUptoSaid :=
  OpenClaim.holds_of_cond 3 Try.f3 rfl rfl rfl rfl rfl rfl rfl ⟨rfl, rfl, rfl, rfl, rfl⟩ rfl rfl rfl rfl rfl (by kernel_rfl) Try.func3 (by kernel_rfl)
    (of_decide_eq_true (by kernel_rfl)) (by unfold Func.isWrapper; first | (rw [if_pos (by decide +kernel)]; kernel_rfl) | (rw [if_neg (by decide +kernel)]; exact ⟨rfl, rfl⟩))
    (fun os started H enc _ F => ProgressRuns_lifted os started H enc F)
end Go.Proofs.Ytiooalhfhnddjaa
end
