/- Lemmas for the statement in the last text of this claim: contracts of the functions that it calls, and plain facts. No condition. -/
import Derived.Test.YtiooalhfhnddjaaCPR4
set_option linter.unusedVariables false
set_option linter.unusedSimpArgs false
set_option linter.unusedSectionVars false
section
namespace Go.Proofs.Ytiooalhfhnddjaa.PX
open Go.RowKit Go.Proofs.YtiooalhfhnddjaaW.PrintWords Go.Proofs.YtiooalhfhnddjaaW.PrintLast Go.Proofs.YtiooalhfhnddjaaW.PrintMore

set_option linter.unusedVariables false
set_option linter.unusedSimpArgs false
mutual
def millraceref11_form.j0 : Nat → Int → Bool → Int → List Int → Int → Int → Int → Int → Int → Option (Bool)
  | 0, _, _, _, _, _, _, _, _, _ => none
  | k + 1, x4, x49, x128000, x128001, x128002, x128003, x128004, x128005, x128006 => if x49 = true then (if x128002 ≥ 0 then (if x128002 ≤ 6 then ((millraceref11_zero.f x128000 x128001 x128002 x128003 x128004 x128005 x128006).bind fun t131 => (some t131)) else (some false)) else (some false)) else (if x4 = 6 then (millraceref11_form.j1 k x4 (x4 == 6) x128000 x128001 x128002 x128003 x128004 x128005 x128006) else (millraceref11_form.j1 k x4 (x4 == 8) x128000 x128001 x128002 x128003 x128004 x128005 x128006))
def millraceref11_form.j1 : Nat → Int → Bool → Int → List Int → Int → Int → Int → Int → Int → Option (Bool)
  | 0, _, _, _, _, _, _, _, _, _ => none
  | k + 1, x4, x64, x128000, x128001, x128002, x128003, x128004, x128005, x128006 => if x64 = true then (if x128002 = 0 then ((millraceref11_zero.f x128000 x128001 x128002 x128003 x128004 x128005 x128006).bind fun t132 => (some t132)) else (some false)) else (if x4 = 7 then (if x128002 ≥ 0 then (if x128002 ≤ 5 then (if x128004 ≥ 1 then (if x128004 ≤ 16 then (if x128005 ≥ 0 then (some (decide (x128005 ≤ 3))) else (some false)) else (some false)) else (some false)) else (some false)) else (some false)) else (some false))
end
def millraceref11_form.f (k : Nat) (a0_0 : Int) (l0_1 : List Int) (a0_2 : Int) (a0_3 : Int) (a0_4 : Int) (a0_5 : Int) (a0_6 : Int) : Option (Bool) := if a0_0 = 1 then (if a0_2 ≥ (-1) then (if a0_2 ≤ 7 then ((millraceref11_zero.f a0_0 l0_1 a0_2 a0_3 a0_4 a0_5 a0_6).bind fun t128 => (some t128)) else (some false)) else (some false)) else (if a0_0 = 2 then (if a0_2 ≥ 0 then (if a0_2 ≤ 5 then ((millraceref11_zero.f a0_0 l0_1 a0_2 0 a0_4 a0_5 a0_6).bind fun t129 => (some t129)) else (some false)) else (some false)) else (if a0_0 = 3 then (if a0_2 ≥ 0 then (if a0_2 ≤ 3 then ((millraceref11_zero.f a0_0 l0_1 a0_2 0 a0_4 a0_5 a0_6).bind fun t130 => (some t130)) else (some false)) else (some false)) else (if a0_0 = 4 then (millraceref11_form.j0 k a0_0 (a0_0 == 4) a0_0 l0_1 a0_2 a0_3 a0_4 a0_5 a0_6) else (millraceref11_form.j0 k a0_0 (a0_0 == 5) a0_0 l0_1 a0_2 a0_3 a0_4 a0_5 a0_6))))
theorem millraceref11_form.mono_l : ∀ k, (∀ y0 y1 y2 y3 y4 y5 y6 y7 y8, LeO (millraceref11_form.j0 k y0 y1 y2 y3 y4 y5 y6 y7 y8) (millraceref11_form.j0 (k + 1) y0 y1 y2 y3 y4 y5 y6 y7 y8)) ∧ (∀ y0 y1 y2 y3 y4 y5 y6 y7 y8, LeO (millraceref11_form.j1 k y0 y1 y2 y3 y4 y5 y6 y7 y8) (millraceref11_form.j1 (k + 1) y0 y1 y2 y3 y4 y5 y6 y7 y8))
  | 0 => ⟨fun _ _ _ _ _ _ _ _ _ r h => by simp [millraceref11_form.j0] at h, fun _ _ _ _ _ _ _ _ _ r h => by simp [millraceref11_form.j1] at h⟩
  | k + 1 => by
    obtain ⟨ih0, ih1⟩ := millraceref11_form.mono_l k
    refine ⟨?_, ?_⟩
    · intro y0 y1 y2 y3 y4 y5 y6 y7 y8
      unfold millraceref11_form.j0
      repeat' first
      | (with_reducible exact ih0 _ _ _ _ _ _ _ _ _)
      | (with_reducible exact ih1 _ _ _ _ _ _ _ _ _)
      | (with_reducible exact LeO.refl _)
      | (with_reducible exact LeO.none _)
      | (with_reducible refine LeO.ite ?_ ?_)
      | (with_reducible refine LeO.bind ?_ (fun _ => ?_))
      | exact ih0 _ _ _ _ _ _ _ _ _
      | exact ih1 _ _ _ _ _ _ _ _ _
      | exact LeO.none _
      | refine LeO.ite ?_ ?_
      | refine LeO.bind ?_ (fun _ => ?_)
    · intro y0 y1 y2 y3 y4 y5 y6 y7 y8
      unfold millraceref11_form.j1
      repeat' first
      | (with_reducible exact ih0 _ _ _ _ _ _ _ _ _)
      | (with_reducible exact ih1 _ _ _ _ _ _ _ _ _)
      | (with_reducible exact LeO.refl _)
      | (with_reducible exact LeO.none _)
      | (with_reducible refine LeO.ite ?_ ?_)
      | (with_reducible refine LeO.bind ?_ (fun _ => ?_))
      | exact ih0 _ _ _ _ _ _ _ _ _
      | exact ih1 _ _ _ _ _ _ _ _ _
      | exact LeO.none _
      | refine LeO.ite ?_ ?_
      | refine LeO.bind ?_ (fun _ => ?_)
theorem millraceref11_form.mono : ∀ a0 a1 a2 a3 a4 a5 a6 k, LeO (millraceref11_form.f k a0 a1 a2 a3 a4 a5 a6) (millraceref11_form.f (k + 1) a0 a1 a2 a3 a4 a5 a6) := by
  intro a0 a1 a2 a3 a4 a5 a6 k
  obtain ⟨ih0, ih1⟩ := millraceref11_form.mono_l k
  unfold millraceref11_form.f
  repeat' first
      | (with_reducible exact ih0 _ _ _ _ _ _ _ _ _)
      | (with_reducible exact ih1 _ _ _ _ _ _ _ _ _)
      | (with_reducible exact LeO.refl _)
      | (with_reducible exact LeO.none _)
      | (with_reducible refine LeO.ite ?_ ?_)
      | (with_reducible refine LeO.bind ?_ (fun _ => ?_))
      | exact ih0 _ _ _ _ _ _ _ _ _
      | exact ih1 _ _ _ _ _ _ _ _ _
      | exact LeO.none _
      | refine LeO.ite ?_ ?_
      | refine LeO.bind ?_ (fun _ => ?_)
set_option maxHeartbeats 8000000 in
set_option maxRecDepth 100000 in
theorem millraceref11_form.calls (k : Nat) (a0_0 : Int) (A0_1 : Option Addr) (c0_1 : Nat) (l0_1 : List Int) (a0_2 : Int) (a0_3 : Int) (a0_4 : Int) (a0_5 : Int) (a0_6 : Int) (r : Bool) (w : World) (hr0_1 : Kd.C (Kd.int .i64) w A0_1 l0_1.length l0_1) (hc0_1 : l0_1.length ≤ c0_1) (h : millraceref11_form.f k a0_0 l0_1 a0_2 a0_3 a0_4 a0_5 a0_6 = some r) :
    Calls Try.prog 55 #[.agg #[.int .i64 a0_0, .slice A0_1 l0_1.length c0_1, .int .i64 a0_2, .int .u32 a0_3, .int .i64 a0_4, .int .i64 a0_5, .int .u32 a0_6]] w fun e w' => e = .returned (.bool r) ∧ Below w.heap.size w w' := by
  have hu95 := Try.underlying95
  have HR0_1 := Aside0.mk hr0_1
  have HC0_1 := Aside0.mk hc0_1
  clear hr0_1 hc0_1
  have HB := Aside0.mk (Below.refl w.heap.size w)
  have H : (if a0_0 = 1 then (if a0_2 ≥ (-1) then (if a0_2 ≤ 7 then ((millraceref11_zero.f a0_0 l0_1 a0_2 a0_3 a0_4 a0_5 a0_6).bind fun t128 => (some t128)) else (some false)) else (some false)) else (if a0_0 = 2 then (if a0_2 ≥ 0 then (if a0_2 ≤ 5 then ((millraceref11_zero.f a0_0 l0_1 a0_2 0 a0_4 a0_5 a0_6).bind fun t129 => (some t129)) else (some false)) else (some false)) else (if a0_0 = 3 then (if a0_2 ≥ 0 then (if a0_2 ≤ 3 then ((millraceref11_zero.f a0_0 l0_1 a0_2 0 a0_4 a0_5 a0_6).bind fun t130 => (some t130)) else (some false)) else (some false)) else (if a0_0 = 4 then (millraceref11_form.j0 k a0_0 (a0_0 == 4) a0_0 l0_1 a0_2 a0_3 a0_4 a0_5 a0_6) else (millraceref11_form.j0 k a0_0 (a0_0 == 5) a0_0 l0_1 a0_2 a0_3 a0_4 a0_5 a0_6))))) = some r := h
  clear h
  by_cases c2 : a0_0 = 1
  · rw [if_pos c2] at H
    have c2b0 : (a0_0 == 1) = true := beq_iff_eq.mpr c2
    have c2b1 : (a0_0 != 1) = false := bne_eq_false_iff_eq.mpr c2
    clear c2
    by_cases c3 : a0_2 ≥ (-1)
    · rw [if_pos c3] at H
      have c3b0 : decide ((-1) ≤ a0_2) = true := decide_eq_true c3
      clear c3
      by_cases c4 : a0_2 ≤ 7
      · rw [if_pos c4] at H
        have c4b0 : decide (a0_2 ≤ 7) = true := decide_eq_true c4
        clear c4
        replace H := Option.bind_eq_some_iff.mp H
        obtain ⟨t128, A50, H⟩ := H
        replace H : (some t128) = some r := H
        have A5 := Aside0.mk A50
        clear A50
        obtain rfl := Option.some.inj H
        go_enter Try.func55, Try.ntmps55
        go_wp2_with (first | ((with_reducible refine gate_dst (N := 1) rfl ?_); refine box_event ?hg (N := 1) ?hd (cs := #[.int .i64 a0_0, .slice A0_1 l0_1.length c0_1, .int .i64 a0_2, .int .u32 a0_3, .int .i64 a0_4, .int .i64 a0_5, .int .u32 a0_6]) (t := 95) ?hr ?_; (case hd => rfl); (case hg => rfl); (case hr => first | (go_simp; done) | (go_simp; rfl)); intro gb127 hg w6 hbox hb; have n0_ := Aside0.mk (below_step (by repeat (first | (with_reducible first | exact HB.out | apply below_alloc | apply pw_below_drewN | apply below_drew1) | exact HB.out)) hb); have n1_ := Aside0.mk (hbox); have n2_ := Aside0.mk ((by rw [hg]; exact (below_size (by repeat (first | (with_reducible first | exact HB.out | apply below_alloc | apply pw_below_drewN | apply below_drew1) | exact HB.out))) : w.heap.size ≤ gb127)); have n3_ := Aside0.mk ((by rw [hg]; exact (below_size (by repeat (first | (with_reducible first | exact HB.out | apply below_alloc | apply pw_below_drewN | apply below_drew1) | exact HB.out))) : w.heap.size ≤ gb127)); clear HB; have HB := n0_; have BK127 := n1_; have GW127 := n2_; have GE127 := n3_; clear n0_ n1_ n2_ n3_; clear hb hbox hg; have hcz7_0 : w6.cell? ⟨gb127, 0, none⟩ = some (.int .i64 a0_0) := (blk_cell BK127.out 0).trans rfl; have hcz7_1 : w6.cell? ⟨gb127, 1, none⟩ = some (.slice A0_1 l0_1.length c0_1) := (blk_cell BK127.out 1).trans rfl; have hcz7_2 : w6.cell? ⟨gb127, 2, none⟩ = some (.int .i64 a0_2) := (blk_cell BK127.out 2).trans rfl; have hcz7_3 : w6.cell? ⟨gb127, 3, none⟩ = some (.int .u32 a0_3) := (blk_cell BK127.out 3).trans rfl; have hcz7_4 : w6.cell? ⟨gb127, 4, none⟩ = some (.int .i64 a0_4) := (blk_cell BK127.out 4).trans rfl; have hcz7_5 : w6.cell? ⟨gb127, 5, none⟩ = some (.int .i64 a0_5) := (blk_cell BK127.out 5).trans rfl; have hcz7_6 : w6.cell? ⟨gb127, 6, none⟩ = some (.int .u32 a0_6) := (blk_cell BK127.out 6).trans rfl; have hfz7_0 := blk_frozen BK127.out 0; have hfz7_1 := blk_frozen BK127.out 1; have hfz7_2 := blk_frozen BK127.out 2; have hfz7_3 := blk_frozen BK127.out 3; have hfz7_4 := blk_frozen BK127.out 4; have hfz7_5 := blk_frozen BK127.out 5; have hfz7_6 := blk_frozen BK127.out 6) | (go_at_call 91; (with_reducible refine (millraceref11_zero.calls a0_0 _ _ l0_1 a0_2 a0_3 a0_4 a0_5 a0_6 t128 _ ?side1 ?side2 A5.out).mono ?_); (case side1 => repeat (first | exact (Kd.C_below HR0_1.out HB.out) | (with_reducible refine Kd.C_alloc ?_ _) | (with_reducible refine Kd.C_drewN ?_ _) | (with_reducible refine Kd.C_drew ?_))); (case side2 => exact HC0_1.out); rintro e w8 ⟨rfl, hb⟩; have n0_ := Aside0.mk (blk_below (g := gb127) (o := .cells #[.int .i64 a0_0, .slice A0_1 l0_1.length c0_1, .int .i64 a0_2, .int .u32 a0_3, .int .i64 a0_4, .int .i64 a0_5, .int .u32 a0_6] 95 (0, 0)) (by (with_reducible repeat (first | refine blk_drewN ?_ _ | refine blk_drew ?_ | refine blk_alloc ?_ _)); exact BK127.out) hb); have n1_ := Aside0.mk (below_step (by repeat (first | (with_reducible first | exact HB.out | apply below_alloc | apply pw_below_drewN | apply below_drew1 | refine below_set ?_ GE127.out) | exact HB.out)) hb); clear BK127; clear HB; have BK127 := n0_; have HB := n1_; clear n0_ n1_; (try clear hb); (try clear hb2); (try clear hk); (try clear hi)))
        go_ret
        exact ⟨by first | rfl | (simp [errW_none, errW_some] <;> rfl) | (simp [*, errW_none, errW_some] <;> rfl), by repeat (first | (with_reducible first | exact HB.out | apply below_alloc | apply pw_below_drewN | apply below_drew1 | refine below_set ?_ GE127.out) | exact HB.out)⟩
      · rw [if_neg c4] at H
        have c4b0 : decide (a0_2 ≤ 7) = false := decide_eq_false c4
        clear c4
        obtain rfl := Option.some.inj H
        go_enter Try.func55, Try.ntmps55
        go_wp2_with (first | ((with_reducible refine gate_dst (N := 1) rfl ?_); refine box_event ?hg (N := 1) ?hd (cs := #[.int .i64 a0_0, .slice A0_1 l0_1.length c0_1, .int .i64 a0_2, .int .u32 a0_3, .int .i64 a0_4, .int .i64 a0_5, .int .u32 a0_6]) (t := 95) ?hr ?_; (case hd => rfl); (case hg => rfl); (case hr => first | (go_simp; done) | (go_simp; rfl)); intro gb127 hg w9 hbox hb; have n0_ := Aside0.mk (below_step (by repeat (first | (with_reducible first | exact HB.out | apply below_alloc | apply pw_below_drewN | apply below_drew1) | exact HB.out)) hb); have n1_ := Aside0.mk (hbox); have n2_ := Aside0.mk ((by rw [hg]; exact (below_size (by repeat (first | (with_reducible first | exact HB.out | apply below_alloc | apply pw_below_drewN | apply below_drew1) | exact HB.out))) : w.heap.size ≤ gb127)); have n3_ := Aside0.mk ((by rw [hg]; exact (below_size (by repeat (first | (with_reducible first | exact HB.out | apply below_alloc | apply pw_below_drewN | apply below_drew1) | exact HB.out))) : w.heap.size ≤ gb127)); clear HB; have HB := n0_; have BK127 := n1_; have GW127 := n2_; have GE127 := n3_; clear n0_ n1_ n2_ n3_; clear hb hbox hg; have hcz10_0 : w9.cell? ⟨gb127, 0, none⟩ = some (.int .i64 a0_0) := (blk_cell BK127.out 0).trans rfl; have hcz10_1 : w9.cell? ⟨gb127, 1, none⟩ = some (.slice A0_1 l0_1.length c0_1) := (blk_cell BK127.out 1).trans rfl; have hcz10_2 : w9.cell? ⟨gb127, 2, none⟩ = some (.int .i64 a0_2) := (blk_cell BK127.out 2).trans rfl; have hcz10_3 : w9.cell? ⟨gb127, 3, none⟩ = some (.int .u32 a0_3) := (blk_cell BK127.out 3).trans rfl; have hcz10_4 : w9.cell? ⟨gb127, 4, none⟩ = some (.int .i64 a0_4) := (blk_cell BK127.out 4).trans rfl; have hcz10_5 : w9.cell? ⟨gb127, 5, none⟩ = some (.int .i64 a0_5) := (blk_cell BK127.out 5).trans rfl; have hcz10_6 : w9.cell? ⟨gb127, 6, none⟩ = some (.int .u32 a0_6) := (blk_cell BK127.out 6).trans rfl; have hfz10_0 := blk_frozen BK127.out 0; have hfz10_1 := blk_frozen BK127.out 1; have hfz10_2 := blk_frozen BK127.out 2; have hfz10_3 := blk_frozen BK127.out 3; have hfz10_4 := blk_frozen BK127.out 4; have hfz10_5 := blk_frozen BK127.out 5; have hfz10_6 := blk_frozen BK127.out 6))
        go_ret
        exact ⟨by first | rfl | (simp [errW_none, errW_some] <;> rfl) | (simp [*, errW_none, errW_some] <;> rfl), by repeat (first | (with_reducible first | exact HB.out | apply below_alloc | apply pw_below_drewN | apply below_drew1 | refine below_set ?_ GE127.out) | exact HB.out)⟩
    · rw [if_neg c3] at H
      have c3b0 : decide ((-1) ≤ a0_2) = false := decide_eq_false c3
      clear c3
      obtain rfl := Option.some.inj H
      go_enter Try.func55, Try.ntmps55
      go_wp2_with (first | ((with_reducible refine gate_dst (N := 1) rfl ?_); refine box_event ?hg (N := 1) ?hd (cs := #[.int .i64 a0_0, .slice A0_1 l0_1.length c0_1, .int .i64 a0_2, .int .u32 a0_3, .int .i64 a0_4, .int .i64 a0_5, .int .u32 a0_6]) (t := 95) ?hr ?_; (case hd => rfl); (case hg => rfl); (case hr => first | (go_simp; done) | (go_simp; rfl)); intro gb127 hg w11 hbox hb; have n0_ := Aside0.mk (below_step (by repeat (first | (with_reducible first | exact HB.out | apply below_alloc | apply pw_below_drewN | apply below_drew1) | exact HB.out)) hb); have n1_ := Aside0.mk (hbox); have n2_ := Aside0.mk ((by rw [hg]; exact (below_size (by repeat (first | (with_reducible first | exact HB.out | apply below_alloc | apply pw_below_drewN | apply below_drew1) | exact HB.out))) : w.heap.size ≤ gb127)); have n3_ := Aside0.mk ((by rw [hg]; exact (below_size (by repeat (first | (with_reducible first | exact HB.out | apply below_alloc | apply pw_below_drewN | apply below_drew1) | exact HB.out))) : w.heap.size ≤ gb127)); clear HB; have HB := n0_; have BK127 := n1_; have GW127 := n2_; have GE127 := n3_; clear n0_ n1_ n2_ n3_; clear hb hbox hg; have hcz12_0 : w11.cell? ⟨gb127, 0, none⟩ = some (.int .i64 a0_0) := (blk_cell BK127.out 0).trans rfl; have hcz12_1 : w11.cell? ⟨gb127, 1, none⟩ = some (.slice A0_1 l0_1.length c0_1) := (blk_cell BK127.out 1).trans rfl; have hcz12_2 : w11.cell? ⟨gb127, 2, none⟩ = some (.int .i64 a0_2) := (blk_cell BK127.out 2).trans rfl; have hcz12_3 : w11.cell? ⟨gb127, 3, none⟩ = some (.int .u32 a0_3) := (blk_cell BK127.out 3).trans rfl; have hcz12_4 : w11.cell? ⟨gb127, 4, none⟩ = some (.int .i64 a0_4) := (blk_cell BK127.out 4).trans rfl; have hcz12_5 : w11.cell? ⟨gb127, 5, none⟩ = some (.int .i64 a0_5) := (blk_cell BK127.out 5).trans rfl; have hcz12_6 : w11.cell? ⟨gb127, 6, none⟩ = some (.int .u32 a0_6) := (blk_cell BK127.out 6).trans rfl; have hfz12_0 := blk_frozen BK127.out 0; have hfz12_1 := blk_frozen BK127.out 1; have hfz12_2 := blk_frozen BK127.out 2; have hfz12_3 := blk_frozen BK127.out 3; have hfz12_4 := blk_frozen BK127.out 4; have hfz12_5 := blk_frozen BK127.out 5; have hfz12_6 := blk_frozen BK127.out 6))
      go_ret
      exact ⟨by first | rfl | (simp [errW_none, errW_some] <;> rfl) | (simp [*, errW_none, errW_some] <;> rfl), by repeat (first | (with_reducible first | exact HB.out | apply below_alloc | apply pw_below_drewN | apply below_drew1 | refine below_set ?_ GE127.out) | exact HB.out)⟩
  · rw [if_neg c2] at H
    have c2b0 : (a0_0 == 1) = false := beq_eq_false_iff_ne.mpr c2
    have c2b1 : (a0_0 != 1) = true := bne_iff_ne.mpr c2
    by_cases c13 : a0_0 = 2
    · rw [if_pos c13] at H
      have c13b0 : (a0_0 == 2) = true := beq_iff_eq.mpr c13
      have c13b1 : (a0_0 != 2) = false := bne_eq_false_iff_eq.mpr c13
      clear c13
      by_cases c14 : a0_2 ≥ 0
      · rw [if_pos c14] at H
        have c14b0 : decide (0 ≤ a0_2) = true := decide_eq_true c14
        clear c14
        by_cases c15 : a0_2 ≤ 5
        · rw [if_pos c15] at H
          have c15b0 : decide (a0_2 ≤ 5) = true := decide_eq_true c15
          clear c15
          replace H := Option.bind_eq_some_iff.mp H
          obtain ⟨t129, A160, H⟩ := H
          replace H : (some t129) = some r := H
          have A16 := Aside0.mk A160
          clear A160
          obtain rfl := Option.some.inj H
          go_enter Try.func55, Try.ntmps55
          go_wp2_with (first | ((with_reducible refine gate_dst (N := 1) rfl ?_); refine box_event ?hg (N := 1) ?hd (cs := #[.int .i64 a0_0, .slice A0_1 l0_1.length c0_1, .int .i64 a0_2, .int .u32 a0_3, .int .i64 a0_4, .int .i64 a0_5, .int .u32 a0_6]) (t := 95) ?hr ?_; (case hd => rfl); (case hg => rfl); (case hr => first | (go_simp; done) | (go_simp; rfl)); intro gb127 hg w17 hbox hb; have n0_ := Aside0.mk (below_step (by repeat (first | (with_reducible first | exact HB.out | apply below_alloc | apply pw_below_drewN | apply below_drew1) | exact HB.out)) hb); have n1_ := Aside0.mk (hbox); have n2_ := Aside0.mk ((by rw [hg]; exact (below_size (by repeat (first | (with_reducible first | exact HB.out | apply below_alloc | apply pw_below_drewN | apply below_drew1) | exact HB.out))) : w.heap.size ≤ gb127)); have n3_ := Aside0.mk ((by rw [hg]; exact (below_size (by repeat (first | (with_reducible first | exact HB.out | apply below_alloc | apply pw_below_drewN | apply below_drew1) | exact HB.out))) : w.heap.size ≤ gb127)); clear HB; have HB := n0_; have BK127 := n1_; have GW127 := n2_; have GE127 := n3_; clear n0_ n1_ n2_ n3_; clear hb hbox hg; have hcz18_0 : w17.cell? ⟨gb127, 0, none⟩ = some (.int .i64 a0_0) := (blk_cell BK127.out 0).trans rfl; have hcz18_1 : w17.cell? ⟨gb127, 1, none⟩ = some (.slice A0_1 l0_1.length c0_1) := (blk_cell BK127.out 1).trans rfl; have hcz18_2 : w17.cell? ⟨gb127, 2, none⟩ = some (.int .i64 a0_2) := (blk_cell BK127.out 2).trans rfl; have hcz18_3 : w17.cell? ⟨gb127, 3, none⟩ = some (.int .u32 a0_3) := (blk_cell BK127.out 3).trans rfl; have hcz18_4 : w17.cell? ⟨gb127, 4, none⟩ = some (.int .i64 a0_4) := (blk_cell BK127.out 4).trans rfl; have hcz18_5 : w17.cell? ⟨gb127, 5, none⟩ = some (.int .i64 a0_5) := (blk_cell BK127.out 5).trans rfl; have hcz18_6 : w17.cell? ⟨gb127, 6, none⟩ = some (.int .u32 a0_6) := (blk_cell BK127.out 6).trans rfl; have hfz18_0 := blk_frozen BK127.out 0; have hfz18_1 := blk_frozen BK127.out 1; have hfz18_2 := blk_frozen BK127.out 2; have hfz18_3 := blk_frozen BK127.out 3; have hfz18_4 := blk_frozen BK127.out 4; have hfz18_5 := blk_frozen BK127.out 5; have hfz18_6 := blk_frozen BK127.out 6) | (go_at_call 91; (with_reducible refine (millraceref11_zero.calls a0_0 _ _ l0_1 a0_2 0 a0_4 a0_5 a0_6 t129 _ ?side1 ?side2 A16.out).mono ?_); (case side1 => exact Kd.C_below HR0_1.out (by repeat (first | (with_reducible first | exact HB.out | apply below_alloc | apply pw_below_drewN | apply below_drew1 | refine below_set ?_ GE127.out) | exact HB.out))); (case side2 => exact HC0_1.out); rintro e w19 ⟨rfl, hb⟩; have n0_ := Aside0.mk (blk_below (g := gb127) (o := .cells #[.int .i64 a0_0, .slice A0_1 l0_1.length c0_1, .int .i64 a0_2, .int .u32 0, .int .i64 a0_4, .int .i64 a0_5, .int .u32 a0_6] 95 (0, 0)) (by (with_reducible repeat (first | refine blk_drewN ?_ _ | refine blk_drew ?_ | refine blk_alloc ?_ _)); refine blk_put (cs := #[.int .i64 a0_0, .slice A0_1 l0_1.length c0_1, .int .i64 a0_2, .int .u32 a0_3, .int .i64 a0_4, .int .i64 a0_5, .int .u32 a0_6]) ?_ 3 _ rfl; (with_reducible repeat (first | refine blk_drewN ?_ _ | refine blk_drew ?_ | refine blk_alloc ?_ _)); exact BK127.out) hb); have n1_ := Aside0.mk (below_step (by repeat (first | (with_reducible first | exact HB.out | apply below_alloc | apply pw_below_drewN | apply below_drew1 | refine below_set ?_ GE127.out) | exact HB.out)) hb); clear BK127; clear HB; have BK127 := n0_; have HB := n1_; clear n0_ n1_; (try clear hb); (try clear hb2); (try clear hk); (try clear hi)))
          go_ret
          exact ⟨by first | rfl | (simp [errW_none, errW_some] <;> rfl) | (simp [*, errW_none, errW_some] <;> rfl), by repeat (first | (with_reducible first | exact HB.out | apply below_alloc | apply pw_below_drewN | apply below_drew1 | refine below_set ?_ GE127.out) | exact HB.out)⟩
        · rw [if_neg c15] at H
          have c15b0 : decide (a0_2 ≤ 5) = false := decide_eq_false c15
          clear c15
          obtain rfl := Option.some.inj H
          go_enter Try.func55, Try.ntmps55
          go_wp2_with (first | ((with_reducible refine gate_dst (N := 1) rfl ?_); refine box_event ?hg (N := 1) ?hd (cs := #[.int .i64 a0_0, .slice A0_1 l0_1.length c0_1, .int .i64 a0_2, .int .u32 a0_3, .int .i64 a0_4, .int .i64 a0_5, .int .u32 a0_6]) (t := 95) ?hr ?_; (case hd => rfl); (case hg => rfl); (case hr => first | (go_simp; done) | (go_simp; rfl)); intro gb127 hg w20 hbox hb; have n0_ := Aside0.mk (below_step (by repeat (first | (with_reducible first | exact HB.out | apply below_alloc | apply pw_below_drewN | apply below_drew1) | exact HB.out)) hb); have n1_ := Aside0.mk (hbox); have n2_ := Aside0.mk ((by rw [hg]; exact (below_size (by repeat (first | (with_reducible first | exact HB.out | apply below_alloc | apply pw_below_drewN | apply below_drew1) | exact HB.out))) : w.heap.size ≤ gb127)); have n3_ := Aside0.mk ((by rw [hg]; exact (below_size (by repeat (first | (with_reducible first | exact HB.out | apply below_alloc | apply pw_below_drewN | apply below_drew1) | exact HB.out))) : w.heap.size ≤ gb127)); clear HB; have HB := n0_; have BK127 := n1_; have GW127 := n2_; have GE127 := n3_; clear n0_ n1_ n2_ n3_; clear hb hbox hg; have hcz21_0 : w20.cell? ⟨gb127, 0, none⟩ = some (.int .i64 a0_0) := (blk_cell BK127.out 0).trans rfl; have hcz21_1 : w20.cell? ⟨gb127, 1, none⟩ = some (.slice A0_1 l0_1.length c0_1) := (blk_cell BK127.out 1).trans rfl; have hcz21_2 : w20.cell? ⟨gb127, 2, none⟩ = some (.int .i64 a0_2) := (blk_cell BK127.out 2).trans rfl; have hcz21_3 : w20.cell? ⟨gb127, 3, none⟩ = some (.int .u32 a0_3) := (blk_cell BK127.out 3).trans rfl; have hcz21_4 : w20.cell? ⟨gb127, 4, none⟩ = some (.int .i64 a0_4) := (blk_cell BK127.out 4).trans rfl; have hcz21_5 : w20.cell? ⟨gb127, 5, none⟩ = some (.int .i64 a0_5) := (blk_cell BK127.out 5).trans rfl; have hcz21_6 : w20.cell? ⟨gb127, 6, none⟩ = some (.int .u32 a0_6) := (blk_cell BK127.out 6).trans rfl; have hfz21_0 := blk_frozen BK127.out 0; have hfz21_1 := blk_frozen BK127.out 1; have hfz21_2 := blk_frozen BK127.out 2; have hfz21_3 := blk_frozen BK127.out 3; have hfz21_4 := blk_frozen BK127.out 4; have hfz21_5 := blk_frozen BK127.out 5; have hfz21_6 := blk_frozen BK127.out 6))
          go_ret
          exact ⟨by first | rfl | (simp [errW_none, errW_some] <;> rfl) | (simp [*, errW_none, errW_some] <;> rfl), by repeat (first | (with_reducible first | exact HB.out | apply below_alloc | apply pw_below_drewN | apply below_drew1 | refine below_set ?_ GE127.out) | exact HB.out)⟩
      · rw [if_neg c14] at H
        have c14b0 : decide (0 ≤ a0_2) = false := decide_eq_false c14
        clear c14
        obtain rfl := Option.some.inj H
        go_enter Try.func55, Try.ntmps55
        go_wp2_with (first | ((with_reducible refine gate_dst (N := 1) rfl ?_); refine box_event ?hg (N := 1) ?hd (cs := #[.int .i64 a0_0, .slice A0_1 l0_1.length c0_1, .int .i64 a0_2, .int .u32 a0_3, .int .i64 a0_4, .int .i64 a0_5, .int .u32 a0_6]) (t := 95) ?hr ?_; (case hd => rfl); (case hg => rfl); (case hr => first | (go_simp; done) | (go_simp; rfl)); intro gb127 hg w22 hbox hb; have n0_ := Aside0.mk (below_step (by repeat (first | (with_reducible first | exact HB.out | apply below_alloc | apply pw_below_drewN | apply below_drew1) | exact HB.out)) hb); have n1_ := Aside0.mk (hbox); have n2_ := Aside0.mk ((by rw [hg]; exact (below_size (by repeat (first | (with_reducible first | exact HB.out | apply below_alloc | apply pw_below_drewN | apply below_drew1) | exact HB.out))) : w.heap.size ≤ gb127)); have n3_ := Aside0.mk ((by rw [hg]; exact (below_size (by repeat (first | (with_reducible first | exact HB.out | apply below_alloc | apply pw_below_drewN | apply below_drew1) | exact HB.out))) : w.heap.size ≤ gb127)); clear HB; have HB := n0_; have BK127 := n1_; have GW127 := n2_; have GE127 := n3_; clear n0_ n1_ n2_ n3_; clear hb hbox hg; have hcz23_0 : w22.cell? ⟨gb127, 0, none⟩ = some (.int .i64 a0_0) := (blk_cell BK127.out 0).trans rfl; have hcz23_1 : w22.cell? ⟨gb127, 1, none⟩ = some (.slice A0_1 l0_1.length c0_1) := (blk_cell BK127.out 1).trans rfl; have hcz23_2 : w22.cell? ⟨gb127, 2, none⟩ = some (.int .i64 a0_2) := (blk_cell BK127.out 2).trans rfl; have hcz23_3 : w22.cell? ⟨gb127, 3, none⟩ = some (.int .u32 a0_3) := (blk_cell BK127.out 3).trans rfl; have hcz23_4 : w22.cell? ⟨gb127, 4, none⟩ = some (.int .i64 a0_4) := (blk_cell BK127.out 4).trans rfl; have hcz23_5 : w22.cell? ⟨gb127, 5, none⟩ = some (.int .i64 a0_5) := (blk_cell BK127.out 5).trans rfl; have hcz23_6 : w22.cell? ⟨gb127, 6, none⟩ = some (.int .u32 a0_6) := (blk_cell BK127.out 6).trans rfl; have hfz23_0 := blk_frozen BK127.out 0; have hfz23_1 := blk_frozen BK127.out 1; have hfz23_2 := blk_frozen BK127.out 2; have hfz23_3 := blk_frozen BK127.out 3; have hfz23_4 := blk_frozen BK127.out 4; have hfz23_5 := blk_frozen BK127.out 5; have hfz23_6 := blk_frozen BK127.out 6))
        go_ret
        exact ⟨by first | rfl | (simp [errW_none, errW_some] <;> rfl) | (simp [*, errW_none, errW_some] <;> rfl), by repeat (first | (with_reducible first | exact HB.out | apply below_alloc | apply pw_below_drewN | apply below_drew1 | refine below_set ?_ GE127.out) | exact HB.out)⟩
    · rw [if_neg c13] at H
      have c13b0 : (a0_0 == 2) = false := beq_eq_false_iff_ne.mpr c13
      have c13b1 : (a0_0 != 2) = true := bne_iff_ne.mpr c13
      by_cases c24 : a0_0 = 3
      · rw [if_pos c24] at H
        have c24b0 : (a0_0 == 3) = true := beq_iff_eq.mpr c24
        have c24b1 : (a0_0 != 3) = false := bne_eq_false_iff_eq.mpr c24
        clear c24
        by_cases c25 : a0_2 ≥ 0
        · rw [if_pos c25] at H
          have c25b0 : decide (0 ≤ a0_2) = true := decide_eq_true c25
          clear c25
          by_cases c26 : a0_2 ≤ 3
          · rw [if_pos c26] at H
            have c26b0 : decide (a0_2 ≤ 3) = true := decide_eq_true c26
            clear c26
            replace H := Option.bind_eq_some_iff.mp H
            obtain ⟨t130, A270, H⟩ := H
            replace H : (some t130) = some r := H
            have A27 := Aside0.mk A270
            clear A270
            obtain rfl := Option.some.inj H
            go_enter Try.func55, Try.ntmps55
            go_wp2_with (first | ((with_reducible refine gate_dst (N := 1) rfl ?_); refine box_event ?hg (N := 1) ?hd (cs := #[.int .i64 a0_0, .slice A0_1 l0_1.length c0_1, .int .i64 a0_2, .int .u32 a0_3, .int .i64 a0_4, .int .i64 a0_5, .int .u32 a0_6]) (t := 95) ?hr ?_; (case hd => rfl); (case hg => rfl); (case hr => first | (go_simp; done) | (go_simp; rfl)); intro gb127 hg w28 hbox hb; have n0_ := Aside0.mk (below_step (by repeat (first | (with_reducible first | exact HB.out | apply below_alloc | apply pw_below_drewN | apply below_drew1) | exact HB.out)) hb); have n1_ := Aside0.mk (hbox); have n2_ := Aside0.mk ((by rw [hg]; exact (below_size (by repeat (first | (with_reducible first | exact HB.out | apply below_alloc | apply pw_below_drewN | apply below_drew1) | exact HB.out))) : w.heap.size ≤ gb127)); have n3_ := Aside0.mk ((by rw [hg]; exact (below_size (by repeat (first | (with_reducible first | exact HB.out | apply below_alloc | apply pw_below_drewN | apply below_drew1) | exact HB.out))) : w.heap.size ≤ gb127)); clear HB; have HB := n0_; have BK127 := n1_; have GW127 := n2_; have GE127 := n3_; clear n0_ n1_ n2_ n3_; clear hb hbox hg; have hcz29_0 : w28.cell? ⟨gb127, 0, none⟩ = some (.int .i64 a0_0) := (blk_cell BK127.out 0).trans rfl; have hcz29_1 : w28.cell? ⟨gb127, 1, none⟩ = some (.slice A0_1 l0_1.length c0_1) := (blk_cell BK127.out 1).trans rfl; have hcz29_2 : w28.cell? ⟨gb127, 2, none⟩ = some (.int .i64 a0_2) := (blk_cell BK127.out 2).trans rfl; have hcz29_3 : w28.cell? ⟨gb127, 3, none⟩ = some (.int .u32 a0_3) := (blk_cell BK127.out 3).trans rfl; have hcz29_4 : w28.cell? ⟨gb127, 4, none⟩ = some (.int .i64 a0_4) := (blk_cell BK127.out 4).trans rfl; have hcz29_5 : w28.cell? ⟨gb127, 5, none⟩ = some (.int .i64 a0_5) := (blk_cell BK127.out 5).trans rfl; have hcz29_6 : w28.cell? ⟨gb127, 6, none⟩ = some (.int .u32 a0_6) := (blk_cell BK127.out 6).trans rfl; have hfz29_0 := blk_frozen BK127.out 0; have hfz29_1 := blk_frozen BK127.out 1; have hfz29_2 := blk_frozen BK127.out 2; have hfz29_3 := blk_frozen BK127.out 3; have hfz29_4 := blk_frozen BK127.out 4; have hfz29_5 := blk_frozen BK127.out 5; have hfz29_6 := blk_frozen BK127.out 6) | (go_at_call 91; (with_reducible refine (millraceref11_zero.calls a0_0 _ _ l0_1 a0_2 0 a0_4 a0_5 a0_6 t130 _ ?side1 ?side2 A27.out).mono ?_); (case side1 => exact Kd.C_below HR0_1.out (by repeat (first | (with_reducible first | exact HB.out | apply below_alloc | apply pw_below_drewN | apply below_drew1 | refine below_set ?_ GE127.out) | exact HB.out))); (case side2 => exact HC0_1.out); rintro e w30 ⟨rfl, hb⟩; have n0_ := Aside0.mk (blk_below (g := gb127) (o := .cells #[.int .i64 a0_0, .slice A0_1 l0_1.length c0_1, .int .i64 a0_2, .int .u32 0, .int .i64 a0_4, .int .i64 a0_5, .int .u32 a0_6] 95 (0, 0)) (by (with_reducible repeat (first | refine blk_drewN ?_ _ | refine blk_drew ?_ | refine blk_alloc ?_ _)); refine blk_put (cs := #[.int .i64 a0_0, .slice A0_1 l0_1.length c0_1, .int .i64 a0_2, .int .u32 a0_3, .int .i64 a0_4, .int .i64 a0_5, .int .u32 a0_6]) ?_ 3 _ rfl; (with_reducible repeat (first | refine blk_drewN ?_ _ | refine blk_drew ?_ | refine blk_alloc ?_ _)); exact BK127.out) hb); have n1_ := Aside0.mk (below_step (by repeat (first | (with_reducible first | exact HB.out | apply below_alloc | apply pw_below_drewN | apply below_drew1 | refine below_set ?_ GE127.out) | exact HB.out)) hb); clear BK127; clear HB; have BK127 := n0_; have HB := n1_; clear n0_ n1_; (try clear hb); (try clear hb2); (try clear hk); (try clear hi)))
            go_ret
            exact ⟨by first | rfl | (simp [errW_none, errW_some] <;> rfl) | (simp [*, errW_none, errW_some] <;> rfl), by repeat (first | (with_reducible first | exact HB.out | apply below_alloc | apply pw_below_drewN | apply below_drew1 | refine below_set ?_ GE127.out) | exact HB.out)⟩
          · rw [if_neg c26] at H
            have c26b0 : decide (a0_2 ≤ 3) = false := decide_eq_false c26
            clear c26
            obtain rfl := Option.some.inj H
            go_enter Try.func55, Try.ntmps55
            go_wp2_with (first | ((with_reducible refine gate_dst (N := 1) rfl ?_); refine box_event ?hg (N := 1) ?hd (cs := #[.int .i64 a0_0, .slice A0_1 l0_1.length c0_1, .int .i64 a0_2, .int .u32 a0_3, .int .i64 a0_4, .int .i64 a0_5, .int .u32 a0_6]) (t := 95) ?hr ?_; (case hd => rfl); (case hg => rfl); (case hr => first | (go_simp; done) | (go_simp; rfl)); intro gb127 hg w31 hbox hb; have n0_ := Aside0.mk (below_step (by repeat (first | (with_reducible first | exact HB.out | apply below_alloc | apply pw_below_drewN | apply below_drew1) | exact HB.out)) hb); have n1_ := Aside0.mk (hbox); have n2_ := Aside0.mk ((by rw [hg]; exact (below_size (by repeat (first | (with_reducible first | exact HB.out | apply below_alloc | apply pw_below_drewN | apply below_drew1) | exact HB.out))) : w.heap.size ≤ gb127)); have n3_ := Aside0.mk ((by rw [hg]; exact (below_size (by repeat (first | (with_reducible first | exact HB.out | apply below_alloc | apply pw_below_drewN | apply below_drew1) | exact HB.out))) : w.heap.size ≤ gb127)); clear HB; have HB := n0_; have BK127 := n1_; have GW127 := n2_; have GE127 := n3_; clear n0_ n1_ n2_ n3_; clear hb hbox hg; have hcz32_0 : w31.cell? ⟨gb127, 0, none⟩ = some (.int .i64 a0_0) := (blk_cell BK127.out 0).trans rfl; have hcz32_1 : w31.cell? ⟨gb127, 1, none⟩ = some (.slice A0_1 l0_1.length c0_1) := (blk_cell BK127.out 1).trans rfl; have hcz32_2 : w31.cell? ⟨gb127, 2, none⟩ = some (.int .i64 a0_2) := (blk_cell BK127.out 2).trans rfl; have hcz32_3 : w31.cell? ⟨gb127, 3, none⟩ = some (.int .u32 a0_3) := (blk_cell BK127.out 3).trans rfl; have hcz32_4 : w31.cell? ⟨gb127, 4, none⟩ = some (.int .i64 a0_4) := (blk_cell BK127.out 4).trans rfl; have hcz32_5 : w31.cell? ⟨gb127, 5, none⟩ = some (.int .i64 a0_5) := (blk_cell BK127.out 5).trans rfl; have hcz32_6 : w31.cell? ⟨gb127, 6, none⟩ = some (.int .u32 a0_6) := (blk_cell BK127.out 6).trans rfl; have hfz32_0 := blk_frozen BK127.out 0; have hfz32_1 := blk_frozen BK127.out 1; have hfz32_2 := blk_frozen BK127.out 2; have hfz32_3 := blk_frozen BK127.out 3; have hfz32_4 := blk_frozen BK127.out 4; have hfz32_5 := blk_frozen BK127.out 5; have hfz32_6 := blk_frozen BK127.out 6))
            go_ret
            exact ⟨by first | rfl | (simp [errW_none, errW_some] <;> rfl) | (simp [*, errW_none, errW_some] <;> rfl), by repeat (first | (with_reducible first | exact HB.out | apply below_alloc | apply pw_below_drewN | apply below_drew1 | refine below_set ?_ GE127.out) | exact HB.out)⟩
        · rw [if_neg c25] at H
          have c25b0 : decide (0 ≤ a0_2) = false := decide_eq_false c25
          clear c25
          obtain rfl := Option.some.inj H
          go_enter Try.func55, Try.ntmps55
          go_wp2_with (first | ((with_reducible refine gate_dst (N := 1) rfl ?_); refine box_event ?hg (N := 1) ?hd (cs := #[.int .i64 a0_0, .slice A0_1 l0_1.length c0_1, .int .i64 a0_2, .int .u32 a0_3, .int .i64 a0_4, .int .i64 a0_5, .int .u32 a0_6]) (t := 95) ?hr ?_; (case hd => rfl); (case hg => rfl); (case hr => first | (go_simp; done) | (go_simp; rfl)); intro gb127 hg w33 hbox hb; have n0_ := Aside0.mk (below_step (by repeat (first | (with_reducible first | exact HB.out | apply below_alloc | apply pw_below_drewN | apply below_drew1) | exact HB.out)) hb); have n1_ := Aside0.mk (hbox); have n2_ := Aside0.mk ((by rw [hg]; exact (below_size (by repeat (first | (with_reducible first | exact HB.out | apply below_alloc | apply pw_below_drewN | apply below_drew1) | exact HB.out))) : w.heap.size ≤ gb127)); have n3_ := Aside0.mk ((by rw [hg]; exact (below_size (by repeat (first | (with_reducible first | exact HB.out | apply below_alloc | apply pw_below_drewN | apply below_drew1) | exact HB.out))) : w.heap.size ≤ gb127)); clear HB; have HB := n0_; have BK127 := n1_; have GW127 := n2_; have GE127 := n3_; clear n0_ n1_ n2_ n3_; clear hb hbox hg; have hcz34_0 : w33.cell? ⟨gb127, 0, none⟩ = some (.int .i64 a0_0) := (blk_cell BK127.out 0).trans rfl; have hcz34_1 : w33.cell? ⟨gb127, 1, none⟩ = some (.slice A0_1 l0_1.length c0_1) := (blk_cell BK127.out 1).trans rfl; have hcz34_2 : w33.cell? ⟨gb127, 2, none⟩ = some (.int .i64 a0_2) := (blk_cell BK127.out 2).trans rfl; have hcz34_3 : w33.cell? ⟨gb127, 3, none⟩ = some (.int .u32 a0_3) := (blk_cell BK127.out 3).trans rfl; have hcz34_4 : w33.cell? ⟨gb127, 4, none⟩ = some (.int .i64 a0_4) := (blk_cell BK127.out 4).trans rfl; have hcz34_5 : w33.cell? ⟨gb127, 5, none⟩ = some (.int .i64 a0_5) := (blk_cell BK127.out 5).trans rfl; have hcz34_6 : w33.cell? ⟨gb127, 6, none⟩ = some (.int .u32 a0_6) := (blk_cell BK127.out 6).trans rfl; have hfz34_0 := blk_frozen BK127.out 0; have hfz34_1 := blk_frozen BK127.out 1; have hfz34_2 := blk_frozen BK127.out 2; have hfz34_3 := blk_frozen BK127.out 3; have hfz34_4 := blk_frozen BK127.out 4; have hfz34_5 := blk_frozen BK127.out 5; have hfz34_6 := blk_frozen BK127.out 6))
          go_ret
          exact ⟨by first | rfl | (simp [errW_none, errW_some] <;> rfl) | (simp [*, errW_none, errW_some] <;> rfl), by repeat (first | (with_reducible first | exact HB.out | apply below_alloc | apply pw_below_drewN | apply below_drew1 | refine below_set ?_ GE127.out) | exact HB.out)⟩
      · rw [if_neg c24] at H
        have c24b0 : (a0_0 == 3) = false := beq_eq_false_iff_ne.mpr c24
        have c24b1 : (a0_0 != 3) = true := bne_iff_ne.mpr c24
        have HC35 := Aside0.mk H
        clear H
        go_enter Try.func55, Try.ntmps55
        go_upto_if 49 with (first | ((with_reducible refine gate_dst (N := 1) rfl ?_); refine box_event ?hg (N := 1) ?hd (cs := #[.int .i64 a0_0, .slice A0_1 l0_1.length c0_1, .int .i64 a0_2, .int .u32 a0_3, .int .i64 a0_4, .int .i64 a0_5, .int .u32 a0_6]) (t := 95) ?hr ?_; (case hd => rfl); (case hg => rfl); (case hr => first | (go_simp; done) | (go_simp; rfl)); intro gb127 hg w36 hbox hb; have n0_ := Aside0.mk (below_step (by repeat (first | (with_reducible first | exact HB.out | apply below_alloc | apply pw_below_drewN | apply below_drew1) | exact HB.out)) hb); have n1_ := Aside0.mk (hbox); have n2_ := Aside0.mk ((by rw [hg]; exact (below_size (by repeat (first | (with_reducible first | exact HB.out | apply below_alloc | apply pw_below_drewN | apply below_drew1) | exact HB.out))) : w.heap.size ≤ gb127)); have n3_ := Aside0.mk ((by rw [hg]; exact (below_size (by repeat (first | (with_reducible first | exact HB.out | apply below_alloc | apply pw_below_drewN | apply below_drew1) | exact HB.out))) : w.heap.size ≤ gb127)); clear HB; have HB := n0_; have BK127 := n1_; have GW127 := n2_; have GE127 := n3_; clear n0_ n1_ n2_ n3_; clear hb hbox hg; have hcz37_0 : w36.cell? ⟨gb127, 0, none⟩ = some (.int .i64 a0_0) := (blk_cell BK127.out 0).trans rfl; have hcz37_1 : w36.cell? ⟨gb127, 1, none⟩ = some (.slice A0_1 l0_1.length c0_1) := (blk_cell BK127.out 1).trans rfl; have hcz37_2 : w36.cell? ⟨gb127, 2, none⟩ = some (.int .i64 a0_2) := (blk_cell BK127.out 2).trans rfl; have hcz37_3 : w36.cell? ⟨gb127, 3, none⟩ = some (.int .u32 a0_3) := (blk_cell BK127.out 3).trans rfl; have hcz37_4 : w36.cell? ⟨gb127, 4, none⟩ = some (.int .i64 a0_4) := (blk_cell BK127.out 4).trans rfl; have hcz37_5 : w36.cell? ⟨gb127, 5, none⟩ = some (.int .i64 a0_5) := (blk_cell BK127.out 5).trans rfl; have hcz37_6 : w36.cell? ⟨gb127, 6, none⟩ = some (.int .u32 a0_6) := (blk_cell BK127.out 6).trans rfl; have hfz37_0 := blk_frozen BK127.out 0; have hfz37_1 := blk_frozen BK127.out 1; have hfz37_2 := blk_frozen BK127.out 2; have hfz37_3 := blk_frozen BK127.out 3; have hfz37_4 := blk_frozen BK127.out 4; have hfz37_5 := blk_frozen BK127.out 5; have hfz37_6 := blk_frozen BK127.out 6))
        (try simp only [Act.put, List.setIfInBounds_toArray, List.set_cons_zero, List.set_cons_succ])
        go_cut [49] (fun v49 wc => ∃ (kq : Nat) (x49_34 : Bool), v49 = .bool x49_34 ∧ Aside0 (millraceref11_form.j0 kq a0_0 x49_34 a0_0 l0_1 a0_2 a0_3 a0_4 a0_5 a0_6 = some r) ∧ Aside0 (kq ≤ k) ∧ Aside0 (wc.heap[gb127]? = some (.cells #[.int .i64 a0_0, (.slice A0_1 l0_1.length c0_1), .int .i64 a0_2, .int .u32 a0_3, .int .i64 a0_4, .int .i64 a0_5, .int .u32 a0_6] 95 (0, 0))) ∧ Aside0 (Below w.heap.size w wc))
        case first =>
          have H := HC35.out
          clear HC35
          by_cases c38 : a0_0 = 4
          · rw [if_pos c38] at H
            have c38b0 : (a0_0 == 4) = true := beq_iff_eq.mpr c38
            have c38b1 : (a0_0 != 4) = false := bne_eq_false_iff_eq.mpr c38
            clear c38
            (first | rw [c38b0] | (simp only [i64_w, i32_w]; rw [c38b0]) | skip)
            have H' := Aside0.mk H
            clear H
            go_wp2
            go_meet
            case rel => exact ⟨_, ((a0_0 == 4)), (by first | rfl | (simp; done) | (simp [*]; done)), H', ⟨by first | omega | exact Nat.le_refl _⟩, ⟨by (with_reducible repeat (first | refine blk_drewN ?_ _ | refine blk_drew ?_ | refine blk_alloc ?_ _)); exact BK127.out⟩, ⟨by repeat (first | (with_reducible first | exact HB.out | apply below_alloc | apply pw_below_drewN | apply below_drew1 | refine below_set ?_ GE127.out) | exact HB.out)⟩⟩
          · rw [if_neg c38] at H
            have c38b0 : (a0_0 == 4) = false := beq_eq_false_iff_ne.mpr c38
            have c38b1 : (a0_0 != 4) = true := bne_iff_ne.mpr c38
            (first | rw [c38b0] | (simp only [i64_w, i32_w]; rw [c38b0]) | skip)
            have H' := Aside0.mk H
            clear H
            go_wp2
            go_meet
            case rel => exact ⟨_, ((a0_0 == 5)), (by first | rfl | (simp; done) | (simp [*]; done)), H', ⟨by first | omega | exact Nat.le_refl _⟩, ⟨by (with_reducible repeat (first | refine blk_drewN ?_ _ | refine blk_drew ?_ | refine blk_alloc ?_ _)); exact BK127.out⟩, ⟨by repeat (first | (with_reducible first | exact HB.out | apply below_alloc | apply pw_below_drewN | apply below_drew1 | refine below_set ?_ GE127.out) | exact HB.out)⟩⟩
        case rest =>
          clear HC35
          try clear c1
          try clear c2
          try clear c2b0
          try clear c2b1
          try clear p2
          try clear c3
          try clear c3b0
          try clear c4
          try clear c4b0
          try clear c5
          try clear c13
          try clear c13b0
          try clear c13b1
          try clear c14
          try clear c14b0
          try clear c15
          try clear c15b0
          try clear c24
          try clear c24b0
          try clear c24b1
          try clear c25
          try clear c25b0
          try clear c26
          try clear c26b0
          try clear c38
          try clear c38b0
          try clear c38b1
          try clear hcz10_0
          try clear hcz10_1
          try clear hcz10_2
          try clear hcz10_3
          try clear hcz10_4
          try clear hcz10_5
          try clear hcz10_6
          try clear hcz12_0
          try clear hcz12_1
          try clear hcz12_2
          try clear hcz12_3
          try clear hcz12_4
          try clear hcz12_5
          try clear hcz12_6
          try clear hcz18_0
          try clear hcz18_1
          try clear hcz18_2
          try clear hcz18_3
          try clear hcz18_4
          try clear hcz18_5
          try clear hcz18_6
          try clear hcz21_0
          try clear hcz21_1
          try clear hcz21_2
          try clear hcz21_3
          try clear hcz21_4
          try clear hcz21_5
          try clear hcz21_6
          try clear hcz23_0
          try clear hcz23_1
          try clear hcz23_2
          try clear hcz23_3
          try clear hcz23_4
          try clear hcz23_5
          try clear hcz23_6
          try clear hcz29_0
          try clear hcz29_1
          try clear hcz29_2
          try clear hcz29_3
          try clear hcz29_4
          try clear hcz29_5
          try clear hcz29_6
          try clear hcz32_0
          try clear hcz32_1
          try clear hcz32_2
          try clear hcz32_3
          try clear hcz32_4
          try clear hcz32_5
          try clear hcz32_6
          try clear hcz34_0
          try clear hcz34_1
          try clear hcz34_2
          try clear hcz34_3
          try clear hcz34_4
          try clear hcz34_5
          try clear hcz34_6
          try clear hcz37_0
          try clear hcz37_1
          try clear hcz37_2
          try clear hcz37_3
          try clear hcz37_4
          try clear hcz37_5
          try clear hcz37_6
          try clear hcz7_0
          try clear hcz7_1
          try clear hcz7_2
          try clear hcz7_3
          try clear hcz7_4
          try clear hcz7_5
          try clear hcz7_6
          try clear hfz10_0
          try clear hfz10_1
          try clear hfz10_2
          try clear hfz10_3
          try clear hfz10_4
          try clear hfz10_5
          try clear hfz10_6
          try clear hfz12_0
          try clear hfz12_1
          try clear hfz12_2
          try clear hfz12_3
          try clear hfz12_4
          try clear hfz12_5
          try clear hfz12_6
          try clear hfz18_0
          try clear hfz18_1
          try clear hfz18_2
          try clear hfz18_3
          try clear hfz18_4
          try clear hfz18_5
          try clear hfz18_6
          try clear hfz21_0
          try clear hfz21_1
          try clear hfz21_2
          try clear hfz21_3
          try clear hfz21_4
          try clear hfz21_5
          try clear hfz21_6
          try clear hfz23_0
          try clear hfz23_1
          try clear hfz23_2
          try clear hfz23_3
          try clear hfz23_4
          try clear hfz23_5
          try clear hfz23_6
          try clear hfz29_0
          try clear hfz29_1
          try clear hfz29_2
          try clear hfz29_3
          try clear hfz29_4
          try clear hfz29_5
          try clear hfz29_6
          try clear hfz32_0
          try clear hfz32_1
          try clear hfz32_2
          try clear hfz32_3
          try clear hfz32_4
          try clear hfz32_5
          try clear hfz32_6
          try clear hfz34_0
          try clear hfz34_1
          try clear hfz34_2
          try clear hfz34_3
          try clear hfz34_4
          try clear hfz34_5
          try clear hfz34_6
          try clear hfz37_0
          try clear hfz37_1
          try clear hfz37_2
          try clear hfz37_3
          try clear hfz37_4
          try clear hfz37_5
          try clear hfz37_6
          try clear hfz7_0
          try clear hfz7_1
          try clear hfz7_2
          try clear hfz7_3
          try clear hfz7_4
          try clear hfz7_5
          try clear hfz7_6
          obtain ⟨kq, x49_34, rfl, HA, HJ34, BK127, HB⟩ := hcut
          cases kq with
          | zero => exact absurd HA.out (by simp [millraceref11_form.j0])
          | succ kj34 =>
            have H := HA.out
            clear HA
            simp only [millraceref11_form.j0] at H
            by_cases c39 : x49_34 = true
            · subst c39
              have H1 : (if a0_2 ≥ 0 then (if a0_2 ≤ 6 then ((millraceref11_zero.f a0_0 l0_1 a0_2 a0_3 a0_4 a0_5 a0_6).bind fun t131 => (some t131)) else (some false)) else (some false)) = some r := by rw [if_pos rfl] at H; exact H
              clear H
              have H := H1
              clear H1
              by_cases c40 : a0_2 ≥ 0
              · rw [if_pos c40] at H
                have c40b0 : decide (0 ≤ a0_2) = true := decide_eq_true c40
                clear c40
                by_cases c41 : a0_2 ≤ 6
                · rw [if_pos c41] at H
                  have c41b0 : decide (a0_2 ≤ 6) = true := decide_eq_true c41
                  clear c41
                  replace H := Option.bind_eq_some_iff.mp H
                  obtain ⟨t131, A420, H⟩ := H
                  replace H : (some t131) = some r := H
                  have A42 := Aside0.mk A420
                  clear A420
                  obtain rfl := Option.some.inj H
                  have hcz43_0 : wc.cell? ⟨gb127, 0, none⟩ = some (.int .i64 a0_0) := (blk_cell BK127.out 0).trans rfl
                  have hcz43_1 : wc.cell? ⟨gb127, 1, none⟩ = some (.slice A0_1 l0_1.length c0_1) := (blk_cell BK127.out 1).trans rfl
                  have hcz43_2 : wc.cell? ⟨gb127, 2, none⟩ = some (.int .i64 a0_2) := (blk_cell BK127.out 2).trans rfl
                  have hcz43_3 : wc.cell? ⟨gb127, 3, none⟩ = some (.int .u32 a0_3) := (blk_cell BK127.out 3).trans rfl
                  have hcz43_4 : wc.cell? ⟨gb127, 4, none⟩ = some (.int .i64 a0_4) := (blk_cell BK127.out 4).trans rfl
                  have hcz43_5 : wc.cell? ⟨gb127, 5, none⟩ = some (.int .i64 a0_5) := (blk_cell BK127.out 5).trans rfl
                  have hcz43_6 : wc.cell? ⟨gb127, 6, none⟩ = some (.int .u32 a0_6) := (blk_cell BK127.out 6).trans rfl
                  have hfz43_0 := blk_frozen BK127.out 0
                  have hfz43_1 := blk_frozen BK127.out 1
                  have hfz43_2 := blk_frozen BK127.out 2
                  have hfz43_3 := blk_frozen BK127.out 3
                  have hfz43_4 := blk_frozen BK127.out 4
                  have hfz43_5 := blk_frozen BK127.out 5
                  have hfz43_6 := blk_frozen BK127.out 6
                  go_wp2_with (first | (go_at_call 91; (with_reducible refine (millraceref11_zero.calls a0_0 _ _ l0_1 a0_2 a0_3 a0_4 a0_5 a0_6 t131 _ ?side1 ?side2 A42.out).mono ?_); (case side1 => repeat (first | exact (Kd.C_below HR0_1.out HB.out) | (with_reducible refine Kd.C_alloc ?_ _) | (with_reducible refine Kd.C_drewN ?_ _) | (with_reducible refine Kd.C_drew ?_))); (case side2 => exact HC0_1.out); rintro e w44 ⟨rfl, hb⟩; have n0_ := Aside0.mk (blk_below (g := gb127) (o := .cells #[.int .i64 a0_0, .slice A0_1 l0_1.length c0_1, .int .i64 a0_2, .int .u32 a0_3, .int .i64 a0_4, .int .i64 a0_5, .int .u32 a0_6] 95 (0, 0)) (by (with_reducible repeat (first | refine blk_drewN ?_ _ | refine blk_drew ?_ | refine blk_alloc ?_ _)); exact BK127.out) hb); have n1_ := Aside0.mk (below_step (by repeat (first | (with_reducible first | exact HB.out | apply below_alloc | apply pw_below_drewN | apply below_drew1 | refine below_set ?_ GE127.out) | exact HB.out)) hb); clear BK127; clear HB; have BK127 := n0_; have HB := n1_; clear n0_ n1_; (try clear hb); (try clear hb2); (try clear hk); (try clear hi)))
                  go_ret
                  exact ⟨by first | rfl | (simp [errW_none, errW_some] <;> rfl) | (simp [*, errW_none, errW_some] <;> rfl), by repeat (first | (with_reducible first | exact HB.out | apply below_alloc | apply pw_below_drewN | apply below_drew1 | refine below_set ?_ GE127.out) | exact HB.out)⟩
                · rw [if_neg c41] at H
                  have c41b0 : decide (a0_2 ≤ 6) = false := decide_eq_false c41
                  clear c41
                  obtain rfl := Option.some.inj H
                  have hcz45_0 : wc.cell? ⟨gb127, 0, none⟩ = some (.int .i64 a0_0) := (blk_cell BK127.out 0).trans rfl
                  have hcz45_1 : wc.cell? ⟨gb127, 1, none⟩ = some (.slice A0_1 l0_1.length c0_1) := (blk_cell BK127.out 1).trans rfl
                  have hcz45_2 : wc.cell? ⟨gb127, 2, none⟩ = some (.int .i64 a0_2) := (blk_cell BK127.out 2).trans rfl
                  have hcz45_3 : wc.cell? ⟨gb127, 3, none⟩ = some (.int .u32 a0_3) := (blk_cell BK127.out 3).trans rfl
                  have hcz45_4 : wc.cell? ⟨gb127, 4, none⟩ = some (.int .i64 a0_4) := (blk_cell BK127.out 4).trans rfl
                  have hcz45_5 : wc.cell? ⟨gb127, 5, none⟩ = some (.int .i64 a0_5) := (blk_cell BK127.out 5).trans rfl
                  have hcz45_6 : wc.cell? ⟨gb127, 6, none⟩ = some (.int .u32 a0_6) := (blk_cell BK127.out 6).trans rfl
                  have hfz45_0 := blk_frozen BK127.out 0
                  have hfz45_1 := blk_frozen BK127.out 1
                  have hfz45_2 := blk_frozen BK127.out 2
                  have hfz45_3 := blk_frozen BK127.out 3
                  have hfz45_4 := blk_frozen BK127.out 4
                  have hfz45_5 := blk_frozen BK127.out 5
                  have hfz45_6 := blk_frozen BK127.out 6
                  go_wp2
                  go_ret
                  exact ⟨by first | rfl | (simp [errW_none, errW_some] <;> rfl) | (simp [*, errW_none, errW_some] <;> rfl), by repeat (first | (with_reducible first | exact HB.out | apply below_alloc | apply pw_below_drewN | apply below_drew1 | refine below_set ?_ GE127.out) | exact HB.out)⟩
              · rw [if_neg c40] at H
                have c40b0 : decide (0 ≤ a0_2) = false := decide_eq_false c40
                clear c40
                obtain rfl := Option.some.inj H
                have hcz46_0 : wc.cell? ⟨gb127, 0, none⟩ = some (.int .i64 a0_0) := (blk_cell BK127.out 0).trans rfl
                have hcz46_1 : wc.cell? ⟨gb127, 1, none⟩ = some (.slice A0_1 l0_1.length c0_1) := (blk_cell BK127.out 1).trans rfl
                have hcz46_2 : wc.cell? ⟨gb127, 2, none⟩ = some (.int .i64 a0_2) := (blk_cell BK127.out 2).trans rfl
                have hcz46_3 : wc.cell? ⟨gb127, 3, none⟩ = some (.int .u32 a0_3) := (blk_cell BK127.out 3).trans rfl
                have hcz46_4 : wc.cell? ⟨gb127, 4, none⟩ = some (.int .i64 a0_4) := (blk_cell BK127.out 4).trans rfl
                have hcz46_5 : wc.cell? ⟨gb127, 5, none⟩ = some (.int .i64 a0_5) := (blk_cell BK127.out 5).trans rfl
                have hcz46_6 : wc.cell? ⟨gb127, 6, none⟩ = some (.int .u32 a0_6) := (blk_cell BK127.out 6).trans rfl
                have hfz46_0 := blk_frozen BK127.out 0
                have hfz46_1 := blk_frozen BK127.out 1
                have hfz46_2 := blk_frozen BK127.out 2
                have hfz46_3 := blk_frozen BK127.out 3
                have hfz46_4 := blk_frozen BK127.out 4
                have hfz46_5 := blk_frozen BK127.out 5
                have hfz46_6 := blk_frozen BK127.out 6
                go_wp2
                go_ret
                exact ⟨by first | rfl | (simp [errW_none, errW_some] <;> rfl) | (simp [*, errW_none, errW_some] <;> rfl), by repeat (first | (with_reducible first | exact HB.out | apply below_alloc | apply pw_below_drewN | apply below_drew1 | refine below_set ?_ GE127.out) | exact HB.out)⟩
            · replace c39 := Bool.eq_false_iff.mpr c39
              subst c39
              have H1 : (if a0_0 = 6 then (millraceref11_form.j1 kj34 a0_0 (a0_0 == 6) a0_0 l0_1 a0_2 a0_3 a0_4 a0_5 a0_6) else (millraceref11_form.j1 kj34 a0_0 (a0_0 == 8) a0_0 l0_1 a0_2 a0_3 a0_4 a0_5 a0_6)) = some r := by rw [if_neg (show ¬ (false = true) by decide)] at H; exact H
              clear H
              have H := H1
              clear H1
              have HC47 := Aside0.mk H
              clear H
              go_upto_if 64 with (fail)
              go_cut [64] (fun v64 wc => ∃ (kq : Nat) (x64_46 : Bool), v64 = .bool x64_46 ∧ Aside0 (millraceref11_form.j1 kq a0_0 x64_46 a0_0 l0_1 a0_2 a0_3 a0_4 a0_5 a0_6 = some r) ∧ Aside0 (kq ≤ kj34) ∧ Aside0 (wc.heap[gb127]? = some (.cells #[.int .i64 a0_0, (.slice A0_1 l0_1.length c0_1), .int .i64 a0_2, .int .u32 a0_3, .int .i64 a0_4, .int .i64 a0_5, .int .u32 a0_6] 95 (0, 0))) ∧ Aside0 (Below w.heap.size w wc))
              case first =>
                have H := HC47.out
                clear HC47
                by_cases c48 : a0_0 = 6
                · rw [if_pos c48] at H
                  have c48b0 : (a0_0 == 6) = true := beq_iff_eq.mpr c48
                  have c48b1 : (a0_0 != 6) = false := bne_eq_false_iff_eq.mpr c48
                  clear c48
                  (first | rw [c48b0] | (simp only [i64_w, i32_w]; rw [c48b0]) | skip)
                  have H' := Aside0.mk H
                  clear H
                  go_wp2
                  go_meet
                  case rel => exact ⟨_, ((a0_0 == 6)), (by first | rfl | (simp; done) | (simp [*]; done)), H', ⟨by have := HJ34.out; first | omega | exact Nat.le_refl _⟩, ⟨by (with_reducible repeat (first | refine blk_drewN ?_ _ | refine blk_drew ?_ | refine blk_alloc ?_ _)); exact BK127.out⟩, ⟨by repeat (first | (with_reducible first | exact HB.out | apply below_alloc | apply pw_below_drewN | apply below_drew1 | refine below_set ?_ GE127.out) | exact HB.out)⟩⟩
                · rw [if_neg c48] at H
                  have c48b0 : (a0_0 == 6) = false := beq_eq_false_iff_ne.mpr c48
                  have c48b1 : (a0_0 != 6) = true := bne_iff_ne.mpr c48
                  (first | rw [c48b0] | (simp only [i64_w, i32_w]; rw [c48b0]) | skip)
                  have H' := Aside0.mk H
                  clear H
                  go_wp2
                  go_meet
                  case rel => exact ⟨_, ((a0_0 == 8)), (by first | rfl | (simp; done) | (simp [*]; done)), H', ⟨by have := HJ34.out; first | omega | exact Nat.le_refl _⟩, ⟨by (with_reducible repeat (first | refine blk_drewN ?_ _ | refine blk_drew ?_ | refine blk_alloc ?_ _)); exact BK127.out⟩, ⟨by repeat (first | (with_reducible first | exact HB.out | apply below_alloc | apply pw_below_drewN | apply below_drew1 | refine below_set ?_ GE127.out) | exact HB.out)⟩⟩
              case rest =>
                clear HC47
                try clear c1
                try clear c2
                try clear c2b0
                try clear c2b1
                try clear p2
                try clear c3
                try clear c3b0
                try clear c4
                try clear c4b0
                try clear c5
                try clear c13
                try clear c13b0
                try clear c13b1
                try clear c14
                try clear c14b0
                try clear c15
                try clear c15b0
                try clear c24
                try clear c24b0
                try clear c24b1
                try clear c25
                try clear c25b0
                try clear c26
                try clear c26b0
                try clear c38
                try clear c38b0
                try clear c38b1
                try clear c39
                try clear c40
                try clear c40b0
                try clear c41
                try clear c41b0
                try clear c48
                try clear c48b0
                try clear c48b1
                try clear hcz10_0
                try clear hcz10_1
                try clear hcz10_2
                try clear hcz10_3
                try clear hcz10_4
                try clear hcz10_5
                try clear hcz10_6
                try clear hcz12_0
                try clear hcz12_1
                try clear hcz12_2
                try clear hcz12_3
                try clear hcz12_4
                try clear hcz12_5
                try clear hcz12_6
                try clear hcz18_0
                try clear hcz18_1
                try clear hcz18_2
                try clear hcz18_3
                try clear hcz18_4
                try clear hcz18_5
                try clear hcz18_6
                try clear hcz21_0
                try clear hcz21_1
                try clear hcz21_2
                try clear hcz21_3
                try clear hcz21_4
                try clear hcz21_5
                try clear hcz21_6
                try clear hcz23_0
                try clear hcz23_1
                try clear hcz23_2
                try clear hcz23_3
                try clear hcz23_4
                try clear hcz23_5
                try clear hcz23_6
                try clear hcz29_0
                try clear hcz29_1
                try clear hcz29_2
                try clear hcz29_3
                try clear hcz29_4
                try clear hcz29_5
                try clear hcz29_6
                try clear hcz32_0
                try clear hcz32_1
                try clear hcz32_2
                try clear hcz32_3
                try clear hcz32_4
                try clear hcz32_5
                try clear hcz32_6
                try clear hcz34_0
                try clear hcz34_1
                try clear hcz34_2
                try clear hcz34_3
                try clear hcz34_4
                try clear hcz34_5
                try clear hcz34_6
                try clear hcz37_0
                try clear hcz37_1
                try clear hcz37_2
                try clear hcz37_3
                try clear hcz37_4
                try clear hcz37_5
                try clear hcz37_6
                try clear hcz43_0
                try clear hcz43_1
                try clear hcz43_2
                try clear hcz43_3
                try clear hcz43_4
                try clear hcz43_5
                try clear hcz43_6
                try clear hcz45_0
                try clear hcz45_1
                try clear hcz45_2
                try clear hcz45_3
                try clear hcz45_4
                try clear hcz45_5
                try clear hcz45_6
                try clear hcz46_0
                try clear hcz46_1
                try clear hcz46_2
                try clear hcz46_3
                try clear hcz46_4
                try clear hcz46_5
                try clear hcz46_6
                try clear hcz7_0
                try clear hcz7_1
                try clear hcz7_2
                try clear hcz7_3
                try clear hcz7_4
                try clear hcz7_5
                try clear hcz7_6
                try clear hfz10_0
                try clear hfz10_1
                try clear hfz10_2
                try clear hfz10_3
                try clear hfz10_4
                try clear hfz10_5
                try clear hfz10_6
                try clear hfz12_0
                try clear hfz12_1
                try clear hfz12_2
                try clear hfz12_3
                try clear hfz12_4
                try clear hfz12_5
                try clear hfz12_6
                try clear hfz18_0
                try clear hfz18_1
                try clear hfz18_2
                try clear hfz18_3
                try clear hfz18_4
                try clear hfz18_5
                try clear hfz18_6
                try clear hfz21_0
                try clear hfz21_1
                try clear hfz21_2
                try clear hfz21_3
                try clear hfz21_4
                try clear hfz21_5
                try clear hfz21_6
                try clear hfz23_0
                try clear hfz23_1
                try clear hfz23_2
                try clear hfz23_3
                try clear hfz23_4
                try clear hfz23_5
                try clear hfz23_6
                try clear hfz29_0
                try clear hfz29_1
                try clear hfz29_2
                try clear hfz29_3
                try clear hfz29_4
                try clear hfz29_5
                try clear hfz29_6
                try clear hfz32_0
                try clear hfz32_1
                try clear hfz32_2
                try clear hfz32_3
                try clear hfz32_4
                try clear hfz32_5
                try clear hfz32_6
                try clear hfz34_0
                try clear hfz34_1
                try clear hfz34_2
                try clear hfz34_3
                try clear hfz34_4
                try clear hfz34_5
                try clear hfz34_6
                try clear hfz37_0
                try clear hfz37_1
                try clear hfz37_2
                try clear hfz37_3
                try clear hfz37_4
                try clear hfz37_5
                try clear hfz37_6
                try clear hfz43_0
                try clear hfz43_1
                try clear hfz43_2
                try clear hfz43_3
                try clear hfz43_4
                try clear hfz43_5
                try clear hfz43_6
                try clear hfz45_0
                try clear hfz45_1
                try clear hfz45_2
                try clear hfz45_3
                try clear hfz45_4
                try clear hfz45_5
                try clear hfz45_6
                try clear hfz46_0
                try clear hfz46_1
                try clear hfz46_2
                try clear hfz46_3
                try clear hfz46_4
                try clear hfz46_5
                try clear hfz46_6
                try clear hfz7_0
                try clear hfz7_1
                try clear hfz7_2
                try clear hfz7_3
                try clear hfz7_4
                try clear hfz7_5
                try clear hfz7_6
                try clear p2
                obtain ⟨kq, x64_46, rfl, HA, HJ46, BK127, HB⟩ := hcut
                cases kq with
                | zero => exact absurd HA.out (by simp [millraceref11_form.j1])
                | succ kj46 =>
                  have H := HA.out
                  clear HA
                  simp only [millraceref11_form.j1] at H
                  by_cases c49 : x64_46 = true
                  · subst c49
                    have H1 : (if a0_2 = 0 then ((millraceref11_zero.f a0_0 l0_1 a0_2 a0_3 a0_4 a0_5 a0_6).bind fun t132 => (some t132)) else (some false)) = some r := by rw [if_pos rfl] at H; exact H
                    clear H
                    have H := H1
                    clear H1
                    by_cases c50 : a0_2 = 0
                    · rw [if_pos c50] at H
                      have c50b0 : (a0_2 == 0) = true := beq_iff_eq.mpr c50
                      have c50b1 : (a0_2 != 0) = false := bne_eq_false_iff_eq.mpr c50
                      clear c50
                      replace H := Option.bind_eq_some_iff.mp H
                      obtain ⟨t132, A510, H⟩ := H
                      replace H : (some t132) = some r := H
                      have A51 := Aside0.mk A510
                      clear A510
                      obtain rfl := Option.some.inj H
                      have hcz52_0 : wc.cell? ⟨gb127, 0, none⟩ = some (.int .i64 a0_0) := (blk_cell BK127.out 0).trans rfl
                      have hcz52_1 : wc.cell? ⟨gb127, 1, none⟩ = some (.slice A0_1 l0_1.length c0_1) := (blk_cell BK127.out 1).trans rfl
                      have hcz52_2 : wc.cell? ⟨gb127, 2, none⟩ = some (.int .i64 a0_2) := (blk_cell BK127.out 2).trans rfl
                      have hcz52_3 : wc.cell? ⟨gb127, 3, none⟩ = some (.int .u32 a0_3) := (blk_cell BK127.out 3).trans rfl
                      have hcz52_4 : wc.cell? ⟨gb127, 4, none⟩ = some (.int .i64 a0_4) := (blk_cell BK127.out 4).trans rfl
                      have hcz52_5 : wc.cell? ⟨gb127, 5, none⟩ = some (.int .i64 a0_5) := (blk_cell BK127.out 5).trans rfl
                      have hcz52_6 : wc.cell? ⟨gb127, 6, none⟩ = some (.int .u32 a0_6) := (blk_cell BK127.out 6).trans rfl
                      have hfz52_0 := blk_frozen BK127.out 0
                      have hfz52_1 := blk_frozen BK127.out 1
                      have hfz52_2 := blk_frozen BK127.out 2
                      have hfz52_3 := blk_frozen BK127.out 3
                      have hfz52_4 := blk_frozen BK127.out 4
                      have hfz52_5 := blk_frozen BK127.out 5
                      have hfz52_6 := blk_frozen BK127.out 6
                      go_wp2_with (first | (go_at_call 91; (with_reducible refine (millraceref11_zero.calls a0_0 _ _ l0_1 a0_2 a0_3 a0_4 a0_5 a0_6 t132 _ ?side1 ?side2 A51.out).mono ?_); (case side1 => repeat (first | exact (Kd.C_below HR0_1.out HB.out) | (with_reducible refine Kd.C_alloc ?_ _) | (with_reducible refine Kd.C_drewN ?_ _) | (with_reducible refine Kd.C_drew ?_))); (case side2 => exact HC0_1.out); rintro e w53 ⟨rfl, hb⟩; have n0_ := Aside0.mk (blk_below (g := gb127) (o := .cells #[.int .i64 a0_0, .slice A0_1 l0_1.length c0_1, .int .i64 a0_2, .int .u32 a0_3, .int .i64 a0_4, .int .i64 a0_5, .int .u32 a0_6] 95 (0, 0)) (by (with_reducible repeat (first | refine blk_drewN ?_ _ | refine blk_drew ?_ | refine blk_alloc ?_ _)); exact BK127.out) hb); have n1_ := Aside0.mk (below_step (by repeat (first | (with_reducible first | exact HB.out | apply below_alloc | apply pw_below_drewN | apply below_drew1 | refine below_set ?_ GE127.out) | exact HB.out)) hb); clear BK127; clear HB; have BK127 := n0_; have HB := n1_; clear n0_ n1_; (try clear hb); (try clear hb2); (try clear hk); (try clear hi)))
                      go_ret
                      exact ⟨by first | rfl | (simp [errW_none, errW_some] <;> rfl) | (simp [*, errW_none, errW_some] <;> rfl), by repeat (first | (with_reducible first | exact HB.out | apply below_alloc | apply pw_below_drewN | apply below_drew1 | refine below_set ?_ GE127.out) | exact HB.out)⟩
                    · rw [if_neg c50] at H
                      have c50b0 : (a0_2 == 0) = false := beq_eq_false_iff_ne.mpr c50
                      have c50b1 : (a0_2 != 0) = true := bne_iff_ne.mpr c50
                      obtain rfl := Option.some.inj H
                      have hcz54_0 : wc.cell? ⟨gb127, 0, none⟩ = some (.int .i64 a0_0) := (blk_cell BK127.out 0).trans rfl
                      have hcz54_1 : wc.cell? ⟨gb127, 1, none⟩ = some (.slice A0_1 l0_1.length c0_1) := (blk_cell BK127.out 1).trans rfl
                      have hcz54_2 : wc.cell? ⟨gb127, 2, none⟩ = some (.int .i64 a0_2) := (blk_cell BK127.out 2).trans rfl
                      have hcz54_3 : wc.cell? ⟨gb127, 3, none⟩ = some (.int .u32 a0_3) := (blk_cell BK127.out 3).trans rfl
                      have hcz54_4 : wc.cell? ⟨gb127, 4, none⟩ = some (.int .i64 a0_4) := (blk_cell BK127.out 4).trans rfl
                      have hcz54_5 : wc.cell? ⟨gb127, 5, none⟩ = some (.int .i64 a0_5) := (blk_cell BK127.out 5).trans rfl
                      have hcz54_6 : wc.cell? ⟨gb127, 6, none⟩ = some (.int .u32 a0_6) := (blk_cell BK127.out 6).trans rfl
                      have hfz54_0 := blk_frozen BK127.out 0
                      have hfz54_1 := blk_frozen BK127.out 1
                      have hfz54_2 := blk_frozen BK127.out 2
                      have hfz54_3 := blk_frozen BK127.out 3
                      have hfz54_4 := blk_frozen BK127.out 4
                      have hfz54_5 := blk_frozen BK127.out 5
                      have hfz54_6 := blk_frozen BK127.out 6
                      go_wp2
                      go_ret
                      exact ⟨by first | rfl | (simp [errW_none, errW_some] <;> rfl) | (simp [*, errW_none, errW_some] <;> rfl), by repeat (first | (with_reducible first | exact HB.out | apply below_alloc | apply pw_below_drewN | apply below_drew1 | refine below_set ?_ GE127.out) | exact HB.out)⟩
                  · replace c49 := Bool.eq_false_iff.mpr c49
                    subst c49
                    have H1 : (if a0_0 = 7 then (if a0_2 ≥ 0 then (if a0_2 ≤ 5 then (if a0_4 ≥ 1 then (if a0_4 ≤ 16 then (if a0_5 ≥ 0 then (some (decide (a0_5 ≤ 3))) else (some false)) else (some false)) else (some false)) else (some false)) else (some false)) else (some false)) = some r := by rw [if_neg (show ¬ (false = true) by decide)] at H; exact H
                    clear H
                    have H := H1
                    clear H1
                    by_cases c55 : a0_0 = 7
                    · rw [if_pos c55] at H
                      have c55b0 : (a0_0 == 7) = true := beq_iff_eq.mpr c55
                      have c55b1 : (a0_0 != 7) = false := bne_eq_false_iff_eq.mpr c55
                      clear c55
                      by_cases c56 : a0_2 ≥ 0
                      · rw [if_pos c56] at H
                        have c56b0 : decide (0 ≤ a0_2) = true := decide_eq_true c56
                        clear c56
                        by_cases c57 : a0_2 ≤ 5
                        · rw [if_pos c57] at H
                          have c57b0 : decide (a0_2 ≤ 5) = true := decide_eq_true c57
                          clear c57
                          by_cases c58 : a0_4 ≥ 1
                          · rw [if_pos c58] at H
                            have c58b0 : decide (1 ≤ a0_4) = true := decide_eq_true c58
                            clear c58
                            by_cases c59 : a0_4 ≤ 16
                            · rw [if_pos c59] at H
                              have c59b0 : decide (a0_4 ≤ 16) = true := decide_eq_true c59
                              clear c59
                              by_cases c60 : a0_5 ≥ 0
                              · rw [if_pos c60] at H
                                have c60b0 : decide (0 ≤ a0_5) = true := decide_eq_true c60
                                clear c60
                                obtain rfl := Option.some.inj H
                                have hcz61_0 : wc.cell? ⟨gb127, 0, none⟩ = some (.int .i64 a0_0) := (blk_cell BK127.out 0).trans rfl
                                have hcz61_1 : wc.cell? ⟨gb127, 1, none⟩ = some (.slice A0_1 l0_1.length c0_1) := (blk_cell BK127.out 1).trans rfl
                                have hcz61_2 : wc.cell? ⟨gb127, 2, none⟩ = some (.int .i64 a0_2) := (blk_cell BK127.out 2).trans rfl
                                have hcz61_3 : wc.cell? ⟨gb127, 3, none⟩ = some (.int .u32 a0_3) := (blk_cell BK127.out 3).trans rfl
                                have hcz61_4 : wc.cell? ⟨gb127, 4, none⟩ = some (.int .i64 a0_4) := (blk_cell BK127.out 4).trans rfl
                                have hcz61_5 : wc.cell? ⟨gb127, 5, none⟩ = some (.int .i64 a0_5) := (blk_cell BK127.out 5).trans rfl
                                have hcz61_6 : wc.cell? ⟨gb127, 6, none⟩ = some (.int .u32 a0_6) := (blk_cell BK127.out 6).trans rfl
                                have hfz61_0 := blk_frozen BK127.out 0
                                have hfz61_1 := blk_frozen BK127.out 1
                                have hfz61_2 := blk_frozen BK127.out 2
                                have hfz61_3 := blk_frozen BK127.out 3
                                have hfz61_4 := blk_frozen BK127.out 4
                                have hfz61_5 := blk_frozen BK127.out 5
                                have hfz61_6 := blk_frozen BK127.out 6
                                go_wp2
                                go_ret
                                exact ⟨by first | rfl | (simp [errW_none, errW_some] <;> rfl) | (simp [*, errW_none, errW_some] <;> rfl), by repeat (first | (with_reducible first | exact HB.out | apply below_alloc | apply pw_below_drewN | apply below_drew1 | refine below_set ?_ GE127.out) | exact HB.out)⟩
                              · rw [if_neg c60] at H
                                have c60b0 : decide (0 ≤ a0_5) = false := decide_eq_false c60
                                clear c60
                                obtain rfl := Option.some.inj H
                                have hcz62_0 : wc.cell? ⟨gb127, 0, none⟩ = some (.int .i64 a0_0) := (blk_cell BK127.out 0).trans rfl
                                have hcz62_1 : wc.cell? ⟨gb127, 1, none⟩ = some (.slice A0_1 l0_1.length c0_1) := (blk_cell BK127.out 1).trans rfl
                                have hcz62_2 : wc.cell? ⟨gb127, 2, none⟩ = some (.int .i64 a0_2) := (blk_cell BK127.out 2).trans rfl
                                have hcz62_3 : wc.cell? ⟨gb127, 3, none⟩ = some (.int .u32 a0_3) := (blk_cell BK127.out 3).trans rfl
                                have hcz62_4 : wc.cell? ⟨gb127, 4, none⟩ = some (.int .i64 a0_4) := (blk_cell BK127.out 4).trans rfl
                                have hcz62_5 : wc.cell? ⟨gb127, 5, none⟩ = some (.int .i64 a0_5) := (blk_cell BK127.out 5).trans rfl
                                have hcz62_6 : wc.cell? ⟨gb127, 6, none⟩ = some (.int .u32 a0_6) := (blk_cell BK127.out 6).trans rfl
                                have hfz62_0 := blk_frozen BK127.out 0
                                have hfz62_1 := blk_frozen BK127.out 1
                                have hfz62_2 := blk_frozen BK127.out 2
                                have hfz62_3 := blk_frozen BK127.out 3
                                have hfz62_4 := blk_frozen BK127.out 4
                                have hfz62_5 := blk_frozen BK127.out 5
                                have hfz62_6 := blk_frozen BK127.out 6
                                go_wp2
                                go_ret
                                exact ⟨by first | rfl | (simp [errW_none, errW_some] <;> rfl) | (simp [*, errW_none, errW_some] <;> rfl), by repeat (first | (with_reducible first | exact HB.out | apply below_alloc | apply pw_below_drewN | apply below_drew1 | refine below_set ?_ GE127.out) | exact HB.out)⟩
                            · rw [if_neg c59] at H
                              have c59b0 : decide (a0_4 ≤ 16) = false := decide_eq_false c59
                              clear c59
                              obtain rfl := Option.some.inj H
                              have hcz63_0 : wc.cell? ⟨gb127, 0, none⟩ = some (.int .i64 a0_0) := (blk_cell BK127.out 0).trans rfl
                              have hcz63_1 : wc.cell? ⟨gb127, 1, none⟩ = some (.slice A0_1 l0_1.length c0_1) := (blk_cell BK127.out 1).trans rfl
                              have hcz63_2 : wc.cell? ⟨gb127, 2, none⟩ = some (.int .i64 a0_2) := (blk_cell BK127.out 2).trans rfl
                              have hcz63_3 : wc.cell? ⟨gb127, 3, none⟩ = some (.int .u32 a0_3) := (blk_cell BK127.out 3).trans rfl
                              have hcz63_4 : wc.cell? ⟨gb127, 4, none⟩ = some (.int .i64 a0_4) := (blk_cell BK127.out 4).trans rfl
                              have hcz63_5 : wc.cell? ⟨gb127, 5, none⟩ = some (.int .i64 a0_5) := (blk_cell BK127.out 5).trans rfl
                              have hcz63_6 : wc.cell? ⟨gb127, 6, none⟩ = some (.int .u32 a0_6) := (blk_cell BK127.out 6).trans rfl
                              have hfz63_0 := blk_frozen BK127.out 0
                              have hfz63_1 := blk_frozen BK127.out 1
                              have hfz63_2 := blk_frozen BK127.out 2
                              have hfz63_3 := blk_frozen BK127.out 3
                              have hfz63_4 := blk_frozen BK127.out 4
                              have hfz63_5 := blk_frozen BK127.out 5
                              have hfz63_6 := blk_frozen BK127.out 6
                              go_wp2
                              go_ret
                              exact ⟨by first | rfl | (simp [errW_none, errW_some] <;> rfl) | (simp [*, errW_none, errW_some] <;> rfl), by repeat (first | (with_reducible first | exact HB.out | apply below_alloc | apply pw_below_drewN | apply below_drew1 | refine below_set ?_ GE127.out) | exact HB.out)⟩
                          · rw [if_neg c58] at H
                            have c58b0 : decide (1 ≤ a0_4) = false := decide_eq_false c58
                            clear c58
                            obtain rfl := Option.some.inj H
                            have hcz64_0 : wc.cell? ⟨gb127, 0, none⟩ = some (.int .i64 a0_0) := (blk_cell BK127.out 0).trans rfl
                            have hcz64_1 : wc.cell? ⟨gb127, 1, none⟩ = some (.slice A0_1 l0_1.length c0_1) := (blk_cell BK127.out 1).trans rfl
                            have hcz64_2 : wc.cell? ⟨gb127, 2, none⟩ = some (.int .i64 a0_2) := (blk_cell BK127.out 2).trans rfl
                            have hcz64_3 : wc.cell? ⟨gb127, 3, none⟩ = some (.int .u32 a0_3) := (blk_cell BK127.out 3).trans rfl
                            have hcz64_4 : wc.cell? ⟨gb127, 4, none⟩ = some (.int .i64 a0_4) := (blk_cell BK127.out 4).trans rfl
                            have hcz64_5 : wc.cell? ⟨gb127, 5, none⟩ = some (.int .i64 a0_5) := (blk_cell BK127.out 5).trans rfl
                            have hcz64_6 : wc.cell? ⟨gb127, 6, none⟩ = some (.int .u32 a0_6) := (blk_cell BK127.out 6).trans rfl
                            have hfz64_0 := blk_frozen BK127.out 0
                            have hfz64_1 := blk_frozen BK127.out 1
                            have hfz64_2 := blk_frozen BK127.out 2
                            have hfz64_3 := blk_frozen BK127.out 3
                            have hfz64_4 := blk_frozen BK127.out 4
                            have hfz64_5 := blk_frozen BK127.out 5
                            have hfz64_6 := blk_frozen BK127.out 6
                            go_wp2
                            go_ret
                            exact ⟨by first | rfl | (simp [errW_none, errW_some] <;> rfl) | (simp [*, errW_none, errW_some] <;> rfl), by repeat (first | (with_reducible first | exact HB.out | apply below_alloc | apply pw_below_drewN | apply below_drew1 | refine below_set ?_ GE127.out) | exact HB.out)⟩
                        · rw [if_neg c57] at H
                          have c57b0 : decide (a0_2 ≤ 5) = false := decide_eq_false c57
                          clear c57
                          obtain rfl := Option.some.inj H
                          have hcz65_0 : wc.cell? ⟨gb127, 0, none⟩ = some (.int .i64 a0_0) := (blk_cell BK127.out 0).trans rfl
                          have hcz65_1 : wc.cell? ⟨gb127, 1, none⟩ = some (.slice A0_1 l0_1.length c0_1) := (blk_cell BK127.out 1).trans rfl
                          have hcz65_2 : wc.cell? ⟨gb127, 2, none⟩ = some (.int .i64 a0_2) := (blk_cell BK127.out 2).trans rfl
                          have hcz65_3 : wc.cell? ⟨gb127, 3, none⟩ = some (.int .u32 a0_3) := (blk_cell BK127.out 3).trans rfl
                          have hcz65_4 : wc.cell? ⟨gb127, 4, none⟩ = some (.int .i64 a0_4) := (blk_cell BK127.out 4).trans rfl
                          have hcz65_5 : wc.cell? ⟨gb127, 5, none⟩ = some (.int .i64 a0_5) := (blk_cell BK127.out 5).trans rfl
                          have hcz65_6 : wc.cell? ⟨gb127, 6, none⟩ = some (.int .u32 a0_6) := (blk_cell BK127.out 6).trans rfl
                          have hfz65_0 := blk_frozen BK127.out 0
                          have hfz65_1 := blk_frozen BK127.out 1
                          have hfz65_2 := blk_frozen BK127.out 2
                          have hfz65_3 := blk_frozen BK127.out 3
                          have hfz65_4 := blk_frozen BK127.out 4
                          have hfz65_5 := blk_frozen BK127.out 5
                          have hfz65_6 := blk_frozen BK127.out 6
                          go_wp2
                          go_ret
                          exact ⟨by first | rfl | (simp [errW_none, errW_some] <;> rfl) | (simp [*, errW_none, errW_some] <;> rfl), by repeat (first | (with_reducible first | exact HB.out | apply below_alloc | apply pw_below_drewN | apply below_drew1 | refine below_set ?_ GE127.out) | exact HB.out)⟩
                      · rw [if_neg c56] at H
                        have c56b0 : decide (0 ≤ a0_2) = false := decide_eq_false c56
                        clear c56
                        obtain rfl := Option.some.inj H
                        have hcz66_0 : wc.cell? ⟨gb127, 0, none⟩ = some (.int .i64 a0_0) := (blk_cell BK127.out 0).trans rfl
                        have hcz66_1 : wc.cell? ⟨gb127, 1, none⟩ = some (.slice A0_1 l0_1.length c0_1) := (blk_cell BK127.out 1).trans rfl
                        have hcz66_2 : wc.cell? ⟨gb127, 2, none⟩ = some (.int .i64 a0_2) := (blk_cell BK127.out 2).trans rfl
                        have hcz66_3 : wc.cell? ⟨gb127, 3, none⟩ = some (.int .u32 a0_3) := (blk_cell BK127.out 3).trans rfl
                        have hcz66_4 : wc.cell? ⟨gb127, 4, none⟩ = some (.int .i64 a0_4) := (blk_cell BK127.out 4).trans rfl
                        have hcz66_5 : wc.cell? ⟨gb127, 5, none⟩ = some (.int .i64 a0_5) := (blk_cell BK127.out 5).trans rfl
                        have hcz66_6 : wc.cell? ⟨gb127, 6, none⟩ = some (.int .u32 a0_6) := (blk_cell BK127.out 6).trans rfl
                        have hfz66_0 := blk_frozen BK127.out 0
                        have hfz66_1 := blk_frozen BK127.out 1
                        have hfz66_2 := blk_frozen BK127.out 2
                        have hfz66_3 := blk_frozen BK127.out 3
                        have hfz66_4 := blk_frozen BK127.out 4
                        have hfz66_5 := blk_frozen BK127.out 5
                        have hfz66_6 := blk_frozen BK127.out 6
                        go_wp2
                        go_ret
                        exact ⟨by first | rfl | (simp [errW_none, errW_some] <;> rfl) | (simp [*, errW_none, errW_some] <;> rfl), by repeat (first | (with_reducible first | exact HB.out | apply below_alloc | apply pw_below_drewN | apply below_drew1 | refine below_set ?_ GE127.out) | exact HB.out)⟩
                    · rw [if_neg c55] at H
                      have c55b0 : (a0_0 == 7) = false := beq_eq_false_iff_ne.mpr c55
                      have c55b1 : (a0_0 != 7) = true := bne_iff_ne.mpr c55
                      obtain rfl := Option.some.inj H
                      go_wp2
                      go_ret
                      exact ⟨by first | rfl | (simp [errW_none, errW_some] <;> rfl) | (simp [*, errW_none, errW_some] <;> rfl), by repeat (first | (with_reducible first | exact HB.out | apply below_alloc | apply pw_below_drewN | apply below_drew1 | refine below_set ?_ GE127.out) | exact HB.out)⟩
end Go.Proofs.Ytiooalhfhnddjaa.PX
end
section
namespace Go.Proofs.Ytiooalhfhnddjaa.PX
open Go.RowKit Go.Proofs.YtiooalhfhnddjaaW.PrintWords Go.Proofs.YtiooalhfhnddjaaW.PrintLast Go.Proofs.YtiooalhfhnddjaaW.PrintMore

set_option linter.unusedVariables false
set_option linter.unusedSimpArgs false
def millraceref11_want.f (a0 : Int) : Option (Int) := if a0 = 1 then (some 0) else (if a0 = 5 then (some 2) else (if a0 = 6 then (some 2) else (some 1)))
set_option maxHeartbeats 8000000 in
set_option maxRecDepth 100000 in
theorem millraceref11_want.calls (a0 : Int) (r : Int) (w : World) (h : millraceref11_want.f a0 = some r) :
    Calls Try.prog 56 #[.int .i64 a0] w fun e w' => e = .returned (.int .i64 r) ∧ Drawn0 w w' := by
  have H : (if a0 = 1 then (some 0) else (if a0 = 5 then (some 2) else (if a0 = 6 then (some 2) else (some 1)))) = some r := h
  clear h
  by_cases c2 : a0 = 1
  · rw [if_pos c2] at H
    have c2b0 : (a0 == 1) = true := beq_iff_eq.mpr c2
    have c2b1 : (a0 != 1) = false := bne_eq_false_iff_eq.mpr c2
    clear c2
    obtain rfl := Option.some.inj H
    go_enter Try.func56, Try.ntmps56
    go_wp2
    go_ret
    exact ⟨by first | rfl | (simp; done) | (simp [*]; done), by repeat (first | exact Drawn0.refl _ | apply Drawn0.step)⟩
  · rw [if_neg c2] at H
    have c2b0 : (a0 == 1) = false := beq_eq_false_iff_ne.mpr c2
    have c2b1 : (a0 != 1) = true := bne_iff_ne.mpr c2
    by_cases c3 : a0 = 5
    · rw [if_pos c3] at H
      have c3b0 : (a0 == 5) = true := beq_iff_eq.mpr c3
      have c3b1 : (a0 != 5) = false := bne_eq_false_iff_eq.mpr c3
      clear c3
      obtain rfl := Option.some.inj H
      go_enter Try.func56, Try.ntmps56
      go_wp2
      go_ret
      exact ⟨by first | rfl | (simp; done) | (simp [*]; done), by repeat (first | exact Drawn0.refl _ | apply Drawn0.step)⟩
    · rw [if_neg c3] at H
      have c3b0 : (a0 == 5) = false := beq_eq_false_iff_ne.mpr c3
      have c3b1 : (a0 != 5) = true := bne_iff_ne.mpr c3
      by_cases c4 : a0 = 6
      · rw [if_pos c4] at H
        have c4b0 : (a0 == 6) = true := beq_iff_eq.mpr c4
        have c4b1 : (a0 != 6) = false := bne_eq_false_iff_eq.mpr c4
        clear c4
        obtain rfl := Option.some.inj H
        go_enter Try.func56, Try.ntmps56
        go_wp2
        go_ret
        exact ⟨by first | rfl | (simp; done) | (simp [*]; done), by repeat (first | exact Drawn0.refl _ | apply Drawn0.step)⟩
      · rw [if_neg c4] at H
        have c4b0 : (a0 == 6) = false := beq_eq_false_iff_ne.mpr c4
        have c4b1 : (a0 != 6) = true := bne_iff_ne.mpr c4
        obtain rfl := Option.some.inj H
        go_enter Try.func56, Try.ntmps56
        go_wp2
        go_ret
        exact ⟨by first | rfl | (simp; done) | (simp [*]; done), by repeat (first | exact Drawn0.refl _ | apply Drawn0.step)⟩
end Go.Proofs.Ytiooalhfhnddjaa.PX
end
section
namespace Go.Proofs.Ytiooalhfhnddjaa.PX
open Go.RowKit Go.Proofs.YtiooalhfhnddjaaW.PrintWords Go.Proofs.YtiooalhfhnddjaaW.PrintLast Go.Proofs.YtiooalhfhnddjaaW.PrintMore

set_option linter.unusedVariables false
set_option linter.unusedSimpArgs false
mutual
def millraceref11_Check.j0 : Nat → Int → Bool → List (S95) → Option (Int × Int)
  | 0, _, _, _ => none
  | k + 1, x4, x17, x134000 => if x17 = true then (some (0, 2)) else (millraceref11_Check.l0 k x4 0 x134000)
def millraceref11_Check.l0 : Nat → Int → Int → List (S95) → Option (Int × Int)
  | 0, _, _, _ => none
  | k + 1, x4, x5, x134000 => if x5 < x4 then (if 0 ≤ x5 then (if x5 < (x134000.length : Int) then ((millraceref11_form.f k ((rd_T95 x134000 x5).f0) ((rd_T95 x134000 x5).f1) ((rd_T95 x134000 x5).f2) ((rd_T95 x134000 x5).f3) ((rd_T95 x134000 x5).f4) ((rd_T95 x134000 x5).f5) ((rd_T95 x134000 x5).f6)).bind fun t136 => (if t136 = true then ((millraceref11_want.f ((rd_T95 x134000 x5).f0)).bind fun t137 => (if (((rd_T95 x134000 x5).f1).length : Int) = t137 then (millraceref11_Check.j2 k x4 x5 ((x5 == (wrap64 (x4 - 1))) == (((rd_T95 x134000 x5).f0) == 8)) x134000 ((rd_T95 x134000 x5).f0) ((rd_T95 x134000 x5).f1) ((rd_T95 x134000 x5).f2) ((rd_T95 x134000 x5).f3) ((rd_T95 x134000 x5).f4) ((rd_T95 x134000 x5).f5) ((rd_T95 x134000 x5).f6)) else (millraceref11_Check.j2 k x4 x5 false x134000 ((rd_T95 x134000 x5).f0) ((rd_T95 x134000 x5).f1) ((rd_T95 x134000 x5).f2) ((rd_T95 x134000 x5).f3) ((rd_T95 x134000 x5).f4) ((rd_T95 x134000 x5).f5) ((rd_T95 x134000 x5).f6)))) else (millraceref11_Check.j2 k x4 x5 false x134000 ((rd_T95 x134000 x5).f0) ((rd_T95 x134000 x5).f1) ((rd_T95 x134000 x5).f2) ((rd_T95 x134000 x5).f3) ((rd_T95 x134000 x5).f4) ((rd_T95 x134000 x5).f5) ((rd_T95 x134000 x5).f6)))) else (none)) else (none)) else (some (0, 0))
def millraceref11_Check.j2 : Nat → Int → Int → Bool → List (S95) → Int → List Int → Int → Int → Int → Int → Int → Option (Int × Int)
  | 0, _, _, _, _, _, _, _, _, _, _, _ => none
  | k + 1, x4, x5, x7, x134000, x136000, x136001, x136002, x136003, x136004, x136005, x136006 => millraceref11_Check.l1 k x4 x5 x7 0 x134000 x136000 x136001 x136002 x136003 x136004 x136005 x136006
def millraceref11_Check.l1 : Nat → Int → Int → Bool → Int → List (S95) → Int → List Int → Int → Int → Int → Int → Int → Option (Int × Int)
  | 0, _, _, _, _, _, _, _, _, _, _, _, _ => none
  | k + 1, x4, x5, x7, x8, x134000, x136000, x136001, x136002, x136003, x136004, x136005, x136006 => if x8 < (x136001.length : Int) then (if x7 = true then (if 0 ≤ x8 then (if (rd x136001 x8) ≥ 0 then (millraceref11_Check.l1 k x4 x5 (decide ((rd x136001 x8) < x5)) (wrap64 (x8 + 1)) x134000 x136000 x136001 x136002 x136003 x136004 x136005 x136006) else (millraceref11_Check.l1 k x4 x5 false (wrap64 (x8 + 1)) x134000 x136000 x136001 x136002 x136003 x136004 x136005 x136006)) else (none)) else (millraceref11_Check.l1 k x4 x5 false (wrap64 (x8 + 1)) x134000 x136000 x136001 x136002 x136003 x136004 x136005 x136006)) else (if x7 = true then (millraceref11_Check.l0 k x4 (wrap64 (x5 + 1)) x134000) else (some (x5, 13)))
end
def millraceref11_Check.f (k : Nat) (l0_0 : List (S95)) : Option (Int × Int) := if (l0_0.length : Int) < 1 then (millraceref11_Check.j0 k (l0_0.length : Int) true l0_0) else (millraceref11_Check.j0 k (l0_0.length : Int) (decide ((l0_0.length : Int) > 16)) l0_0)
theorem millraceref11_Check.mono_l : ∀ k, (∀ y0 y1 y2, LeO (millraceref11_Check.j0 k y0 y1 y2) (millraceref11_Check.j0 (k + 1) y0 y1 y2)) ∧ (∀ y0 y1 y2, LeO (millraceref11_Check.l0 k y0 y1 y2) (millraceref11_Check.l0 (k + 1) y0 y1 y2)) ∧ (∀ y0 y1 y2 y3 y4 y5 y6 y7 y8 y9 y10, LeO (millraceref11_Check.j2 k y0 y1 y2 y3 y4 y5 y6 y7 y8 y9 y10) (millraceref11_Check.j2 (k + 1) y0 y1 y2 y3 y4 y5 y6 y7 y8 y9 y10)) ∧ (∀ y0 y1 y2 y3 y4 y5 y6 y7 y8 y9 y10 y11, LeO (millraceref11_Check.l1 k y0 y1 y2 y3 y4 y5 y6 y7 y8 y9 y10 y11) (millraceref11_Check.l1 (k + 1) y0 y1 y2 y3 y4 y5 y6 y7 y8 y9 y10 y11))
  | 0 => ⟨fun _ _ _ r h => by simp [millraceref11_Check.j0] at h, fun _ _ _ r h => by simp [millraceref11_Check.l0] at h, fun _ _ _ _ _ _ _ _ _ _ _ r h => by simp [millraceref11_Check.j2] at h, fun _ _ _ _ _ _ _ _ _ _ _ _ r h => by simp [millraceref11_Check.l1] at h⟩
  | k + 1 => by
    obtain ⟨ih0, ih1, ih2, ih3⟩ := millraceref11_Check.mono_l k
    refine ⟨?_, ?_, ?_, ?_⟩
    · intro y0 y1 y2
      unfold millraceref11_Check.j0
      repeat' first
      | (with_reducible exact ih0 _ _ _)
      | (with_reducible exact ih1 _ _ _)
      | (with_reducible exact ih2 _ _ _ _ _ _ _ _ _ _ _)
      | (with_reducible exact ih3 _ _ _ _ _ _ _ _ _ _ _ _)
      | (with_reducible exact millraceref11_form.mono _ _ _ _ _ _ _ _)
      | (with_reducible exact LeO.refl _)
      | (with_reducible exact LeO.none _)
      | (with_reducible refine LeO.ite ?_ ?_)
      | (with_reducible refine LeO.bind ?_ (fun _ => ?_))
      | exact ih0 _ _ _
      | exact ih1 _ _ _
      | exact ih2 _ _ _ _ _ _ _ _ _ _ _
      | exact ih3 _ _ _ _ _ _ _ _ _ _ _ _
      | exact millraceref11_form.mono _ _ _ _ _ _ _ _
      | exact LeO.none _
      | refine LeO.ite ?_ ?_
      | refine LeO.bind ?_ (fun _ => ?_)
    · intro y0 y1 y2
      unfold millraceref11_Check.l0
      repeat' first
      | (with_reducible exact ih0 _ _ _)
      | (with_reducible exact ih1 _ _ _)
      | (with_reducible exact ih2 _ _ _ _ _ _ _ _ _ _ _)
      | (with_reducible exact ih3 _ _ _ _ _ _ _ _ _ _ _ _)
      | (with_reducible exact millraceref11_form.mono _ _ _ _ _ _ _ _)
      | (with_reducible exact LeO.refl _)
      | (with_reducible exact LeO.none _)
      | (with_reducible refine LeO.ite ?_ ?_)
      | (with_reducible refine LeO.bind ?_ (fun _ => ?_))
      | exact ih0 _ _ _
      | exact ih1 _ _ _
      | exact ih2 _ _ _ _ _ _ _ _ _ _ _
      | exact ih3 _ _ _ _ _ _ _ _ _ _ _ _
      | exact millraceref11_form.mono _ _ _ _ _ _ _ _
      | exact LeO.none _
      | refine LeO.ite ?_ ?_
      | refine LeO.bind ?_ (fun _ => ?_)
    · intro y0 y1 y2 y3 y4 y5 y6 y7 y8 y9 y10
      unfold millraceref11_Check.j2
      repeat' first
      | (with_reducible exact ih0 _ _ _)
      | (with_reducible exact ih1 _ _ _)
      | (with_reducible exact ih2 _ _ _ _ _ _ _ _ _ _ _)
      | (with_reducible exact ih3 _ _ _ _ _ _ _ _ _ _ _ _)
      | (with_reducible exact millraceref11_form.mono _ _ _ _ _ _ _ _)
      | (with_reducible exact LeO.refl _)
      | (with_reducible exact LeO.none _)
      | (with_reducible refine LeO.ite ?_ ?_)
      | (with_reducible refine LeO.bind ?_ (fun _ => ?_))
      | exact ih0 _ _ _
      | exact ih1 _ _ _
      | exact ih2 _ _ _ _ _ _ _ _ _ _ _
      | exact ih3 _ _ _ _ _ _ _ _ _ _ _ _
      | exact millraceref11_form.mono _ _ _ _ _ _ _ _
      | exact LeO.none _
      | refine LeO.ite ?_ ?_
      | refine LeO.bind ?_ (fun _ => ?_)
    · intro y0 y1 y2 y3 y4 y5 y6 y7 y8 y9 y10 y11
      unfold millraceref11_Check.l1
      repeat' first
      | (with_reducible exact ih0 _ _ _)
      | (with_reducible exact ih1 _ _ _)
      | (with_reducible exact ih2 _ _ _ _ _ _ _ _ _ _ _)
      | (with_reducible exact ih3 _ _ _ _ _ _ _ _ _ _ _ _)
      | (with_reducible exact millraceref11_form.mono _ _ _ _ _ _ _ _)
      | (with_reducible exact LeO.refl _)
      | (with_reducible exact LeO.none _)
      | (with_reducible refine LeO.ite ?_ ?_)
      | (with_reducible refine LeO.bind ?_ (fun _ => ?_))
      | exact ih0 _ _ _
      | exact ih1 _ _ _
      | exact ih2 _ _ _ _ _ _ _ _ _ _ _
      | exact ih3 _ _ _ _ _ _ _ _ _ _ _ _
      | exact millraceref11_form.mono _ _ _ _ _ _ _ _
      | exact LeO.none _
      | refine LeO.ite ?_ ?_
      | refine LeO.bind ?_ (fun _ => ?_)
theorem millraceref11_Check.mono : ∀ a0 k, LeO (millraceref11_Check.f k a0) (millraceref11_Check.f (k + 1) a0) := by
  intro a0 k
  obtain ⟨ih0, ih1, ih2, ih3⟩ := millraceref11_Check.mono_l k
  unfold millraceref11_Check.f
  repeat' first
      | (with_reducible exact ih0 _ _ _)
      | (with_reducible exact ih1 _ _ _)
      | (with_reducible exact ih2 _ _ _ _ _ _ _ _ _ _ _)
      | (with_reducible exact ih3 _ _ _ _ _ _ _ _ _ _ _ _)
      | (with_reducible exact millraceref11_form.mono _ _ _ _ _ _ _ _)
      | (with_reducible exact LeO.refl _)
      | (with_reducible exact LeO.none _)
      | (with_reducible refine LeO.ite ?_ ?_)
      | (with_reducible refine LeO.bind ?_ (fun _ => ?_))
      | exact ih0 _ _ _
      | exact ih1 _ _ _
      | exact ih2 _ _ _ _ _ _ _ _ _ _ _
      | exact ih3 _ _ _ _ _ _ _ _ _ _ _ _
      | exact millraceref11_form.mono _ _ _ _ _ _ _ _
      | exact LeO.none _
      | refine LeO.ite ?_ ?_
      | refine LeO.bind ?_ (fun _ => ?_)
def millraceref11_Check.T8 : Bool × List (List Nat × List Nat) := (true, [([], []), ([0], [0]), ([1, 1], [1]), ([2], [2]), ([3, 2], [2, 3]), ([4, 2], [2, 4]), ([2], [2]), ([6, 2], [2, 6]), ([7, 2, 2], [2, 7]), ([5, 8, 2], [2, 5, 8]), ([2, 9], [2, 9]), ([10, 8], [10]), ([11], [11]), ([11], [11]), ([13, 11], [11, 13]), ([12, 14, 11], [11, 12, 14]), ([11], [11]), ([16, 11], [11, 16]), ([17, 11], [11, 17]), ([15, 18, 11], [11, 15, 18]), ([11, 19], [11, 19]), ([20, 11, 0, 1, 2, 3, 4, 5, 6, 7, 8, 9, 10, 11, 12, 13, 14, 15, 16, 17, 18, 19, 20], [20])])
def millraceref11_Check.B8 : List Nat := [0, 1, 3, 7, 15, 31, 7, 71, 199, 511, 1023, 2047, 4095, 4095, 12287, 32767, 4095, 69631, 200703, 524287, 1048575, 2097151]
theorem millraceref11_Check.tab8 : rtab .any (opsOf Try.f16 8) = millraceref11_Check.T8 := by kernel_rfl
theorem millraceref11_Check.bits8 : waitsOk millraceref11_Check.T8.2 millraceref11_Check.B8 = true := by kernel_rfl
set_option maxHeartbeats 8000000 in
set_option maxRecDepth 100000 in
theorem millraceref11_Check.calls (k : Nat) (A0_0 : Option Addr) (c0_0 : Nat) (l0_0 : List (S95)) (r1 : Int) (r2 : Int) (w : World) (hr0_0 : Kd.C k95 w A0_0 l0_0.length l0_0) (hc0_0 : l0_0.length ≤ c0_0) (h : millraceref11_Check.f k l0_0 = some (r1, r2)) :
    Calls Try.prog 16 #[.agg #[.slice A0_0 l0_0.length c0_0]] w fun e w' => e = .returned (.tuple #[.int .i64 r1, .int .i64 r2]) ∧ Below w.heap.size w w' := by
  have hu24 := Try.underlying24
  have hu95 := Try.underlying95
  have HR0_0 := Aside0.mk hr0_0
  have HC0_0 := Aside0.mk hc0_0
  clear hr0_0 hc0_0
  have HB := Aside0.mk (Below.refl w.heap.size w)
  have H : (if (l0_0.length : Int) < 1 then (millraceref11_Check.j0 k (l0_0.length : Int) true l0_0) else (millraceref11_Check.j0 k (l0_0.length : Int) (decide ((l0_0.length : Int) > 16)) l0_0)) = some (r1, r2) := h
  clear h
  have HC2 := Aside0.mk H
  clear H
  go_enter Try.func16, Try.ntmps16
  go_upto_region 2 with (first | ((with_reducible refine gate_dst (N := 1) rfl ?_); (try (refine gate_guard (by rfl) ?_; dsimp only)); refine box_event ?hg (N := 1) ?hd (cs := #[.slice A0_0 l0_0.length c0_0]) (t := 24) ?hr ?_; (case hd => rfl); (case hg => rfl); (case hr => first | (go_simp; done) | (go_simp; rfl)); intro gb133 hg w3 hbox hb; have n0_ := Aside0.mk (below_step (by repeat (first | (with_reducible first | exact HB.out | apply below_alloc | apply pw_below_drewN | apply below_drew1) | exact HB.out)) hb); have n1_ := Aside0.mk (hbox); have n2_ := Aside0.mk ((by rw [hg]; exact (below_size (by repeat (first | (with_reducible first | exact HB.out | apply below_alloc | apply pw_below_drewN | apply below_drew1) | exact HB.out))) : w.heap.size ≤ gb133)); have n3_ := Aside0.mk ((by rw [hg]; exact (below_size (by repeat (first | (with_reducible first | exact HB.out | apply below_alloc | apply pw_below_drewN | apply below_drew1) | exact HB.out))) : w.heap.size ≤ gb133)); clear HB; have HB := n0_; have BK133 := n1_; have GW133 := n2_; have GE133 := n3_; clear n0_ n1_ n2_ n3_; clear hb hbox hg; have hcz4_0 : w3.cell? ⟨gb133, 0, none⟩ = some (.slice A0_0 l0_0.length c0_0) := (blk_cell BK133.out 0).trans rfl; have hfz4_0 := blk_frozen BK133.out 0))
  (try simp only [Act.put, List.setIfInBounds_toArray, List.set_cons_zero, List.set_cons_succ])
  go_cut [17] (fun v17 wc => ∃ (kq : Nat) (x17_1 : Bool), v17 = .bool x17_1 ∧ Aside0 (millraceref11_Check.j0 kq (l0_0.length : Int) x17_1 l0_0 = some (r1, r2)) ∧ Aside0 (kq ≤ k) ∧ Aside0 (wc.heap[gb133]? = some (.cells #[(.slice A0_0 l0_0.length c0_0)] 24 (0, 0))) ∧ Aside0 (Below w.heap.size w wc))
  case first =>
    have H := HC2.out
    clear HC2
    by_cases c5 : (l0_0.length : Int) < 1
    · rw [if_pos c5] at H
      have c5b0 : decide ((l0_0.length : Int) < 1) = true := decide_eq_true c5
      have c5b1 : decide (l0_0.length < 1) = true := decide_eq_true (by omega)
      clear c5
      (first | rw [c5b0] | (simp only [i64_w, i32_w]; rw [c5b0]) | skip)
      have H' := Aside0.mk H
      clear H
      go_wp2
      go_meet
      case rel => exact ⟨_, (true), (by first | rfl | (simp; done) | (simp [*]; done)), H', ⟨by first | omega | exact Nat.le_refl _⟩, ⟨by (with_reducible repeat (first | refine blk_drewN ?_ _ | refine blk_drew ?_ | refine blk_alloc ?_ _)); exact BK133.out⟩, ⟨by repeat (first | (with_reducible first | exact HB.out | apply below_alloc | apply pw_below_drewN | apply below_drew1 | refine below_set ?_ GE133.out) | exact HB.out)⟩⟩
    · rw [if_neg c5] at H
      have c5b0 : decide ((l0_0.length : Int) < 1) = false := decide_eq_false c5
      have c5b1 : decide (l0_0.length < 1) = false := decide_eq_false (by omega)
      clear c5
      (first | rw [c5b0] | (simp only [i64_w, i32_w]; rw [c5b0]) | skip)
      have H' := Aside0.mk H
      clear H
      go_wp2
      go_meet
      case rel => exact ⟨_, (decide ((l0_0.length : Int) > 16)), (by first | rfl | (simp; done) | (simp [*]; done)), H', ⟨by first | omega | exact Nat.le_refl _⟩, ⟨by (with_reducible repeat (first | refine blk_drewN ?_ _ | refine blk_drew ?_ | refine blk_alloc ?_ _)); exact BK133.out⟩, ⟨by repeat (first | (with_reducible first | exact HB.out | apply below_alloc | apply pw_below_drewN | apply below_drew1 | refine below_set ?_ GE133.out) | exact HB.out)⟩⟩
  case rest =>
    clear HC2
    try clear c1
    try clear p2
    try clear c5
    try clear c5b0
    try clear c5b1
    try clear hcz4_0
    try clear hfz4_0
    obtain ⟨kq, x17_1, rfl, HA, HJ1, BK133, HB⟩ := hcut
    cases kq with
    | zero => exact absurd HA.out (by simp [millraceref11_Check.j0])
    | succ kj1 =>
      have H := HA.out
      clear HA
      simp only [millraceref11_Check.j0] at H
      by_cases c6 : x17_1 = true
      · subst c6
        have H1 : (some (0, 2)) = some (r1, r2) := by rw [if_pos rfl] at H; exact H
        clear H
        have H := H1
        clear H1
        simp only [Option.some.injEq, Prod.mk.injEq] at H
        obtain ⟨rfl, rfl⟩ := H
        go_wp2
        go_ret2
        exact ⟨by first | rfl | (simp [errW_none, errW_some] <;> rfl) | (simp [*, errW_none, errW_some] <;> rfl), by repeat (first | (with_reducible first | exact HB.out | apply below_alloc | apply pw_below_drewN | apply below_drew1 | refine below_set ?_ GE133.out) | exact HB.out)⟩
      · replace c6 := Bool.eq_false_iff.mpr c6
        subst c6
        have H1 : (millraceref11_Check.l0 kj1 (l0_0.length : Int) 0 l0_0) = some (r1, r2) := by rw [if_neg (show ¬ (false = true) by decide)] at H; exact H
        clear H
        have H := H1
        clear H1
        have H' := Aside0.mk H
        clear H
        go_wp2
        go_loopg [5] kj1 (fun kq v5 w' => ∃ (x5_2 : Int), v5 = .int .i64 x5_2 ∧ Aside0 (millraceref11_Check.l0 kq (l0_0.length : Int) x5_2 l0_0 = some (r1, r2)) ∧ Aside0 (kq ≤ kj1) ∧ Aside0 (w'.heap[gb133]? = some (.cells #[(.slice A0_0 l0_0.length c0_0)] 24 (0, 0))) ∧ Aside0 (Below w.heap.size w w'))
        case atStart => exact ⟨(0), (by first | rfl | (simp; done) | (simp [*]; done)), H', ⟨Nat.le_refl _⟩, ⟨by (with_reducible repeat (first | refine blk_drewN ?_ _ | refine blk_drew ?_ | refine blk_alloc ?_ _)); exact BK133.out⟩, ⟨by repeat (first | (with_reducible first | exact HB.out | apply below_alloc | apply pw_below_drewN | apply below_drew1 | refine below_set ?_ GE133.out) | exact HB.out)⟩⟩
        case round =>
          clear H'
          try clear c1
          try clear p2
          try clear c5
          try clear c5b0
          try clear c5b1
          try clear c6
          try clear hcz4_0
          try clear hfz4_0
          try clear p2
          obtain ⟨x5_2, rfl, HA, HK2, BK133, HB⟩ := hrel
          cases gk with
          | zero => exact absurd HA.out (by simp [millraceref11_Check.l0])
          | succ k2 =>
            have H := HA.out
            clear HA
            simp only [millraceref11_Check.l0] at H
            by_cases c7 : x5_2 < (l0_0.length : Int)
            · rw [if_pos c7] at H
              have c7b0 : decide (x5_2 < (l0_0.length : Int)) = true := decide_eq_true c7
              clear c7
              by_cases c8 : 0 ≤ x5_2
              · rw [if_pos c8] at H
                have c8b0 : decide (0 ≤ x5_2) = true := decide_eq_true c8
                clear c8
                by_cases c9 : x5_2 < (l0_0.length : Int)
                · rw [if_pos c9] at H
                  have c9b0 : decide (x5_2 < (l0_0.length : Int)) = true := decide_eq_true c9
                  clear c9
                  have HC10 := Aside0.mk H
                  clear H
                  have hcz11_0 : wr.cell? ⟨gb133, 0, none⟩ = some (.slice A0_0 l0_0.length c0_0) := (blk_cell BK133.out 0).trans rfl
                  have hfz11_0 := blk_frozen BK133.out 0
                  have p134 : 0 ≤ (x5_2 : Int) := of_decide_eq_true (by first | (with_reducible assumption) | assumption)
                  have q134 : x5_2 < (l0_0.length : Int) := of_decide_eq_true (by first | (with_reducible assumption) | assumption)
                  obtain ⟨ad134, A134_1, c134_1, e134, hx134_0, hx134_1, hx134_2, hx134_3, hx134_4, hx134_5, hx134_6, hl134_1, hi134_1⟩ := at_T95 HR0_0.out x5_2 p134 q134
                  cases e134
                  replace hx134_0 := (HB.out.cell (World.block_lt_of_cell? w _ hx134_0)).trans hx134_0
                  replace hx134_1 := (HB.out.cell (World.block_lt_of_cell? w _ hx134_1)).trans hx134_1
                  replace hx134_2 := (HB.out.cell (World.block_lt_of_cell? w _ hx134_2)).trans hx134_2
                  replace hx134_3 := (HB.out.cell (World.block_lt_of_cell? w _ hx134_3)).trans hx134_3
                  replace hx134_4 := (HB.out.cell (World.block_lt_of_cell? w _ hx134_4)).trans hx134_4
                  replace hx134_5 := (HB.out.cell (World.block_lt_of_cell? w _ hx134_5)).trans hx134_5
                  replace hx134_6 := (HB.out.cell (World.block_lt_of_cell? w _ hx134_6)).trans hx134_6
                  have HR134_1 := Aside0.mk hi134_1
                  have HC134_1 := Aside0.mk hl134_1
                  clear hi134_1 hl134_1
                  replace p134 := eq_true p134
                  replace q134 := eq_true q134
                  go_upto_region 8 with (first | ((with_reducible refine gate_dst (N := 6) rfl ?_); (try (refine gate_guard (by rfl) ?_; dsimp only)); refine box_event ?hg (N := 6) ?hd (cs := #[.int .i64 0, .slice none 0 0, .int .i64 0, .int .u32 0, .int .i64 0, .int .i64 0, .int .u32 0]) (t := 95) ?hr ?_; (case hd => rfl); (case hg => rfl); (case hr => first | (go_simp; done) | (go_simp; rfl)); intro gb135 hg w12 hbox hb; have n0_ := Aside0.mk (blk_below (g := gb133) (o := .cells #[.slice (some ad134) l0_0.length c0_0] 24 (0, 0)) (by (with_reducible repeat (first | refine blk_drewN ?_ _ | refine blk_drew ?_ | refine blk_alloc ?_ _)); exact BK133.out) hb); have n1_ := Aside0.mk (below_step (by repeat (first | (with_reducible first | exact HB.out | apply below_alloc | apply pw_below_drewN | apply below_drew1 | refine below_set ?_ GE133.out) | exact HB.out)) hb); have n2_ := Aside0.mk (hbox); have n3_ := Aside0.mk ((by rw [hg]; exact (below_size (by repeat (first | (with_reducible first | exact HB.out | apply below_alloc | apply pw_below_drewN | apply below_drew1 | refine below_set ?_ GE133.out) | exact HB.out))) : w.heap.size ≤ gb135)); have n4_ := Aside0.mk ((by rw [hg]; exact (below_size (by repeat (first | (with_reducible first | exact HB.out | apply below_alloc | apply pw_below_drewN | apply below_drew1 | refine below_set ?_ GE133.out) | exact HB.out))) : w.heap.size ≤ gb135)); have n5_ := Aside0.mk ((by rw [hg]; exact Nat.ne_of_lt (blk_lt (g := gb133) (o := .cells #[.slice (some ad134) l0_0.length c0_0] 24 (0, 0)) (by (with_reducible repeat (first | refine blk_drewN ?_ _ | refine blk_drew ?_ | refine blk_alloc ?_ _)); exact BK133.out)) : gb133 ≠ gb135)); have n6_ := Aside0.mk ((by rw [hg]; exact Nat.ne_of_gt (blk_lt (g := gb133) (o := .cells #[.slice (some ad134) l0_0.length c0_0] 24 (0, 0)) (by (with_reducible repeat (first | refine blk_drewN ?_ _ | refine blk_drew ?_ | refine blk_alloc ?_ _)); exact BK133.out)) : gb135 ≠ gb133)); clear BK133; clear HB; have BK133 := n0_; have HB := n1_; have BK135 := n2_; have GW135 := n3_; have GE135 := n4_; have NB133_135 := n5_; have NB135_133 := n6_; clear n0_ n1_ n2_ n3_ n4_ n5_ n6_; clear hb hbox hg; have hnb13 := NB135_133.out; have hnc13 := NB133_135.out; have hcz14_0 : w12.cell? ⟨gb135, 0, none⟩ = some (.int .i64 0) := (blk_cell BK135.out 0).trans rfl; have hcz14_1 : w12.cell? ⟨gb135, 1, none⟩ = some (.slice none 0 0) := (blk_cell BK135.out 1).trans rfl; have hcz14_2 : w12.cell? ⟨gb135, 2, none⟩ = some (.int .i64 0) := (blk_cell BK135.out 2).trans rfl; have hcz14_3 : w12.cell? ⟨gb135, 3, none⟩ = some (.int .u32 0) := (blk_cell BK135.out 3).trans rfl; have hcz14_4 : w12.cell? ⟨gb135, 4, none⟩ = some (.int .i64 0) := (blk_cell BK135.out 4).trans rfl; have hcz14_5 : w12.cell? ⟨gb135, 5, none⟩ = some (.int .i64 0) := (blk_cell BK135.out 5).trans rfl; have hcz14_6 : w12.cell? ⟨gb135, 6, none⟩ = some (.int .u32 0) := (blk_cell BK135.out 6).trans rfl; have hfz14_0 := blk_frozen BK135.out 0; have hfz14_1 := blk_frozen BK135.out 1; have hfz14_2 := blk_frozen BK135.out 2; have hfz14_3 := blk_frozen BK135.out 3; have hfz14_4 := blk_frozen BK135.out 4; have hfz14_5 := blk_frozen BK135.out 5; have hfz14_6 := blk_frozen BK135.out 6))
                  (try simp only [Act.put, List.setIfInBounds_toArray, List.set_cons_zero, List.set_cons_succ])
                  go_cut [7] (fun v7 wc => ∃ (kq : Nat) (x7_9 : Bool), v7 = .bool x7_9 ∧ Aside0 (millraceref11_Check.j2 kq (l0_0.length : Int) x5_2 x7_9 l0_0 ((rd_T95 l0_0 x5_2).f0) ((rd_T95 l0_0 x5_2).f1) ((rd_T95 l0_0 x5_2).f2) ((rd_T95 l0_0 x5_2).f3) ((rd_T95 l0_0 x5_2).f4) ((rd_T95 l0_0 x5_2).f5) ((rd_T95 l0_0 x5_2).f6) = some (r1, r2)) ∧ Aside0 (kq ≤ k2) ∧ Aside0 (wc.heap[gb133]? = some (.cells #[(.slice (some ad134) l0_0.length c0_0)] 24 (0, 0))) ∧ Aside0 (wc.heap[gb135]? = some (.cells #[.int .i64 ((rd_T95 l0_0 x5_2).f0), (.slice A134_1 ((rd_T95 l0_0 x5_2).f1).length c134_1), .int .i64 ((rd_T95 l0_0 x5_2).f2), .int .u32 ((rd_T95 l0_0 x5_2).f3), .int .i64 ((rd_T95 l0_0 x5_2).f4), .int .i64 ((rd_T95 l0_0 x5_2).f5), .int .u32 ((rd_T95 l0_0 x5_2).f6)] 95 (0, 0))) ∧ Aside0 (Below w.heap.size w wc))
                  case first =>
                    have H := HC10.out
                    clear HC10
                    replace H := Option.bind_eq_some_iff.mp H
                    obtain ⟨t136, A150, H⟩ := H
                    replace H : (if t136 = true then ((millraceref11_want.f ((rd_T95 l0_0 x5_2).f0)).bind fun t137 => (if (((rd_T95 l0_0 x5_2).f1).length : Int) = t137 then (millraceref11_Check.j2 k2 (l0_0.length : Int) x5_2 ((x5_2 == (wrap64 ((l0_0.length : Int) - 1))) == (((rd_T95 l0_0 x5_2).f0) == 8)) l0_0 ((rd_T95 l0_0 x5_2).f0) ((rd_T95 l0_0 x5_2).f1) ((rd_T95 l0_0 x5_2).f2) ((rd_T95 l0_0 x5_2).f3) ((rd_T95 l0_0 x5_2).f4) ((rd_T95 l0_0 x5_2).f5) ((rd_T95 l0_0 x5_2).f6)) else (millraceref11_Check.j2 k2 (l0_0.length : Int) x5_2 false l0_0 ((rd_T95 l0_0 x5_2).f0) ((rd_T95 l0_0 x5_2).f1) ((rd_T95 l0_0 x5_2).f2) ((rd_T95 l0_0 x5_2).f3) ((rd_T95 l0_0 x5_2).f4) ((rd_T95 l0_0 x5_2).f5) ((rd_T95 l0_0 x5_2).f6)))) else (millraceref11_Check.j2 k2 (l0_0.length : Int) x5_2 false l0_0 ((rd_T95 l0_0 x5_2).f0) ((rd_T95 l0_0 x5_2).f1) ((rd_T95 l0_0 x5_2).f2) ((rd_T95 l0_0 x5_2).f3) ((rd_T95 l0_0 x5_2).f4) ((rd_T95 l0_0 x5_2).f5) ((rd_T95 l0_0 x5_2).f6))) = some (r1, r2) := H
                    have A15 := Aside0.mk A150
                    clear A150
                    by_cases c16 : t136 = true
                    · subst c16
                      have H1 : ((millraceref11_want.f ((rd_T95 l0_0 x5_2).f0)).bind fun t137 => (if (((rd_T95 l0_0 x5_2).f1).length : Int) = t137 then (millraceref11_Check.j2 k2 (l0_0.length : Int) x5_2 ((x5_2 == (wrap64 ((l0_0.length : Int) - 1))) == (((rd_T95 l0_0 x5_2).f0) == 8)) l0_0 ((rd_T95 l0_0 x5_2).f0) ((rd_T95 l0_0 x5_2).f1) ((rd_T95 l0_0 x5_2).f2) ((rd_T95 l0_0 x5_2).f3) ((rd_T95 l0_0 x5_2).f4) ((rd_T95 l0_0 x5_2).f5) ((rd_T95 l0_0 x5_2).f6)) else (millraceref11_Check.j2 k2 (l0_0.length : Int) x5_2 false l0_0 ((rd_T95 l0_0 x5_2).f0) ((rd_T95 l0_0 x5_2).f1) ((rd_T95 l0_0 x5_2).f2) ((rd_T95 l0_0 x5_2).f3) ((rd_T95 l0_0 x5_2).f4) ((rd_T95 l0_0 x5_2).f5) ((rd_T95 l0_0 x5_2).f6)))) = some (r1, r2) := by rw [if_pos rfl] at H; exact H
                      clear H
                      have H := H1
                      clear H1
                      replace H := Option.bind_eq_some_iff.mp H
                      obtain ⟨t137, A170, H⟩ := H
                      replace H : (if (((rd_T95 l0_0 x5_2).f1).length : Int) = t137 then (millraceref11_Check.j2 k2 (l0_0.length : Int) x5_2 ((x5_2 == (wrap64 ((l0_0.length : Int) - 1))) == (((rd_T95 l0_0 x5_2).f0) == 8)) l0_0 ((rd_T95 l0_0 x5_2).f0) ((rd_T95 l0_0 x5_2).f1) ((rd_T95 l0_0 x5_2).f2) ((rd_T95 l0_0 x5_2).f3) ((rd_T95 l0_0 x5_2).f4) ((rd_T95 l0_0 x5_2).f5) ((rd_T95 l0_0 x5_2).f6)) else (millraceref11_Check.j2 k2 (l0_0.length : Int) x5_2 false l0_0 ((rd_T95 l0_0 x5_2).f0) ((rd_T95 l0_0 x5_2).f1) ((rd_T95 l0_0 x5_2).f2) ((rd_T95 l0_0 x5_2).f3) ((rd_T95 l0_0 x5_2).f4) ((rd_T95 l0_0 x5_2).f5) ((rd_T95 l0_0 x5_2).f6))) = some (r1, r2) := H
                      have A17 := Aside0.mk A170
                      clear A170
                      by_cases c18 : (((rd_T95 l0_0 x5_2).f1).length : Int) = t137
                      · rw [if_pos c18] at H
                        have c18b0 : ((((rd_T95 l0_0 x5_2).f1).length : Int) == t137) = true := beq_iff_eq.mpr c18
                        have c18b1 : ((((rd_T95 l0_0 x5_2).f1).length : Int) != t137) = false := bne_eq_false_iff_eq.mpr c18
                        clear c18
                        (first | rw [c18b0] | (simp only [i64_w, i32_w]; rw [c18b0]) | skip)
                        have H' := Aside0.mk H
                        clear H
                        try go_wp2
                        have n0_ : Aside0 ((((((((w12.setCell ⟨gb135, 0, none⟩ (.int .i64 ((rd_T95 l0_0 x5_2).f0))).setCell ⟨gb135, 1, none⟩ (.slice A134_1 ((rd_T95 l0_0 x5_2).f1).length c134_1)).setCell ⟨gb135, 2, none⟩ (.int .i64 ((rd_T95 l0_0 x5_2).f2))).setCell ⟨gb135, 3, none⟩ (.int .u32 ((rd_T95 l0_0 x5_2).f3))).setCell ⟨gb135, 4, none⟩ (.int .i64 ((rd_T95 l0_0 x5_2).f4))).setCell ⟨gb135, 5, none⟩ (.int .i64 ((rd_T95 l0_0 x5_2).f5))).setCell ⟨gb135, 6, none⟩ (.int .u32 ((rd_T95 l0_0 x5_2).f6))).heap[gb133]? = some (.cells #[.slice (some ad134) l0_0.length c0_0] 24 (0, 0))) := ⟨by (with_reducible repeat (first | refine blk_drewN ?_ _ | refine blk_drew ?_ | refine blk_alloc ?_ _)); refine blk_far ?_ NB133_135.out _; (with_reducible repeat (first | refine blk_drewN ?_ _ | refine blk_drew ?_ | refine blk_alloc ?_ _)); refine blk_far ?_ NB133_135.out _; (with_reducible repeat (first | refine blk_drewN ?_ _ | refine blk_drew ?_ | refine blk_alloc ?_ _)); refine blk_far ?_ NB133_135.out _; (with_reducible repeat (first | refine blk_drewN ?_ _ | refine blk_drew ?_ | refine blk_alloc ?_ _)); refine blk_far ?_ NB133_135.out _; (with_reducible repeat (first | refine blk_drewN ?_ _ | refine blk_drew ?_ | refine blk_alloc ?_ _)); refine blk_far ?_ NB133_135.out _; (with_reducible repeat (first | refine blk_drewN ?_ _ | refine blk_drew ?_ | refine blk_alloc ?_ _)); refine blk_far ?_ NB133_135.out _; (with_reducible repeat (first | refine blk_drewN ?_ _ | refine blk_drew ?_ | refine blk_alloc ?_ _)); refine blk_far ?_ NB133_135.out _; (with_reducible repeat (first | refine blk_drewN ?_ _ | refine blk_drew ?_ | refine blk_alloc ?_ _)); exact BK133.out⟩
                        have n1_ : Aside0 ((((((((w12.setCell ⟨gb135, 0, none⟩ (.int .i64 ((rd_T95 l0_0 x5_2).f0))).setCell ⟨gb135, 1, none⟩ (.slice A134_1 ((rd_T95 l0_0 x5_2).f1).length c134_1)).setCell ⟨gb135, 2, none⟩ (.int .i64 ((rd_T95 l0_0 x5_2).f2))).setCell ⟨gb135, 3, none⟩ (.int .u32 ((rd_T95 l0_0 x5_2).f3))).setCell ⟨gb135, 4, none⟩ (.int .i64 ((rd_T95 l0_0 x5_2).f4))).setCell ⟨gb135, 5, none⟩ (.int .i64 ((rd_T95 l0_0 x5_2).f5))).setCell ⟨gb135, 6, none⟩ (.int .u32 ((rd_T95 l0_0 x5_2).f6))).heap[gb135]? = some (.cells #[.int .i64 ((rd_T95 l0_0 x5_2).f0), .slice A134_1 ((rd_T95 l0_0 x5_2).f1).length c134_1, .int .i64 ((rd_T95 l0_0 x5_2).f2), .int .u32 ((rd_T95 l0_0 x5_2).f3), .int .i64 ((rd_T95 l0_0 x5_2).f4), .int .i64 ((rd_T95 l0_0 x5_2).f5), .int .u32 ((rd_T95 l0_0 x5_2).f6)] 95 (0, 0))) := ⟨by (with_reducible repeat (first | refine blk_drewN ?_ _ | refine blk_drew ?_ | refine blk_alloc ?_ _)); refine blk_put (cs := #[.int .i64 ((rd_T95 l0_0 x5_2).f0), .slice A134_1 ((rd_T95 l0_0 x5_2).f1).length c134_1, .int .i64 ((rd_T95 l0_0 x5_2).f2), .int .u32 ((rd_T95 l0_0 x5_2).f3), .int .i64 ((rd_T95 l0_0 x5_2).f4), .int .i64 ((rd_T95 l0_0 x5_2).f5), .int .u32 0]) ?_ 6 _ rfl; (with_reducible repeat (first | refine blk_drewN ?_ _ | refine blk_drew ?_ | refine blk_alloc ?_ _)); refine blk_put (cs := #[.int .i64 ((rd_T95 l0_0 x5_2).f0), .slice A134_1 ((rd_T95 l0_0 x5_2).f1).length c134_1, .int .i64 ((rd_T95 l0_0 x5_2).f2), .int .u32 ((rd_T95 l0_0 x5_2).f3), .int .i64 ((rd_T95 l0_0 x5_2).f4), .int .i64 0, .int .u32 0]) ?_ 5 _ rfl; (with_reducible repeat (first | refine blk_drewN ?_ _ | refine blk_drew ?_ | refine blk_alloc ?_ _)); refine blk_put (cs := #[.int .i64 ((rd_T95 l0_0 x5_2).f0), .slice A134_1 ((rd_T95 l0_0 x5_2).f1).length c134_1, .int .i64 ((rd_T95 l0_0 x5_2).f2), .int .u32 ((rd_T95 l0_0 x5_2).f3), .int .i64 0, .int .i64 0, .int .u32 0]) ?_ 4 _ rfl; (with_reducible repeat (first | refine blk_drewN ?_ _ | refine blk_drew ?_ | refine blk_alloc ?_ _)); refine blk_put (cs := #[.int .i64 ((rd_T95 l0_0 x5_2).f0), .slice A134_1 ((rd_T95 l0_0 x5_2).f1).length c134_1, .int .i64 ((rd_T95 l0_0 x5_2).f2), .int .u32 0, .int .i64 0, .int .i64 0, .int .u32 0]) ?_ 3 _ rfl; (with_reducible repeat (first | refine blk_drewN ?_ _ | refine blk_drew ?_ | refine blk_alloc ?_ _)); refine blk_put (cs := #[.int .i64 ((rd_T95 l0_0 x5_2).f0), .slice A134_1 ((rd_T95 l0_0 x5_2).f1).length c134_1, .int .i64 0, .int .u32 0, .int .i64 0, .int .i64 0, .int .u32 0]) ?_ 2 _ rfl; (with_reducible repeat (first | refine blk_drewN ?_ _ | refine blk_drew ?_ | refine blk_alloc ?_ _)); refine blk_put (cs := #[.int .i64 ((rd_T95 l0_0 x5_2).f0), .slice none 0 0, .int .i64 0, .int .u32 0, .int .i64 0, .int .i64 0, .int .u32 0]) ?_ 1 _ rfl; (with_reducible repeat (first | refine blk_drewN ?_ _ | refine blk_drew ?_ | refine blk_alloc ?_ _)); refine blk_put (cs := #[.int .i64 0, .slice none 0 0, .int .i64 0, .int .u32 0, .int .i64 0, .int .i64 0, .int .u32 0]) ?_ 0 _ rfl; (with_reducible repeat (first | refine blk_drewN ?_ _ | refine blk_drew ?_ | refine blk_alloc ?_ _)); exact BK135.out⟩
                        have n2_ : Aside0 (Below w.heap.size w (((((((w12.setCell ⟨gb135, 0, none⟩ (.int .i64 ((rd_T95 l0_0 x5_2).f0))).setCell ⟨gb135, 1, none⟩ (.slice A134_1 ((rd_T95 l0_0 x5_2).f1).length c134_1)).setCell ⟨gb135, 2, none⟩ (.int .i64 ((rd_T95 l0_0 x5_2).f2))).setCell ⟨gb135, 3, none⟩ (.int .u32 ((rd_T95 l0_0 x5_2).f3))).setCell ⟨gb135, 4, none⟩ (.int .i64 ((rd_T95 l0_0 x5_2).f4))).setCell ⟨gb135, 5, none⟩ (.int .i64 ((rd_T95 l0_0 x5_2).f5))).setCell ⟨gb135, 6, none⟩ (.int .u32 ((rd_T95 l0_0 x5_2).f6)))) := ⟨by repeat (first | (with_reducible first | exact HB.out | apply below_alloc | apply pw_below_drewN | apply below_drew1 | refine below_set ?_ GE133.out | refine below_set ?_ GE135.out) | exact HB.out)⟩
                        (try clear BK133)
                        (try clear BK135)
                        (try clear HB)
                        generalize (((((((w12.setCell ⟨gb135, 0, none⟩ (.int .i64 ((rd_T95 l0_0 x5_2).f0))).setCell ⟨gb135, 1, none⟩ (.slice A134_1 ((rd_T95 l0_0 x5_2).f1).length c134_1)).setCell ⟨gb135, 2, none⟩ (.int .i64 ((rd_T95 l0_0 x5_2).f2))).setCell ⟨gb135, 3, none⟩ (.int .u32 ((rd_T95 l0_0 x5_2).f3))).setCell ⟨gb135, 4, none⟩ (.int .i64 ((rd_T95 l0_0 x5_2).f4))).setCell ⟨gb135, 5, none⟩ (.int .i64 ((rd_T95 l0_0 x5_2).f5))).setCell ⟨gb135, 6, none⟩ (.int .u32 ((rd_T95 l0_0 x5_2).f6))) = w19 at n0_ n1_ n2_ ⊢
                        have BK133 := n0_
                        have BK135 := n1_
                        have HB := n2_
                        clear n0_ n1_ n2_
                        have n0_ := Aside0.mk (blk_drew BK133.out)
                        have n1_ := Aside0.mk (blk_drew BK135.out)
                        have n2_ := Aside0.mk (below_drew1 HB.out)
                        clear BK133
                        clear BK135
                        clear HB
                        have BK133 := n0_
                        have BK135 := n1_
                        have HB := n2_
                        clear n0_ n1_ n2_
                        refine start_ (n := 22) (S := fun w' => w'.cell? ⟨gb135, 0, none⟩ = some (.int .i64 ((rd_T95 l0_0 x5_2).f0)) ∧ w'.cell? ⟨gb135, 1, none⟩ = some (.slice A134_1 ((rd_T95 l0_0 x5_2).f1).length c134_1) ∧ w'.cell? ⟨gb135, 2, none⟩ = some (.int .i64 ((rd_T95 l0_0 x5_2).f2)) ∧ w'.cell? ⟨gb135, 3, none⟩ = some (.int .u32 ((rd_T95 l0_0 x5_2).f3)) ∧ w'.cell? ⟨gb135, 4, none⟩ = some (.int .i64 ((rd_T95 l0_0 x5_2).f4)) ∧ w'.cell? ⟨gb135, 5, none⟩ = some (.int .i64 ((rd_T95 l0_0 x5_2).f5)) ∧ w'.cell? ⟨gb135, 6, none⟩ = some (.int .u32 ((rd_T95 l0_0 x5_2).f6))) (ds := []) #[false, false, false, false, false, false, false, false, false, false, false, false, false, false, false, false, false, false, false, false, false, false] (by kernel_rfl) rfl rfl ⟨(blk_cell BK135.out 0).trans rfl, (blk_cell BK135.out 1).trans rfl, (blk_cell BK135.out 2).trans rfl, (blk_cell BK135.out 3).trans rfl, (blk_cell BK135.out 4).trans rfl, (blk_cell BK135.out 5).trans rfl, (blk_cell BK135.out 6).trans rfl⟩ (fun hHeld => ?_); refine with_tabW millraceref11_Check.tab8 millraceref11_Check.bits8 (fun HT_ HW_ => ?_)
                        generalize w19.drew = w20 at BK133 BK135 HB hHeld ⊢
                        refine take_ (i := 0) (N := some 28) (v := ?_) (a' := ?_) #[true, false, false, false, false, false, false, false, false, false, false, false, false, false, false, false, false, false, false, false, false, false] rfl rfl (take_ofW HT_.out HW_.out (by kernel_rfl)) (fun _ _ _ h => h) (Or.inl ⟨by rfl, ?_⟩) hHeld ?_ ?_
                        rotate_left
                        · rintro w' ⟨s0, s1, s2, s3, s4, s5, s6⟩
                          go_simp
                          with_reducible rfl
                        rotate_left
                        · simp only [Act.put, List.setIfInBounds_toArray, List.set_cons_zero, List.set_cons_succ, i64_w, i32_w]
                          rfl
                        refine one_ (i := 1) (N := some 29) #[true, true, false, false, false, false, false, false, false, false, false, false, false, false, false, false, false, false, false, false, false, false] rfl rfl (one_of HT_.out (by kernel_rfl)) (by decide) (fun K hK => ?_)
                        refine goes_ Try.func55 (by kernel_rfl) rfl #[.agg #[.int .i64 ((rd_T95 l0_0 x5_2).f0), .slice A134_1 ((rd_T95 l0_0 x5_2).f1).length c134_1, .int .i64 ((rd_T95 l0_0 x5_2).f2), .int .u32 ((rd_T95 l0_0 x5_2).f3), .int .i64 ((rd_T95 l0_0 x5_2).f4), .int .i64 ((rd_T95 l0_0 x5_2).f5), .int .u32 ((rd_T95 l0_0 x5_2).f6)]] (by rfl) rfl rfl (by (try simp only [List.map_toArray, List.map_cons, List.map_nil]); first | done | rfl | (simp only [List.length_drop, List.length_take]; rfl)) ?_
                        with_reducible refine (millraceref11_form.calls k2 ((rd_T95 l0_0 x5_2).f0) _ _ ((rd_T95 l0_0 x5_2).f1) ((rd_T95 l0_0 x5_2).f2) ((rd_T95 l0_0 x5_2).f3) ((rd_T95 l0_0 x5_2).f4) ((rd_T95 l0_0 x5_2).f5) ((rd_T95 l0_0 x5_2).f6) true _ ?side1 ?side2 A15.out).mono ?_
                        (case side1 => repeat (first | exact (Kd.C_below HR134_1.out HB.out) | (with_reducible refine Kd.C_alloc ?_ _) | (with_reducible refine Kd.C_drewN ?_ _) | (with_reducible refine Kd.C_drew ?_)))
                        (case side2 => exact HC134_1.out)
                        rintro e w21 ⟨rfl, hb⟩
                        refine ⟨_, rfl, ?_⟩
                        have n0_ := Aside0.mk (blk_below (g := gb133) (o := .cells #[.slice (some ad134) l0_0.length c0_0] 24 (0, 0)) (by (with_reducible repeat (first | refine blk_drewN ?_ _ | refine blk_drew ?_ | refine blk_alloc ?_ _)); exact BK133.out) hb)
                        have n1_ := Aside0.mk (blk_below (g := gb135) (o := .cells #[.int .i64 ((rd_T95 l0_0 x5_2).f0), .slice A134_1 ((rd_T95 l0_0 x5_2).f1).length c134_1, .int .i64 ((rd_T95 l0_0 x5_2).f2), .int .u32 ((rd_T95 l0_0 x5_2).f3), .int .i64 ((rd_T95 l0_0 x5_2).f4), .int .i64 ((rd_T95 l0_0 x5_2).f5), .int .u32 ((rd_T95 l0_0 x5_2).f6)] 95 (0, 0)) (by (with_reducible repeat (first | refine blk_drewN ?_ _ | refine blk_drew ?_ | refine blk_alloc ?_ _)); exact BK135.out) hb)
                        have n2_ := Aside0.mk (below_step (by repeat (first | (with_reducible first | exact HB.out | apply below_alloc | apply pw_below_drewN | apply below_drew1 | refine below_set ?_ GE133.out | refine below_set ?_ GE135.out) | exact HB.out)) hb)
                        clear BK133
                        clear BK135
                        clear HB
                        have BK133 := n0_
                        have BK135 := n1_
                        have HB := n2_
                        clear n0_ n1_ n2_
                        (try clear hb)
                        (try clear hb2)
                        (try clear hk)
                        (try clear hi)
                        refine hK.out _ _ ⟨(blk_cell BK135.out 0).trans rfl, (blk_cell BK135.out 1).trans rfl, (blk_cell BK135.out 2).trans rfl, (blk_cell BK135.out 3).trans rfl, (blk_cell BK135.out 4).trans rfl, (blk_cell BK135.out 5).trans rfl, (blk_cell BK135.out 6).trans rfl⟩ (fun hHeld => ?_)
                        clear hK K
                        refine norm_ (a' := ?_) ?_ ?_
                        rotate_left
                        · show Act.put _ (some 29) _ = _
                          simp only [Act.put, List.setIfInBounds_toArray, List.set_cons_zero, List.set_cons_succ, i64_w, i32_w]
                          rfl
                        refine pure_ (i := 2) (N := some 30) (v := ?_) (a' := ?_) #[true, true, true, false, false, false, false, false, false, false, false, false, false, false, false, false, false, false, false, false, false, false] rfl rfl (any_of HT_.out (by kernel_rfl)) (fun _ _ _ h => h) (Or.inl ⟨by rfl, ?_⟩) ?_ ?_
                        rotate_left
                        · intro w'
                          go_simp
                          with_reducible rfl
                        rotate_left
                        · simp only [Act.put, List.setIfInBounds_toArray, List.set_cons_zero, List.set_cons_succ, i64_w, i32_w]
                          rfl
                        refine pure_ (i := 3) (N := some 31) (v := ?_) (a' := ?_) #[true, true, true, true, false, false, false, false, false, false, false, false, false, false, false, false, false, false, false, false, false, false] rfl rfl (any_of HT_.out (by kernel_rfl)) (fun _ _ _ h => h) (Or.inl ⟨by rfl, ?_⟩) ?_ ?_
                        rotate_left
                        · intro w'
                          go_simp
                          with_reducible rfl
                        rotate_left
                        · simp only [Act.put, List.setIfInBounds_toArray, List.set_cons_zero, List.set_cons_succ, i64_w, i32_w]
                          rfl
                        refine pure_ (i := 6) (N := some 34) (v := ?_) (a' := ?_) #[true, true, true, true, false, false, true, false, false, false, false, false, false, false, false, false, false, false, false, false, false, false] rfl rfl (any_of HT_.out (by kernel_rfl)) (fun _ _ _ h => h) (Or.inl ⟨by rfl, ?_⟩) ?_ ?_
                        rotate_left
                        · intro w'
                          go_simp
                          with_reducible rfl
                        rotate_left
                        · simp only [Act.put, List.setIfInBounds_toArray, List.set_cons_zero, List.set_cons_succ, i64_w, i32_w]
                          rfl
                        refine take_ (i := 4) (N := some 32) (v := ?_) (a' := ?_) #[true, true, true, true, true, false, true, false, false, false, false, false, false, false, false, false, false, false, false, false, false, false] rfl rfl (take_ofW HT_.out HW_.out (by kernel_rfl)) (fun _ _ _ h => h) (Or.inl ⟨by rfl, ?_⟩) hHeld ?_ ?_
                        rotate_left
                        · rintro w' ⟨s0, s1, s2, s3, s4, s5, s6⟩
                          go_simp
                          with_reducible rfl
                        rotate_left
                        · simp only [Act.put, List.setIfInBounds_toArray, List.set_cons_zero, List.set_cons_succ, i64_w, i32_w]
                          rfl
                        refine pure_ (i := 5) (N := some 33) (v := ?_) (a' := ?_) #[true, true, true, true, true, true, true, false, false, false, false, false, false, false, false, false, false, false, false, false, false, false] rfl rfl (any_of HT_.out (by kernel_rfl)) (fun _ _ _ h => h) (Or.inl ⟨by rfl, ?_⟩) ?_ ?_
                        rotate_left
                        · intro w'
                          go_simp
                          with_reducible rfl
                        rotate_left
                        · simp only [Act.put, List.setIfInBounds_toArray, List.set_cons_zero, List.set_cons_succ, i64_w, i32_w]
                          rfl
                        refine take_ (i := 7) (N := some 35) (v := ?_) (a' := ?_) #[true, true, true, true, true, true, true, true, false, false, false, false, false, false, false, false, false, false, false, false, false, false] rfl rfl (take_ofW HT_.out HW_.out (by kernel_rfl)) (fun _ _ _ h => h) (Or.inl ⟨by rfl, ?_⟩) hHeld ?_ ?_
                        rotate_left
                        · rintro w' ⟨s0, s1, s2, s3, s4, s5, s6⟩
                          go_simp
                          with_reducible rfl
                        rotate_left
                        · simp only [Act.put, List.setIfInBounds_toArray, List.set_cons_zero, List.set_cons_succ, i64_w, i32_w]
                          rfl
                        refine one_ (i := 8) (N := some 36) #[true, true, true, true, true, true, true, true, true, false, false, false, false, false, false, false, false, false, false, false, false, false] rfl rfl (one_of HT_.out (by kernel_rfl)) (by decide) (fun K hK => ?_)
                        refine goes_ Try.func56 (by kernel_rfl) rfl #[.int .i64 ((rd_T95 l0_0 x5_2).f0)] (by rfl) rfl rfl (by (try simp only [List.map_toArray, List.map_cons, List.map_nil]); first | done | rfl | (simp only [List.length_drop, List.length_take]; rfl)) ?_
                        with_reducible refine (millraceref11_want.calls ((rd_T95 l0_0 x5_2).f0) t137 _ A17.out).mono ?_
                        rintro e w' ⟨rfl, ⟨nd, rfl⟩⟩
                        refine ⟨_, rfl, ?_⟩
                        refine hK.out _ _ ⟨(blk_cell BK135.out 0).trans rfl, (blk_cell BK135.out 1).trans rfl, (blk_cell BK135.out 2).trans rfl, (blk_cell BK135.out 3).trans rfl, (blk_cell BK135.out 4).trans rfl, (blk_cell BK135.out 5).trans rfl, (blk_cell BK135.out 6).trans rfl⟩ (fun hHeld => ?_)
                        clear hK K
                        refine norm_ (a' := ?_) ?_ ?_
                        rotate_left
                        · show Act.put _ (some 36) _ = _
                          simp only [Act.put, List.setIfInBounds_toArray, List.set_cons_zero, List.set_cons_succ, i64_w, i32_w]
                          rfl
                        refine pure_ (i := 9) (N := some 37) (v := ?_) (a' := ?_) #[true, true, true, true, true, true, true, true, true, true, false, false, false, false, false, false, false, false, false, false, false, false] rfl rfl (any_of HT_.out (by kernel_rfl)) (fun _ _ _ h => h) (Or.inl ⟨by rfl, ?_⟩) ?_ ?_
                        rotate_left
                        · intro w'
                          go_simp
                          with_reducible rfl
                        rotate_left
                        · simp only [Act.put, List.setIfInBounds_toArray, List.set_cons_zero, List.set_cons_succ, i64_w, i32_w]
                          rfl
                        refine pure_ (i := 10) (N := some 38) (v := ?_) (a' := ?_) #[true, true, true, true, true, true, true, true, true, true, true, false, false, false, false, false, false, false, false, false, false, false] rfl rfl (any_of HT_.out (by kernel_rfl)) (fun _ _ _ h => h) (Or.inl ⟨by rfl, ?_⟩) ?_ ?_
                        rotate_left
                        · intro w'
                          go_simp
                          with_reducible rfl
                        rotate_left
                        · simp only [Act.put, List.setIfInBounds_toArray, List.set_cons_zero, List.set_cons_succ, i64_w, i32_w]
                          rfl
                        refine pure_ (i := 11) (N := some 39) (v := ?_) (a' := ?_) #[true, true, true, true, true, true, true, true, true, true, true, true, false, false, false, false, false, false, false, false, false, false] rfl rfl (any_of HT_.out (by kernel_rfl)) (fun _ _ _ h => h) (Or.inl ⟨by rfl, ?_⟩) ?_ ?_
                        rotate_left
                        · intro w'
                          go_simp
                          with_reducible rfl
                        rotate_left
                        · simp only [Act.put, List.setIfInBounds_toArray, List.set_cons_zero, List.set_cons_succ, i64_w, i32_w]
                          rfl
                        refine pure_ (i := 12) (N := some 40) (v := ?_) (a' := ?_) #[true, true, true, true, true, true, true, true, true, true, true, true, true, false, false, false, false, false, false, false, false, false] rfl rfl (any_of HT_.out (by kernel_rfl)) (fun _ _ _ h => h) (Or.inl ⟨by rfl, ?_⟩) ?_ ?_
                        rotate_left
                        · intro w'
                          go_simp
                          with_reducible rfl
                        rotate_left
                        · simp only [Act.put, List.setIfInBounds_toArray, List.set_cons_zero, List.set_cons_succ, i64_w, i32_w]
                          rfl
                        refine pure_ (i := 13) (N := some 41) (v := ?_) (a' := ?_) #[true, true, true, true, true, true, true, true, true, true, true, true, true, true, false, false, false, false, false, false, false, false] rfl rfl (any_of HT_.out (by kernel_rfl)) (fun _ _ _ h => h) (Or.inl ⟨by rfl, ?_⟩) ?_ ?_
                        rotate_left
                        · intro w'
                          go_simp
                          with_reducible rfl
                        rotate_left
                        · simp only [Act.put, List.setIfInBounds_toArray, List.set_cons_zero, List.set_cons_succ, i64_w, i32_w]
                          rfl
                        refine pure_ (i := 14) (N := some 42) (v := ?_) (a' := ?_) #[true, true, true, true, true, true, true, true, true, true, true, true, true, true, true, false, false, false, false, false, false, false] rfl rfl (any_of HT_.out (by kernel_rfl)) (fun _ _ _ h => h) (Or.inl ⟨by rfl, ?_⟩) ?_ ?_
                        rotate_left
                        · intro w'
                          go_simp
                          with_reducible rfl
                        rotate_left
                        · simp only [Act.put, List.setIfInBounds_toArray, List.set_cons_zero, List.set_cons_succ, i64_w, i32_w]
                          rfl
                        refine pure_ (i := 15) (N := some 43) (v := ?_) (a' := ?_) #[true, true, true, true, true, true, true, true, true, true, true, true, true, true, true, true, false, false, false, false, false, false] rfl rfl (any_of HT_.out (by kernel_rfl)) (fun _ _ _ h => h) (Or.inl ⟨by rfl, ?_⟩) ?_ ?_
                        rotate_left
                        · intro w'
                          go_simp
                          with_reducible rfl
                        rotate_left
                        · simp only [Act.put, List.setIfInBounds_toArray, List.set_cons_zero, List.set_cons_succ, i64_w, i32_w]
                          rfl
                        refine pure_ (i := 16) (N := some 44) (v := ?_) (a' := ?_) #[true, true, true, true, true, true, true, true, true, true, true, true, true, true, true, true, true, false, false, false, false, false] rfl rfl (any_of HT_.out (by kernel_rfl)) (fun _ _ _ h => h) (Or.inl ⟨by rfl, ?_⟩) ?_ ?_
                        rotate_left
                        · intro w'
                          go_simp
                          with_reducible rfl
                        rotate_left
                        · simp only [Act.put, List.setIfInBounds_toArray, List.set_cons_zero, List.set_cons_succ, i64_w, i32_w]
                          rfl
                        refine take_ (i := 17) (N := some 45) (v := ?_) (a' := ?_) #[true, true, true, true, true, true, true, true, true, true, true, true, true, true, true, true, true, true, false, false, false, false] rfl rfl (take_ofW HT_.out HW_.out (by kernel_rfl)) (fun _ _ _ h => h) (Or.inl ⟨by rfl, ?_⟩) hHeld ?_ ?_
                        rotate_left
                        · rintro w' ⟨s0, s1, s2, s3, s4, s5, s6⟩
                          go_simp
                          with_reducible rfl
                        rotate_left
                        · simp only [Act.put, List.setIfInBounds_toArray, List.set_cons_zero, List.set_cons_succ, i64_w, i32_w]
                          rfl
                        refine pure_ (i := 18) (N := some 46) (v := ?_) (a' := ?_) #[true, true, true, true, true, true, true, true, true, true, true, true, true, true, true, true, true, true, true, false, false, false] rfl rfl (any_of HT_.out (by kernel_rfl)) (fun _ _ _ h => h) (Or.inl ⟨by rfl, ?_⟩) ?_ ?_
                        rotate_left
                        · intro w'
                          go_simp
                          with_reducible rfl
                        rotate_left
                        · simp only [Act.put, List.setIfInBounds_toArray, List.set_cons_zero, List.set_cons_succ, i64_w, i32_w]
                          rfl
                        refine pure_ (i := 19) (N := some 47) (v := ?_) (a' := ?_) #[true, true, true, true, true, true, true, true, true, true, true, true, true, true, true, true, true, true, true, true, false, false] rfl rfl (any_of HT_.out (by kernel_rfl)) (fun _ _ _ h => h) (Or.inl ⟨by rfl, ?_⟩) ?_ ?_
                        rotate_left
                        · intro w'
                          go_simp
                          with_reducible rfl
                        rotate_left
                        · simp only [Act.put, List.setIfInBounds_toArray, List.set_cons_zero, List.set_cons_succ, i64_w, i32_w]
                          rfl
                        refine pure_ (i := 20) (N := some 48) (v := ?_) (a' := ?_) #[true, true, true, true, true, true, true, true, true, true, true, true, true, true, true, true, true, true, true, true, true, false] rfl rfl (any_of HT_.out (by kernel_rfl)) (fun _ _ _ h => h) (Or.inl ⟨by rfl, ?_⟩) ?_ ?_
                        rotate_left
                        · intro w'
                          go_simp
                          with_reducible rfl
                        rotate_left
                        · simp only [Act.put, List.setIfInBounds_toArray, List.set_cons_zero, List.set_cons_succ, i64_w, i32_w]
                          rfl
                        refine pure_ (i := 21) (N := some 7) (v := ?_) (a' := ?_) #[true, true, true, true, true, true, true, true, true, true, true, true, true, true, true, true, true, true, true, true, true, true] rfl rfl (any_of HT_.out (by kernel_rfl)) (fun _ _ _ h => h) (Or.inl ⟨by rfl, ?_⟩) ?_ ?_
                        rotate_left
                        · intro w'
                          go_simp
                          with_reducible rfl
                        rotate_left
                        · simp only [Act.put, List.setIfInBounds_toArray, List.set_cons_zero, List.set_cons_succ, i64_w, i32_w]
                          rfl
                        refine done_ (done_of HT_.out (by kernel_rfl)) ?_
                        try go_wp2
                        go_meet
                        case rel => exact ⟨_, (((x5_2 == (wrap64 ((l0_0.length : Int) - 1))) == (((rd_T95 l0_0 x5_2).f0) == 8))), (by first | rfl | (simp; done) | (simp [*]; done)), H', ⟨by have := HJ1.out; have := HK2.out; first | omega | exact Nat.le_refl _⟩, ⟨by (with_reducible repeat (first | refine blk_drewN ?_ _ | refine blk_drew ?_ | refine blk_alloc ?_ _)); exact BK133.out⟩, ⟨by (with_reducible repeat (first | refine blk_drewN ?_ _ | refine blk_drew ?_ | refine blk_alloc ?_ _)); exact BK135.out⟩, ⟨by repeat (first | (with_reducible first | exact HB.out | apply below_alloc | apply pw_below_drewN | apply below_drew1 | refine below_set ?_ GE133.out | refine below_set ?_ GE135.out) | exact HB.out)⟩⟩
                      · rw [if_neg c18] at H
                        have c18b0 : ((((rd_T95 l0_0 x5_2).f1).length : Int) == t137) = false := beq_eq_false_iff_ne.mpr c18
                        have c18b1 : ((((rd_T95 l0_0 x5_2).f1).length : Int) != t137) = true := bne_iff_ne.mpr c18
                        (first | rw [c18b0] | (simp only [i64_w, i32_w]; rw [c18b0]) | skip)
                        have H' := Aside0.mk H
                        clear H
                        try go_wp2
                        have n0_ : Aside0 ((((((((w12.setCell ⟨gb135, 0, none⟩ (.int .i64 ((rd_T95 l0_0 x5_2).f0))).setCell ⟨gb135, 1, none⟩ (.slice A134_1 ((rd_T95 l0_0 x5_2).f1).length c134_1)).setCell ⟨gb135, 2, none⟩ (.int .i64 ((rd_T95 l0_0 x5_2).f2))).setCell ⟨gb135, 3, none⟩ (.int .u32 ((rd_T95 l0_0 x5_2).f3))).setCell ⟨gb135, 4, none⟩ (.int .i64 ((rd_T95 l0_0 x5_2).f4))).setCell ⟨gb135, 5, none⟩ (.int .i64 ((rd_T95 l0_0 x5_2).f5))).setCell ⟨gb135, 6, none⟩ (.int .u32 ((rd_T95 l0_0 x5_2).f6))).heap[gb133]? = some (.cells #[.slice (some ad134) l0_0.length c0_0] 24 (0, 0))) := ⟨by (with_reducible repeat (first | refine blk_drewN ?_ _ | refine blk_drew ?_ | refine blk_alloc ?_ _)); refine blk_far ?_ NB133_135.out _; (with_reducible repeat (first | refine blk_drewN ?_ _ | refine blk_drew ?_ | refine blk_alloc ?_ _)); refine blk_far ?_ NB133_135.out _; (with_reducible repeat (first | refine blk_drewN ?_ _ | refine blk_drew ?_ | refine blk_alloc ?_ _)); refine blk_far ?_ NB133_135.out _; (with_reducible repeat (first | refine blk_drewN ?_ _ | refine blk_drew ?_ | refine blk_alloc ?_ _)); refine blk_far ?_ NB133_135.out _; (with_reducible repeat (first | refine blk_drewN ?_ _ | refine blk_drew ?_ | refine blk_alloc ?_ _)); refine blk_far ?_ NB133_135.out _; (with_reducible repeat (first | refine blk_drewN ?_ _ | refine blk_drew ?_ | refine blk_alloc ?_ _)); refine blk_far ?_ NB133_135.out _; (with_reducible repeat (first | refine blk_drewN ?_ _ | refine blk_drew ?_ | refine blk_alloc ?_ _)); refine blk_far ?_ NB133_135.out _; (with_reducible repeat (first | refine blk_drewN ?_ _ | refine blk_drew ?_ | refine blk_alloc ?_ _)); exact BK133.out⟩
                        have n1_ : Aside0 ((((((((w12.setCell ⟨gb135, 0, none⟩ (.int .i64 ((rd_T95 l0_0 x5_2).f0))).setCell ⟨gb135, 1, none⟩ (.slice A134_1 ((rd_T95 l0_0 x5_2).f1).length c134_1)).setCell ⟨gb135, 2, none⟩ (.int .i64 ((rd_T95 l0_0 x5_2).f2))).setCell ⟨gb135, 3, none⟩ (.int .u32 ((rd_T95 l0_0 x5_2).f3))).setCell ⟨gb135, 4, none⟩ (.int .i64 ((rd_T95 l0_0 x5_2).f4))).setCell ⟨gb135, 5, none⟩ (.int .i64 ((rd_T95 l0_0 x5_2).f5))).setCell ⟨gb135, 6, none⟩ (.int .u32 ((rd_T95 l0_0 x5_2).f6))).heap[gb135]? = some (.cells #[.int .i64 ((rd_T95 l0_0 x5_2).f0), .slice A134_1 ((rd_T95 l0_0 x5_2).f1).length c134_1, .int .i64 ((rd_T95 l0_0 x5_2).f2), .int .u32 ((rd_T95 l0_0 x5_2).f3), .int .i64 ((rd_T95 l0_0 x5_2).f4), .int .i64 ((rd_T95 l0_0 x5_2).f5), .int .u32 ((rd_T95 l0_0 x5_2).f6)] 95 (0, 0))) := ⟨by (with_reducible repeat (first | refine blk_drewN ?_ _ | refine blk_drew ?_ | refine blk_alloc ?_ _)); refine blk_put (cs := #[.int .i64 ((rd_T95 l0_0 x5_2).f0), .slice A134_1 ((rd_T95 l0_0 x5_2).f1).length c134_1, .int .i64 ((rd_T95 l0_0 x5_2).f2), .int .u32 ((rd_T95 l0_0 x5_2).f3), .int .i64 ((rd_T95 l0_0 x5_2).f4), .int .i64 ((rd_T95 l0_0 x5_2).f5), .int .u32 0]) ?_ 6 _ rfl; (with_reducible repeat (first | refine blk_drewN ?_ _ | refine blk_drew ?_ | refine blk_alloc ?_ _)); refine blk_put (cs := #[.int .i64 ((rd_T95 l0_0 x5_2).f0), .slice A134_1 ((rd_T95 l0_0 x5_2).f1).length c134_1, .int .i64 ((rd_T95 l0_0 x5_2).f2), .int .u32 ((rd_T95 l0_0 x5_2).f3), .int .i64 ((rd_T95 l0_0 x5_2).f4), .int .i64 0, .int .u32 0]) ?_ 5 _ rfl; (with_reducible repeat (first | refine blk_drewN ?_ _ | refine blk_drew ?_ | refine blk_alloc ?_ _)); refine blk_put (cs := #[.int .i64 ((rd_T95 l0_0 x5_2).f0), .slice A134_1 ((rd_T95 l0_0 x5_2).f1).length c134_1, .int .i64 ((rd_T95 l0_0 x5_2).f2), .int .u32 ((rd_T95 l0_0 x5_2).f3), .int .i64 0, .int .i64 0, .int .u32 0]) ?_ 4 _ rfl; (with_reducible repeat (first | refine blk_drewN ?_ _ | refine blk_drew ?_ | refine blk_alloc ?_ _)); refine blk_put (cs := #[.int .i64 ((rd_T95 l0_0 x5_2).f0), .slice A134_1 ((rd_T95 l0_0 x5_2).f1).length c134_1, .int .i64 ((rd_T95 l0_0 x5_2).f2), .int .u32 0, .int .i64 0, .int .i64 0, .int .u32 0]) ?_ 3 _ rfl; (with_reducible repeat (first | refine blk_drewN ?_ _ | refine blk_drew ?_ | refine blk_alloc ?_ _)); refine blk_put (cs := #[.int .i64 ((rd_T95 l0_0 x5_2).f0), .slice A134_1 ((rd_T95 l0_0 x5_2).f1).length c134_1, .int .i64 0, .int .u32 0, .int .i64 0, .int .i64 0, .int .u32 0]) ?_ 2 _ rfl; (with_reducible repeat (first | refine blk_drewN ?_ _ | refine blk_drew ?_ | refine blk_alloc ?_ _)); refine blk_put (cs := #[.int .i64 ((rd_T95 l0_0 x5_2).f0), .slice none 0 0, .int .i64 0, .int .u32 0, .int .i64 0, .int .i64 0, .int .u32 0]) ?_ 1 _ rfl; (with_reducible repeat (first | refine blk_drewN ?_ _ | refine blk_drew ?_ | refine blk_alloc ?_ _)); refine blk_put (cs := #[.int .i64 0, .slice none 0 0, .int .i64 0, .int .u32 0, .int .i64 0, .int .i64 0, .int .u32 0]) ?_ 0 _ rfl; (with_reducible repeat (first | refine blk_drewN ?_ _ | refine blk_drew ?_ | refine blk_alloc ?_ _)); exact BK135.out⟩
                        have n2_ : Aside0 (Below w.heap.size w (((((((w12.setCell ⟨gb135, 0, none⟩ (.int .i64 ((rd_T95 l0_0 x5_2).f0))).setCell ⟨gb135, 1, none⟩ (.slice A134_1 ((rd_T95 l0_0 x5_2).f1).length c134_1)).setCell ⟨gb135, 2, none⟩ (.int .i64 ((rd_T95 l0_0 x5_2).f2))).setCell ⟨gb135, 3, none⟩ (.int .u32 ((rd_T95 l0_0 x5_2).f3))).setCell ⟨gb135, 4, none⟩ (.int .i64 ((rd_T95 l0_0 x5_2).f4))).setCell ⟨gb135, 5, none⟩ (.int .i64 ((rd_T95 l0_0 x5_2).f5))).setCell ⟨gb135, 6, none⟩ (.int .u32 ((rd_T95 l0_0 x5_2).f6)))) := ⟨by repeat (first | (with_reducible first | exact HB.out | apply below_alloc | apply pw_below_drewN | apply below_drew1 | refine below_set ?_ GE133.out | refine below_set ?_ GE135.out) | exact HB.out)⟩
                        (try clear BK133)
                        (try clear BK135)
                        (try clear HB)
                        generalize (((((((w12.setCell ⟨gb135, 0, none⟩ (.int .i64 ((rd_T95 l0_0 x5_2).f0))).setCell ⟨gb135, 1, none⟩ (.slice A134_1 ((rd_T95 l0_0 x5_2).f1).length c134_1)).setCell ⟨gb135, 2, none⟩ (.int .i64 ((rd_T95 l0_0 x5_2).f2))).setCell ⟨gb135, 3, none⟩ (.int .u32 ((rd_T95 l0_0 x5_2).f3))).setCell ⟨gb135, 4, none⟩ (.int .i64 ((rd_T95 l0_0 x5_2).f4))).setCell ⟨gb135, 5, none⟩ (.int .i64 ((rd_T95 l0_0 x5_2).f5))).setCell ⟨gb135, 6, none⟩ (.int .u32 ((rd_T95 l0_0 x5_2).f6))) = w22 at n0_ n1_ n2_ ⊢
                        have BK133 := n0_
                        have BK135 := n1_
                        have HB := n2_
                        clear n0_ n1_ n2_
                        have n0_ := Aside0.mk (blk_drew BK133.out)
                        have n1_ := Aside0.mk (blk_drew BK135.out)
                        have n2_ := Aside0.mk (below_drew1 HB.out)
                        clear BK133
                        clear BK135
                        clear HB
                        have BK133 := n0_
                        have BK135 := n1_
                        have HB := n2_
                        clear n0_ n1_ n2_
                        refine start_ (n := 22) (S := fun w' => w'.cell? ⟨gb135, 0, none⟩ = some (.int .i64 ((rd_T95 l0_0 x5_2).f0)) ∧ w'.cell? ⟨gb135, 1, none⟩ = some (.slice A134_1 ((rd_T95 l0_0 x5_2).f1).length c134_1) ∧ w'.cell? ⟨gb135, 2, none⟩ = some (.int .i64 ((rd_T95 l0_0 x5_2).f2)) ∧ w'.cell? ⟨gb135, 3, none⟩ = some (.int .u32 ((rd_T95 l0_0 x5_2).f3)) ∧ w'.cell? ⟨gb135, 4, none⟩ = some (.int .i64 ((rd_T95 l0_0 x5_2).f4)) ∧ w'.cell? ⟨gb135, 5, none⟩ = some (.int .i64 ((rd_T95 l0_0 x5_2).f5)) ∧ w'.cell? ⟨gb135, 6, none⟩ = some (.int .u32 ((rd_T95 l0_0 x5_2).f6))) (ds := []) #[false, false, false, false, false, false, false, false, false, false, false, false, false, false, false, false, false, false, false, false, false, false] (by kernel_rfl) rfl rfl ⟨(blk_cell BK135.out 0).trans rfl, (blk_cell BK135.out 1).trans rfl, (blk_cell BK135.out 2).trans rfl, (blk_cell BK135.out 3).trans rfl, (blk_cell BK135.out 4).trans rfl, (blk_cell BK135.out 5).trans rfl, (blk_cell BK135.out 6).trans rfl⟩ (fun hHeld => ?_); refine with_tabW millraceref11_Check.tab8 millraceref11_Check.bits8 (fun HT_ HW_ => ?_)
                        generalize w22.drew = w23 at BK133 BK135 HB hHeld ⊢
                        refine take_ (i := 0) (N := some 28) (v := ?_) (a' := ?_) #[true, false, false, false, false, false, false, false, false, false, false, false, false, false, false, false, false, false, false, false, false, false] rfl rfl (take_ofW HT_.out HW_.out (by kernel_rfl)) (fun _ _ _ h => h) (Or.inl ⟨by rfl, ?_⟩) hHeld ?_ ?_
                        rotate_left
                        · rintro w' ⟨s0, s1, s2, s3, s4, s5, s6⟩
                          go_simp
                          with_reducible rfl
                        rotate_left
                        · simp only [Act.put, List.setIfInBounds_toArray, List.set_cons_zero, List.set_cons_succ, i64_w, i32_w]
                          rfl
                        refine one_ (i := 1) (N := some 29) #[true, true, false, false, false, false, false, false, false, false, false, false, false, false, false, false, false, false, false, false, false, false] rfl rfl (one_of HT_.out (by kernel_rfl)) (by decide) (fun K hK => ?_)
                        refine goes_ Try.func55 (by kernel_rfl) rfl #[.agg #[.int .i64 ((rd_T95 l0_0 x5_2).f0), .slice A134_1 ((rd_T95 l0_0 x5_2).f1).length c134_1, .int .i64 ((rd_T95 l0_0 x5_2).f2), .int .u32 ((rd_T95 l0_0 x5_2).f3), .int .i64 ((rd_T95 l0_0 x5_2).f4), .int .i64 ((rd_T95 l0_0 x5_2).f5), .int .u32 ((rd_T95 l0_0 x5_2).f6)]] (by rfl) rfl rfl (by (try simp only [List.map_toArray, List.map_cons, List.map_nil]); first | done | rfl | (simp only [List.length_drop, List.length_take]; rfl)) ?_
                        with_reducible refine (millraceref11_form.calls k2 ((rd_T95 l0_0 x5_2).f0) _ _ ((rd_T95 l0_0 x5_2).f1) ((rd_T95 l0_0 x5_2).f2) ((rd_T95 l0_0 x5_2).f3) ((rd_T95 l0_0 x5_2).f4) ((rd_T95 l0_0 x5_2).f5) ((rd_T95 l0_0 x5_2).f6) true _ ?side1 ?side2 A15.out).mono ?_
                        (case side1 => repeat (first | exact (Kd.C_below HR134_1.out HB.out) | (with_reducible refine Kd.C_alloc ?_ _) | (with_reducible refine Kd.C_drewN ?_ _) | (with_reducible refine Kd.C_drew ?_)))
                        (case side2 => exact HC134_1.out)
                        rintro e w24 ⟨rfl, hb⟩
                        refine ⟨_, rfl, ?_⟩
                        have n0_ := Aside0.mk (blk_below (g := gb133) (o := .cells #[.slice (some ad134) l0_0.length c0_0] 24 (0, 0)) (by (with_reducible repeat (first | refine blk_drewN ?_ _ | refine blk_drew ?_ | refine blk_alloc ?_ _)); exact BK133.out) hb)
                        have n1_ := Aside0.mk (blk_below (g := gb135) (o := .cells #[.int .i64 ((rd_T95 l0_0 x5_2).f0), .slice A134_1 ((rd_T95 l0_0 x5_2).f1).length c134_1, .int .i64 ((rd_T95 l0_0 x5_2).f2), .int .u32 ((rd_T95 l0_0 x5_2).f3), .int .i64 ((rd_T95 l0_0 x5_2).f4), .int .i64 ((rd_T95 l0_0 x5_2).f5), .int .u32 ((rd_T95 l0_0 x5_2).f6)] 95 (0, 0)) (by (with_reducible repeat (first | refine blk_drewN ?_ _ | refine blk_drew ?_ | refine blk_alloc ?_ _)); exact BK135.out) hb)
                        have n2_ := Aside0.mk (below_step (by repeat (first | (with_reducible first | exact HB.out | apply below_alloc | apply pw_below_drewN | apply below_drew1 | refine below_set ?_ GE133.out | refine below_set ?_ GE135.out) | exact HB.out)) hb)
                        clear BK133
                        clear BK135
                        clear HB
                        have BK133 := n0_
                        have BK135 := n1_
                        have HB := n2_
                        clear n0_ n1_ n2_
                        (try clear hb)
                        (try clear hb2)
                        (try clear hk)
                        (try clear hi)
                        refine hK.out _ _ ⟨(blk_cell BK135.out 0).trans rfl, (blk_cell BK135.out 1).trans rfl, (blk_cell BK135.out 2).trans rfl, (blk_cell BK135.out 3).trans rfl, (blk_cell BK135.out 4).trans rfl, (blk_cell BK135.out 5).trans rfl, (blk_cell BK135.out 6).trans rfl⟩ (fun hHeld => ?_)
                        clear hK K
                        refine norm_ (a' := ?_) ?_ ?_
                        rotate_left
                        · show Act.put _ (some 29) _ = _
                          simp only [Act.put, List.setIfInBounds_toArray, List.set_cons_zero, List.set_cons_succ, i64_w, i32_w]
                          rfl
                        refine pure_ (i := 2) (N := some 30) (v := ?_) (a' := ?_) #[true, true, true, false, false, false, false, false, false, false, false, false, false, false, false, false, false, false, false, false, false, false] rfl rfl (any_of HT_.out (by kernel_rfl)) (fun _ _ _ h => h) (Or.inl ⟨by rfl, ?_⟩) ?_ ?_
                        rotate_left
                        · intro w'
                          go_simp
                          with_reducible rfl
                        rotate_left
                        · simp only [Act.put, List.setIfInBounds_toArray, List.set_cons_zero, List.set_cons_succ, i64_w, i32_w]
                          rfl
                        refine pure_ (i := 3) (N := some 31) (v := ?_) (a' := ?_) #[true, true, true, true, false, false, false, false, false, false, false, false, false, false, false, false, false, false, false, false, false, false] rfl rfl (any_of HT_.out (by kernel_rfl)) (fun _ _ _ h => h) (Or.inl ⟨by rfl, ?_⟩) ?_ ?_
                        rotate_left
                        · intro w'
                          go_simp
                          with_reducible rfl
                        rotate_left
                        · simp only [Act.put, List.setIfInBounds_toArray, List.set_cons_zero, List.set_cons_succ, i64_w, i32_w]
                          rfl
                        refine pure_ (i := 6) (N := some 34) (v := ?_) (a' := ?_) #[true, true, true, true, false, false, true, false, false, false, false, false, false, false, false, false, false, false, false, false, false, false] rfl rfl (any_of HT_.out (by kernel_rfl)) (fun _ _ _ h => h) (Or.inl ⟨by rfl, ?_⟩) ?_ ?_
                        rotate_left
                        · intro w'
                          go_simp
                          with_reducible rfl
                        rotate_left
                        · simp only [Act.put, List.setIfInBounds_toArray, List.set_cons_zero, List.set_cons_succ, i64_w, i32_w]
                          rfl
                        refine take_ (i := 4) (N := some 32) (v := ?_) (a' := ?_) #[true, true, true, true, true, false, true, false, false, false, false, false, false, false, false, false, false, false, false, false, false, false] rfl rfl (take_ofW HT_.out HW_.out (by kernel_rfl)) (fun _ _ _ h => h) (Or.inl ⟨by rfl, ?_⟩) hHeld ?_ ?_
                        rotate_left
                        · rintro w' ⟨s0, s1, s2, s3, s4, s5, s6⟩
                          go_simp
                          with_reducible rfl
                        rotate_left
                        · simp only [Act.put, List.setIfInBounds_toArray, List.set_cons_zero, List.set_cons_succ, i64_w, i32_w]
                          rfl
                        refine pure_ (i := 5) (N := some 33) (v := ?_) (a' := ?_) #[true, true, true, true, true, true, true, false, false, false, false, false, false, false, false, false, false, false, false, false, false, false] rfl rfl (any_of HT_.out (by kernel_rfl)) (fun _ _ _ h => h) (Or.inl ⟨by rfl, ?_⟩) ?_ ?_
                        rotate_left
                        · intro w'
                          go_simp
                          with_reducible rfl
                        rotate_left
                        · simp only [Act.put, List.setIfInBounds_toArray, List.set_cons_zero, List.set_cons_succ, i64_w, i32_w]
                          rfl
                        refine take_ (i := 7) (N := some 35) (v := ?_) (a' := ?_) #[true, true, true, true, true, true, true, true, false, false, false, false, false, false, false, false, false, false, false, false, false, false] rfl rfl (take_ofW HT_.out HW_.out (by kernel_rfl)) (fun _ _ _ h => h) (Or.inl ⟨by rfl, ?_⟩) hHeld ?_ ?_
                        rotate_left
                        · rintro w' ⟨s0, s1, s2, s3, s4, s5, s6⟩
                          go_simp
                          with_reducible rfl
                        rotate_left
                        · simp only [Act.put, List.setIfInBounds_toArray, List.set_cons_zero, List.set_cons_succ, i64_w, i32_w]
                          rfl
                        refine one_ (i := 8) (N := some 36) #[true, true, true, true, true, true, true, true, true, false, false, false, false, false, false, false, false, false, false, false, false, false] rfl rfl (one_of HT_.out (by kernel_rfl)) (by decide) (fun K hK => ?_)
                        refine goes_ Try.func56 (by kernel_rfl) rfl #[.int .i64 ((rd_T95 l0_0 x5_2).f0)] (by rfl) rfl rfl (by (try simp only [List.map_toArray, List.map_cons, List.map_nil]); first | done | rfl | (simp only [List.length_drop, List.length_take]; rfl)) ?_
                        with_reducible refine (millraceref11_want.calls ((rd_T95 l0_0 x5_2).f0) t137 _ A17.out).mono ?_
                        rintro e w' ⟨rfl, ⟨nd, rfl⟩⟩
                        refine ⟨_, rfl, ?_⟩
                        refine hK.out _ _ ⟨(blk_cell BK135.out 0).trans rfl, (blk_cell BK135.out 1).trans rfl, (blk_cell BK135.out 2).trans rfl, (blk_cell BK135.out 3).trans rfl, (blk_cell BK135.out 4).trans rfl, (blk_cell BK135.out 5).trans rfl, (blk_cell BK135.out 6).trans rfl⟩ (fun hHeld => ?_)
                        clear hK K
                        refine norm_ (a' := ?_) ?_ ?_
                        rotate_left
                        · show Act.put _ (some 36) _ = _
                          simp only [Act.put, List.setIfInBounds_toArray, List.set_cons_zero, List.set_cons_succ, i64_w, i32_w]
                          rfl
                        refine pure_ (i := 9) (N := some 37) (v := ?_) (a' := ?_) #[true, true, true, true, true, true, true, true, true, true, false, false, false, false, false, false, false, false, false, false, false, false] rfl rfl (any_of HT_.out (by kernel_rfl)) (fun _ _ _ h => h) (Or.inl ⟨by rfl, ?_⟩) ?_ ?_
                        rotate_left
                        · intro w'
                          go_simp
                          with_reducible rfl
                        rotate_left
                        · simp only [Act.put, List.setIfInBounds_toArray, List.set_cons_zero, List.set_cons_succ, i64_w, i32_w]
                          rfl
                        refine pure_ (i := 10) (N := some 38) (v := ?_) (a' := ?_) #[true, true, true, true, true, true, true, true, true, true, true, false, false, false, false, false, false, false, false, false, false, false] rfl rfl (any_of HT_.out (by kernel_rfl)) (fun _ _ _ h => h) (Or.inl ⟨by rfl, ?_⟩) ?_ ?_
                        rotate_left
                        · intro w'
                          go_simp
                          with_reducible rfl
                        rotate_left
                        · simp only [Act.put, List.setIfInBounds_toArray, List.set_cons_zero, List.set_cons_succ, i64_w, i32_w]
                          rfl
                        refine pure_ (i := 11) (N := some 39) (v := ?_) (a' := ?_) #[true, true, true, true, true, true, true, true, true, true, true, true, false, false, false, false, false, false, false, false, false, false] rfl rfl (any_of HT_.out (by kernel_rfl)) (fun _ _ _ h => h) (Or.inl ⟨by rfl, ?_⟩) ?_ ?_
                        rotate_left
                        · intro w'
                          go_simp
                          with_reducible rfl
                        rotate_left
                        · simp only [Act.put, List.setIfInBounds_toArray, List.set_cons_zero, List.set_cons_succ, i64_w, i32_w]
                          rfl
                        refine pure_ (i := 12) (N := some 40) (v := undef) (a' := ?_) #[true, true, true, true, true, true, true, true, true, true, true, true, true, false, false, false, false, false, false, false, false, false] rfl rfl (any_of HT_.out (by kernel_rfl)) (fun _ _ _ h => h) (Or.inr ⟨by rfl, rfl⟩) ?_ ?_
                        rotate_left
                        · simp only [Act.put, List.setIfInBounds_toArray, List.set_cons_zero, List.set_cons_succ, i64_w, i32_w]
                          rfl
                        refine pure_ (i := 13) (N := some 41) (v := undef) (a' := ?_) #[true, true, true, true, true, true, true, true, true, true, true, true, true, true, false, false, false, false, false, false, false, false] rfl rfl (any_of HT_.out (by kernel_rfl)) (fun _ _ _ h => h) (Or.inr ⟨by rfl, rfl⟩) ?_ ?_
                        rotate_left
                        · simp only [Act.put, List.setIfInBounds_toArray, List.set_cons_zero, List.set_cons_succ, i64_w, i32_w]
                          rfl
                        refine pure_ (i := 14) (N := some 42) (v := undef) (a' := ?_) #[true, true, true, true, true, true, true, true, true, true, true, true, true, true, true, false, false, false, false, false, false, false] rfl rfl (any_of HT_.out (by kernel_rfl)) (fun _ _ _ h => h) (Or.inr ⟨by rfl, rfl⟩) ?_ ?_
                        rotate_left
                        · simp only [Act.put, List.setIfInBounds_toArray, List.set_cons_zero, List.set_cons_succ, i64_w, i32_w]
                          rfl
                        refine pure_ (i := 15) (N := some 43) (v := undef) (a' := ?_) #[true, true, true, true, true, true, true, true, true, true, true, true, true, true, true, true, false, false, false, false, false, false] rfl rfl (any_of HT_.out (by kernel_rfl)) (fun _ _ _ h => h) (Or.inr ⟨by rfl, rfl⟩) ?_ ?_
                        rotate_left
                        · simp only [Act.put, List.setIfInBounds_toArray, List.set_cons_zero, List.set_cons_succ, i64_w, i32_w]
                          rfl
                        refine pure_ (i := 16) (N := some 44) (v := undef) (a' := ?_) #[true, true, true, true, true, true, true, true, true, true, true, true, true, true, true, true, true, false, false, false, false, false] rfl rfl (any_of HT_.out (by kernel_rfl)) (fun _ _ _ h => h) (Or.inr ⟨by rfl, rfl⟩) ?_ ?_
                        rotate_left
                        · simp only [Act.put, List.setIfInBounds_toArray, List.set_cons_zero, List.set_cons_succ, i64_w, i32_w]
                          rfl
                        refine pure_ (i := 17) (N := some 45) (v := undef) (a' := ?_) #[true, true, true, true, true, true, true, true, true, true, true, true, true, true, true, true, true, true, false, false, false, false] rfl rfl (any_of HT_.out (by kernel_rfl)) (fun _ _ _ h => h) (Or.inr ⟨by rfl, rfl⟩) ?_ ?_
                        rotate_left
                        · simp only [Act.put, List.setIfInBounds_toArray, List.set_cons_zero, List.set_cons_succ, i64_w, i32_w]
                          rfl
                        refine pure_ (i := 18) (N := some 46) (v := undef) (a' := ?_) #[true, true, true, true, true, true, true, true, true, true, true, true, true, true, true, true, true, true, true, false, false, false] rfl rfl (any_of HT_.out (by kernel_rfl)) (fun _ _ _ h => h) (Or.inr ⟨by rfl, rfl⟩) ?_ ?_
                        rotate_left
                        · simp only [Act.put, List.setIfInBounds_toArray, List.set_cons_zero, List.set_cons_succ, i64_w, i32_w]
                          rfl
                        refine pure_ (i := 19) (N := some 47) (v := undef) (a' := ?_) #[true, true, true, true, true, true, true, true, true, true, true, true, true, true, true, true, true, true, true, true, false, false] rfl rfl (any_of HT_.out (by kernel_rfl)) (fun _ _ _ h => h) (Or.inr ⟨by rfl, rfl⟩) ?_ ?_
                        rotate_left
                        · simp only [Act.put, List.setIfInBounds_toArray, List.set_cons_zero, List.set_cons_succ, i64_w, i32_w]
                          rfl
                        refine pure_ (i := 20) (N := some 48) (v := ?_) (a' := ?_) #[true, true, true, true, true, true, true, true, true, true, true, true, true, true, true, true, true, true, true, true, true, false] rfl rfl (any_of HT_.out (by kernel_rfl)) (fun _ _ _ h => h) (Or.inl ⟨by rfl, ?_⟩) ?_ ?_
                        rotate_left
                        · intro w'
                          go_simp
                          with_reducible rfl
                        rotate_left
                        · simp only [Act.put, List.setIfInBounds_toArray, List.set_cons_zero, List.set_cons_succ, i64_w, i32_w]
                          rfl
                        refine pure_ (i := 21) (N := some 7) (v := ?_) (a' := ?_) #[true, true, true, true, true, true, true, true, true, true, true, true, true, true, true, true, true, true, true, true, true, true] rfl rfl (any_of HT_.out (by kernel_rfl)) (fun _ _ _ h => h) (Or.inl ⟨by rfl, ?_⟩) ?_ ?_
                        rotate_left
                        · intro w'
                          go_simp
                          with_reducible rfl
                        rotate_left
                        · simp only [Act.put, List.setIfInBounds_toArray, List.set_cons_zero, List.set_cons_succ, i64_w, i32_w]
                          rfl
                        refine done_ (done_of HT_.out (by kernel_rfl)) ?_
                        try go_wp2
                        go_meet
                        case rel => exact ⟨_, (false), (by first | rfl | (simp; done) | (simp [*]; done)), H', ⟨by have := HJ1.out; have := HK2.out; first | omega | exact Nat.le_refl _⟩, ⟨by (with_reducible repeat (first | refine blk_drewN ?_ _ | refine blk_drew ?_ | refine blk_alloc ?_ _)); exact BK133.out⟩, ⟨by (with_reducible repeat (first | refine blk_drewN ?_ _ | refine blk_drew ?_ | refine blk_alloc ?_ _)); exact BK135.out⟩, ⟨by repeat (first | (with_reducible first | exact HB.out | apply below_alloc | apply pw_below_drewN | apply below_drew1 | refine below_set ?_ GE133.out | refine below_set ?_ GE135.out) | exact HB.out)⟩⟩
                    · replace c16 := Bool.eq_false_iff.mpr c16
                      subst c16
                      have H1 : (millraceref11_Check.j2 k2 (l0_0.length : Int) x5_2 false l0_0 ((rd_T95 l0_0 x5_2).f0) ((rd_T95 l0_0 x5_2).f1) ((rd_T95 l0_0 x5_2).f2) ((rd_T95 l0_0 x5_2).f3) ((rd_T95 l0_0 x5_2).f4) ((rd_T95 l0_0 x5_2).f5) ((rd_T95 l0_0 x5_2).f6)) = some (r1, r2) := by rw [if_neg (show ¬ (false = true) by decide)] at H; exact H
                      clear H
                      have H := H1
                      clear H1
                      have H' := Aside0.mk H
                      clear H
                      try go_wp2
                      have n0_ : Aside0 ((((((((w12.setCell ⟨gb135, 0, none⟩ (.int .i64 ((rd_T95 l0_0 x5_2).f0))).setCell ⟨gb135, 1, none⟩ (.slice A134_1 ((rd_T95 l0_0 x5_2).f1).length c134_1)).setCell ⟨gb135, 2, none⟩ (.int .i64 ((rd_T95 l0_0 x5_2).f2))).setCell ⟨gb135, 3, none⟩ (.int .u32 ((rd_T95 l0_0 x5_2).f3))).setCell ⟨gb135, 4, none⟩ (.int .i64 ((rd_T95 l0_0 x5_2).f4))).setCell ⟨gb135, 5, none⟩ (.int .i64 ((rd_T95 l0_0 x5_2).f5))).setCell ⟨gb135, 6, none⟩ (.int .u32 ((rd_T95 l0_0 x5_2).f6))).heap[gb133]? = some (.cells #[.slice (some ad134) l0_0.length c0_0] 24 (0, 0))) := ⟨by (with_reducible repeat (first | refine blk_drewN ?_ _ | refine blk_drew ?_ | refine blk_alloc ?_ _)); refine blk_far ?_ NB133_135.out _; (with_reducible repeat (first | refine blk_drewN ?_ _ | refine blk_drew ?_ | refine blk_alloc ?_ _)); refine blk_far ?_ NB133_135.out _; (with_reducible repeat (first | refine blk_drewN ?_ _ | refine blk_drew ?_ | refine blk_alloc ?_ _)); refine blk_far ?_ NB133_135.out _; (with_reducible repeat (first | refine blk_drewN ?_ _ | refine blk_drew ?_ | refine blk_alloc ?_ _)); refine blk_far ?_ NB133_135.out _; (with_reducible repeat (first | refine blk_drewN ?_ _ | refine blk_drew ?_ | refine blk_alloc ?_ _)); refine blk_far ?_ NB133_135.out _; (with_reducible repeat (first | refine blk_drewN ?_ _ | refine blk_drew ?_ | refine blk_alloc ?_ _)); refine blk_far ?_ NB133_135.out _; (with_reducible repeat (first | refine blk_drewN ?_ _ | refine blk_drew ?_ | refine blk_alloc ?_ _)); refine blk_far ?_ NB133_135.out _; (with_reducible repeat (first | refine blk_drewN ?_ _ | refine blk_drew ?_ | refine blk_alloc ?_ _)); exact BK133.out⟩
                      have n1_ : Aside0 ((((((((w12.setCell ⟨gb135, 0, none⟩ (.int .i64 ((rd_T95 l0_0 x5_2).f0))).setCell ⟨gb135, 1, none⟩ (.slice A134_1 ((rd_T95 l0_0 x5_2).f1).length c134_1)).setCell ⟨gb135, 2, none⟩ (.int .i64 ((rd_T95 l0_0 x5_2).f2))).setCell ⟨gb135, 3, none⟩ (.int .u32 ((rd_T95 l0_0 x5_2).f3))).setCell ⟨gb135, 4, none⟩ (.int .i64 ((rd_T95 l0_0 x5_2).f4))).setCell ⟨gb135, 5, none⟩ (.int .i64 ((rd_T95 l0_0 x5_2).f5))).setCell ⟨gb135, 6, none⟩ (.int .u32 ((rd_T95 l0_0 x5_2).f6))).heap[gb135]? = some (.cells #[.int .i64 ((rd_T95 l0_0 x5_2).f0), .slice A134_1 ((rd_T95 l0_0 x5_2).f1).length c134_1, .int .i64 ((rd_T95 l0_0 x5_2).f2), .int .u32 ((rd_T95 l0_0 x5_2).f3), .int .i64 ((rd_T95 l0_0 x5_2).f4), .int .i64 ((rd_T95 l0_0 x5_2).f5), .int .u32 ((rd_T95 l0_0 x5_2).f6)] 95 (0, 0))) := ⟨by (with_reducible repeat (first | refine blk_drewN ?_ _ | refine blk_drew ?_ | refine blk_alloc ?_ _)); refine blk_put (cs := #[.int .i64 ((rd_T95 l0_0 x5_2).f0), .slice A134_1 ((rd_T95 l0_0 x5_2).f1).length c134_1, .int .i64 ((rd_T95 l0_0 x5_2).f2), .int .u32 ((rd_T95 l0_0 x5_2).f3), .int .i64 ((rd_T95 l0_0 x5_2).f4), .int .i64 ((rd_T95 l0_0 x5_2).f5), .int .u32 0]) ?_ 6 _ rfl; (with_reducible repeat (first | refine blk_drewN ?_ _ | refine blk_drew ?_ | refine blk_alloc ?_ _)); refine blk_put (cs := #[.int .i64 ((rd_T95 l0_0 x5_2).f0), .slice A134_1 ((rd_T95 l0_0 x5_2).f1).length c134_1, .int .i64 ((rd_T95 l0_0 x5_2).f2), .int .u32 ((rd_T95 l0_0 x5_2).f3), .int .i64 ((rd_T95 l0_0 x5_2).f4), .int .i64 0, .int .u32 0]) ?_ 5 _ rfl; (with_reducible repeat (first | refine blk_drewN ?_ _ | refine blk_drew ?_ | refine blk_alloc ?_ _)); refine blk_put (cs := #[.int .i64 ((rd_T95 l0_0 x5_2).f0), .slice A134_1 ((rd_T95 l0_0 x5_2).f1).length c134_1, .int .i64 ((rd_T95 l0_0 x5_2).f2), .int .u32 ((rd_T95 l0_0 x5_2).f3), .int .i64 0, .int .i64 0, .int .u32 0]) ?_ 4 _ rfl; (with_reducible repeat (first | refine blk_drewN ?_ _ | refine blk_drew ?_ | refine blk_alloc ?_ _)); refine blk_put (cs := #[.int .i64 ((rd_T95 l0_0 x5_2).f0), .slice A134_1 ((rd_T95 l0_0 x5_2).f1).length c134_1, .int .i64 ((rd_T95 l0_0 x5_2).f2), .int .u32 0, .int .i64 0, .int .i64 0, .int .u32 0]) ?_ 3 _ rfl; (with_reducible repeat (first | refine blk_drewN ?_ _ | refine blk_drew ?_ | refine blk_alloc ?_ _)); refine blk_put (cs := #[.int .i64 ((rd_T95 l0_0 x5_2).f0), .slice A134_1 ((rd_T95 l0_0 x5_2).f1).length c134_1, .int .i64 0, .int .u32 0, .int .i64 0, .int .i64 0, .int .u32 0]) ?_ 2 _ rfl; (with_reducible repeat (first | refine blk_drewN ?_ _ | refine blk_drew ?_ | refine blk_alloc ?_ _)); refine blk_put (cs := #[.int .i64 ((rd_T95 l0_0 x5_2).f0), .slice none 0 0, .int .i64 0, .int .u32 0, .int .i64 0, .int .i64 0, .int .u32 0]) ?_ 1 _ rfl; (with_reducible repeat (first | refine blk_drewN ?_ _ | refine blk_drew ?_ | refine blk_alloc ?_ _)); refine blk_put (cs := #[.int .i64 0, .slice none 0 0, .int .i64 0, .int .u32 0, .int .i64 0, .int .i64 0, .int .u32 0]) ?_ 0 _ rfl; (with_reducible repeat (first | refine blk_drewN ?_ _ | refine blk_drew ?_ | refine blk_alloc ?_ _)); exact BK135.out⟩
                      have n2_ : Aside0 (Below w.heap.size w (((((((w12.setCell ⟨gb135, 0, none⟩ (.int .i64 ((rd_T95 l0_0 x5_2).f0))).setCell ⟨gb135, 1, none⟩ (.slice A134_1 ((rd_T95 l0_0 x5_2).f1).length c134_1)).setCell ⟨gb135, 2, none⟩ (.int .i64 ((rd_T95 l0_0 x5_2).f2))).setCell ⟨gb135, 3, none⟩ (.int .u32 ((rd_T95 l0_0 x5_2).f3))).setCell ⟨gb135, 4, none⟩ (.int .i64 ((rd_T95 l0_0 x5_2).f4))).setCell ⟨gb135, 5, none⟩ (.int .i64 ((rd_T95 l0_0 x5_2).f5))).setCell ⟨gb135, 6, none⟩ (.int .u32 ((rd_T95 l0_0 x5_2).f6)))) := ⟨by repeat (first | (with_reducible first | exact HB.out | apply below_alloc | apply pw_below_drewN | apply below_drew1 | refine below_set ?_ GE133.out | refine below_set ?_ GE135.out) | exact HB.out)⟩
                      (try clear BK133)
                      (try clear BK135)
                      (try clear HB)
                      generalize (((((((w12.setCell ⟨gb135, 0, none⟩ (.int .i64 ((rd_T95 l0_0 x5_2).f0))).setCell ⟨gb135, 1, none⟩ (.slice A134_1 ((rd_T95 l0_0 x5_2).f1).length c134_1)).setCell ⟨gb135, 2, none⟩ (.int .i64 ((rd_T95 l0_0 x5_2).f2))).setCell ⟨gb135, 3, none⟩ (.int .u32 ((rd_T95 l0_0 x5_2).f3))).setCell ⟨gb135, 4, none⟩ (.int .i64 ((rd_T95 l0_0 x5_2).f4))).setCell ⟨gb135, 5, none⟩ (.int .i64 ((rd_T95 l0_0 x5_2).f5))).setCell ⟨gb135, 6, none⟩ (.int .u32 ((rd_T95 l0_0 x5_2).f6))) = w25 at n0_ n1_ n2_ ⊢
                      have BK133 := n0_
                      have BK135 := n1_
                      have HB := n2_
                      clear n0_ n1_ n2_
                      have n0_ := Aside0.mk (blk_drew BK133.out)
                      have n1_ := Aside0.mk (blk_drew BK135.out)
                      have n2_ := Aside0.mk (below_drew1 HB.out)
                      clear BK133
                      clear BK135
                      clear HB
                      have BK133 := n0_
                      have BK135 := n1_
                      have HB := n2_
                      clear n0_ n1_ n2_
                      refine start_ (n := 22) (S := fun w' => w'.cell? ⟨gb135, 0, none⟩ = some (.int .i64 ((rd_T95 l0_0 x5_2).f0)) ∧ w'.cell? ⟨gb135, 1, none⟩ = some (.slice A134_1 ((rd_T95 l0_0 x5_2).f1).length c134_1) ∧ w'.cell? ⟨gb135, 2, none⟩ = some (.int .i64 ((rd_T95 l0_0 x5_2).f2)) ∧ w'.cell? ⟨gb135, 3, none⟩ = some (.int .u32 ((rd_T95 l0_0 x5_2).f3)) ∧ w'.cell? ⟨gb135, 4, none⟩ = some (.int .i64 ((rd_T95 l0_0 x5_2).f4)) ∧ w'.cell? ⟨gb135, 5, none⟩ = some (.int .i64 ((rd_T95 l0_0 x5_2).f5)) ∧ w'.cell? ⟨gb135, 6, none⟩ = some (.int .u32 ((rd_T95 l0_0 x5_2).f6))) (ds := []) #[false, false, false, false, false, false, false, false, false, false, false, false, false, false, false, false, false, false, false, false, false, false] (by kernel_rfl) rfl rfl ⟨(blk_cell BK135.out 0).trans rfl, (blk_cell BK135.out 1).trans rfl, (blk_cell BK135.out 2).trans rfl, (blk_cell BK135.out 3).trans rfl, (blk_cell BK135.out 4).trans rfl, (blk_cell BK135.out 5).trans rfl, (blk_cell BK135.out 6).trans rfl⟩ (fun hHeld => ?_); refine with_tabW millraceref11_Check.tab8 millraceref11_Check.bits8 (fun HT_ HW_ => ?_)
                      generalize w25.drew = w26 at BK133 BK135 HB hHeld ⊢
                      refine take_ (i := 0) (N := some 28) (v := ?_) (a' := ?_) #[true, false, false, false, false, false, false, false, false, false, false, false, false, false, false, false, false, false, false, false, false, false] rfl rfl (take_ofW HT_.out HW_.out (by kernel_rfl)) (fun _ _ _ h => h) (Or.inl ⟨by rfl, ?_⟩) hHeld ?_ ?_
                      rotate_left
                      · rintro w' ⟨s0, s1, s2, s3, s4, s5, s6⟩
                        go_simp
                        with_reducible rfl
                      rotate_left
                      · simp only [Act.put, List.setIfInBounds_toArray, List.set_cons_zero, List.set_cons_succ, i64_w, i32_w]
                        rfl
                      refine one_ (i := 1) (N := some 29) #[true, true, false, false, false, false, false, false, false, false, false, false, false, false, false, false, false, false, false, false, false, false] rfl rfl (one_of HT_.out (by kernel_rfl)) (by decide) (fun K hK => ?_)
                      refine goes_ Try.func55 (by kernel_rfl) rfl #[.agg #[.int .i64 ((rd_T95 l0_0 x5_2).f0), .slice A134_1 ((rd_T95 l0_0 x5_2).f1).length c134_1, .int .i64 ((rd_T95 l0_0 x5_2).f2), .int .u32 ((rd_T95 l0_0 x5_2).f3), .int .i64 ((rd_T95 l0_0 x5_2).f4), .int .i64 ((rd_T95 l0_0 x5_2).f5), .int .u32 ((rd_T95 l0_0 x5_2).f6)]] (by rfl) rfl rfl (by (try simp only [List.map_toArray, List.map_cons, List.map_nil]); first | done | rfl | (simp only [List.length_drop, List.length_take]; rfl)) ?_
                      with_reducible refine (millraceref11_form.calls k2 ((rd_T95 l0_0 x5_2).f0) _ _ ((rd_T95 l0_0 x5_2).f1) ((rd_T95 l0_0 x5_2).f2) ((rd_T95 l0_0 x5_2).f3) ((rd_T95 l0_0 x5_2).f4) ((rd_T95 l0_0 x5_2).f5) ((rd_T95 l0_0 x5_2).f6) false _ ?side1 ?side2 A15.out).mono ?_
                      (case side1 => repeat (first | exact (Kd.C_below HR134_1.out HB.out) | (with_reducible refine Kd.C_alloc ?_ _) | (with_reducible refine Kd.C_drewN ?_ _) | (with_reducible refine Kd.C_drew ?_)))
                      (case side2 => exact HC134_1.out)
                      rintro e w27 ⟨rfl, hb⟩
                      refine ⟨_, rfl, ?_⟩
                      have n0_ := Aside0.mk (blk_below (g := gb133) (o := .cells #[.slice (some ad134) l0_0.length c0_0] 24 (0, 0)) (by (with_reducible repeat (first | refine blk_drewN ?_ _ | refine blk_drew ?_ | refine blk_alloc ?_ _)); exact BK133.out) hb)
                      have n1_ := Aside0.mk (blk_below (g := gb135) (o := .cells #[.int .i64 ((rd_T95 l0_0 x5_2).f0), .slice A134_1 ((rd_T95 l0_0 x5_2).f1).length c134_1, .int .i64 ((rd_T95 l0_0 x5_2).f2), .int .u32 ((rd_T95 l0_0 x5_2).f3), .int .i64 ((rd_T95 l0_0 x5_2).f4), .int .i64 ((rd_T95 l0_0 x5_2).f5), .int .u32 ((rd_T95 l0_0 x5_2).f6)] 95 (0, 0)) (by (with_reducible repeat (first | refine blk_drewN ?_ _ | refine blk_drew ?_ | refine blk_alloc ?_ _)); exact BK135.out) hb)
                      have n2_ := Aside0.mk (below_step (by repeat (first | (with_reducible first | exact HB.out | apply below_alloc | apply pw_below_drewN | apply below_drew1 | refine below_set ?_ GE133.out | refine below_set ?_ GE135.out) | exact HB.out)) hb)
                      clear BK133
                      clear BK135
                      clear HB
                      have BK133 := n0_
                      have BK135 := n1_
                      have HB := n2_
                      clear n0_ n1_ n2_
                      (try clear hb)
                      (try clear hb2)
                      (try clear hk)
                      (try clear hi)
                      refine hK.out _ _ ⟨(blk_cell BK135.out 0).trans rfl, (blk_cell BK135.out 1).trans rfl, (blk_cell BK135.out 2).trans rfl, (blk_cell BK135.out 3).trans rfl, (blk_cell BK135.out 4).trans rfl, (blk_cell BK135.out 5).trans rfl, (blk_cell BK135.out 6).trans rfl⟩ (fun hHeld => ?_)
                      clear hK K
                      refine norm_ (a' := ?_) ?_ ?_
                      rotate_left
                      · show Act.put _ (some 29) _ = _
                        simp only [Act.put, List.setIfInBounds_toArray, List.set_cons_zero, List.set_cons_succ, i64_w, i32_w]
                        rfl
                      refine pure_ (i := 2) (N := some 30) (v := ?_) (a' := ?_) #[true, true, true, false, false, false, false, false, false, false, false, false, false, false, false, false, false, false, false, false, false, false] rfl rfl (any_of HT_.out (by kernel_rfl)) (fun _ _ _ h => h) (Or.inl ⟨by rfl, ?_⟩) ?_ ?_
                      rotate_left
                      · intro w'
                        go_simp
                        with_reducible rfl
                      rotate_left
                      · simp only [Act.put, List.setIfInBounds_toArray, List.set_cons_zero, List.set_cons_succ, i64_w, i32_w]
                        rfl
                      refine pure_ (i := 3) (N := some 31) (v := undef) (a' := ?_) #[true, true, true, true, false, false, false, false, false, false, false, false, false, false, false, false, false, false, false, false, false, false] rfl rfl (any_of HT_.out (by kernel_rfl)) (fun _ _ _ h => h) (Or.inr ⟨by rfl, rfl⟩) ?_ ?_
                      rotate_left
                      · simp only [Act.put, List.setIfInBounds_toArray, List.set_cons_zero, List.set_cons_succ, i64_w, i32_w]
                        rfl
                      refine pure_ (i := 4) (N := some 32) (v := undef) (a' := ?_) #[true, true, true, true, true, false, false, false, false, false, false, false, false, false, false, false, false, false, false, false, false, false] rfl rfl (any_of HT_.out (by kernel_rfl)) (fun _ _ _ h => h) (Or.inr ⟨by rfl, rfl⟩) ?_ ?_
                      rotate_left
                      · simp only [Act.put, List.setIfInBounds_toArray, List.set_cons_zero, List.set_cons_succ, i64_w, i32_w]
                        rfl
                      refine pure_ (i := 5) (N := some 33) (v := undef) (a' := ?_) #[true, true, true, true, true, true, false, false, false, false, false, false, false, false, false, false, false, false, false, false, false, false] rfl rfl (any_of HT_.out (by kernel_rfl)) (fun _ _ _ h => h) (Or.inr ⟨by rfl, rfl⟩) ?_ ?_
                      rotate_left
                      · simp only [Act.put, List.setIfInBounds_toArray, List.set_cons_zero, List.set_cons_succ, i64_w, i32_w]
                        rfl
                      refine pure_ (i := 6) (N := some 34) (v := undef) (a' := ?_) #[true, true, true, true, true, true, true, false, false, false, false, false, false, false, false, false, false, false, false, false, false, false] rfl rfl (any_of HT_.out (by kernel_rfl)) (fun _ _ _ h => h) (Or.inr ⟨by rfl, rfl⟩) ?_ ?_
                      rotate_left
                      · simp only [Act.put, List.setIfInBounds_toArray, List.set_cons_zero, List.set_cons_succ, i64_w, i32_w]
                        rfl
                      refine pure_ (i := 7) (N := some 35) (v := undef) (a' := ?_) #[true, true, true, true, true, true, true, true, false, false, false, false, false, false, false, false, false, false, false, false, false, false] rfl rfl (any_of HT_.out (by kernel_rfl)) (fun _ _ _ h => h) (Or.inr ⟨by rfl, rfl⟩) ?_ ?_
                      rotate_left
                      · simp only [Act.put, List.setIfInBounds_toArray, List.set_cons_zero, List.set_cons_succ, i64_w, i32_w]
                        rfl
                      refine pure_ (i := 8) (N := some 36) (v := undef) (a' := ?_) #[true, true, true, true, true, true, true, true, true, false, false, false, false, false, false, false, false, false, false, false, false, false] rfl rfl (any_of HT_.out (by kernel_rfl)) (fun _ _ _ h => h) (Or.inr ⟨by rfl, rfl⟩) ?_ ?_
                      rotate_left
                      · simp only [Act.put, List.setIfInBounds_toArray, List.set_cons_zero, List.set_cons_succ, i64_w, i32_w]
                        rfl
                      refine pure_ (i := 9) (N := some 37) (v := undef) (a' := ?_) #[true, true, true, true, true, true, true, true, true, true, false, false, false, false, false, false, false, false, false, false, false, false] rfl rfl (any_of HT_.out (by kernel_rfl)) (fun _ _ _ h => h) (Or.inr ⟨by rfl, rfl⟩) ?_ ?_
                      rotate_left
                      · simp only [Act.put, List.setIfInBounds_toArray, List.set_cons_zero, List.set_cons_succ, i64_w, i32_w]
                        rfl
                      refine pure_ (i := 10) (N := some 38) (v := ?_) (a' := ?_) #[true, true, true, true, true, true, true, true, true, true, true, false, false, false, false, false, false, false, false, false, false, false] rfl rfl (any_of HT_.out (by kernel_rfl)) (fun _ _ _ h => h) (Or.inl ⟨by rfl, ?_⟩) ?_ ?_
                      rotate_left
                      · intro w'
                        go_simp
                        with_reducible rfl
                      rotate_left
                      · simp only [Act.put, List.setIfInBounds_toArray, List.set_cons_zero, List.set_cons_succ, i64_w, i32_w]
                        rfl
                      refine pure_ (i := 11) (N := some 39) (v := ?_) (a' := ?_) #[true, true, true, true, true, true, true, true, true, true, true, true, false, false, false, false, false, false, false, false, false, false] rfl rfl (any_of HT_.out (by kernel_rfl)) (fun _ _ _ h => h) (Or.inl ⟨by rfl, ?_⟩) ?_ ?_
                      rotate_left
                      · intro w'
                        go_simp
                        with_reducible rfl
                      rotate_left
                      · simp only [Act.put, List.setIfInBounds_toArray, List.set_cons_zero, List.set_cons_succ, i64_w, i32_w]
                        rfl
                      refine pure_ (i := 12) (N := some 40) (v := undef) (a' := ?_) #[true, true, true, true, true, true, true, true, true, true, true, true, true, false, false, false, false, false, false, false, false, false] rfl rfl (any_of HT_.out (by kernel_rfl)) (fun _ _ _ h => h) (Or.inr ⟨by rfl, rfl⟩) ?_ ?_
                      rotate_left
                      · simp only [Act.put, List.setIfInBounds_toArray, List.set_cons_zero, List.set_cons_succ, i64_w, i32_w]
                        rfl
                      refine pure_ (i := 13) (N := some 41) (v := undef) (a' := ?_) #[true, true, true, true, true, true, true, true, true, true, true, true, true, true, false, false, false, false, false, false, false, false] rfl rfl (any_of HT_.out (by kernel_rfl)) (fun _ _ _ h => h) (Or.inr ⟨by rfl, rfl⟩) ?_ ?_
                      rotate_left
                      · simp only [Act.put, List.setIfInBounds_toArray, List.set_cons_zero, List.set_cons_succ, i64_w, i32_w]
                        rfl
                      refine pure_ (i := 14) (N := some 42) (v := undef) (a' := ?_) #[true, true, true, true, true, true, true, true, true, true, true, true, true, true, true, false, false, false, false, false, false, false] rfl rfl (any_of HT_.out (by kernel_rfl)) (fun _ _ _ h => h) (Or.inr ⟨by rfl, rfl⟩) ?_ ?_
                      rotate_left
                      · simp only [Act.put, List.setIfInBounds_toArray, List.set_cons_zero, List.set_cons_succ, i64_w, i32_w]
                        rfl
                      refine pure_ (i := 15) (N := some 43) (v := undef) (a' := ?_) #[true, true, true, true, true, true, true, true, true, true, true, true, true, true, true, true, false, false, false, false, false, false] rfl rfl (any_of HT_.out (by kernel_rfl)) (fun _ _ _ h => h) (Or.inr ⟨by rfl, rfl⟩) ?_ ?_
                      rotate_left
                      · simp only [Act.put, List.setIfInBounds_toArray, List.set_cons_zero, List.set_cons_succ, i64_w, i32_w]
                        rfl
                      refine pure_ (i := 16) (N := some 44) (v := undef) (a' := ?_) #[true, true, true, true, true, true, true, true, true, true, true, true, true, true, true, true, true, false, false, false, false, false] rfl rfl (any_of HT_.out (by kernel_rfl)) (fun _ _ _ h => h) (Or.inr ⟨by rfl, rfl⟩) ?_ ?_
                      rotate_left
                      · simp only [Act.put, List.setIfInBounds_toArray, List.set_cons_zero, List.set_cons_succ, i64_w, i32_w]
                        rfl
                      refine pure_ (i := 17) (N := some 45) (v := undef) (a' := ?_) #[true, true, true, true, true, true, true, true, true, true, true, true, true, true, true, true, true, true, false, false, false, false] rfl rfl (any_of HT_.out (by kernel_rfl)) (fun _ _ _ h => h) (Or.inr ⟨by rfl, rfl⟩) ?_ ?_
                      rotate_left
                      · simp only [Act.put, List.setIfInBounds_toArray, List.set_cons_zero, List.set_cons_succ, i64_w, i32_w]
                        rfl
                      refine pure_ (i := 18) (N := some 46) (v := undef) (a' := ?_) #[true, true, true, true, true, true, true, true, true, true, true, true, true, true, true, true, true, true, true, false, false, false] rfl rfl (any_of HT_.out (by kernel_rfl)) (fun _ _ _ h => h) (Or.inr ⟨by rfl, rfl⟩) ?_ ?_
                      rotate_left
                      · simp only [Act.put, List.setIfInBounds_toArray, List.set_cons_zero, List.set_cons_succ, i64_w, i32_w]
                        rfl
                      refine pure_ (i := 19) (N := some 47) (v := undef) (a' := ?_) #[true, true, true, true, true, true, true, true, true, true, true, true, true, true, true, true, true, true, true, true, false, false] rfl rfl (any_of HT_.out (by kernel_rfl)) (fun _ _ _ h => h) (Or.inr ⟨by rfl, rfl⟩) ?_ ?_
                      rotate_left
                      · simp only [Act.put, List.setIfInBounds_toArray, List.set_cons_zero, List.set_cons_succ, i64_w, i32_w]
                        rfl
                      refine pure_ (i := 20) (N := some 48) (v := ?_) (a' := ?_) #[true, true, true, true, true, true, true, true, true, true, true, true, true, true, true, true, true, true, true, true, true, false] rfl rfl (any_of HT_.out (by kernel_rfl)) (fun _ _ _ h => h) (Or.inl ⟨by rfl, ?_⟩) ?_ ?_
                      rotate_left
                      · intro w'
                        go_simp
                        with_reducible rfl
                      rotate_left
                      · simp only [Act.put, List.setIfInBounds_toArray, List.set_cons_zero, List.set_cons_succ, i64_w, i32_w]
                        rfl
                      refine pure_ (i := 21) (N := some 7) (v := ?_) (a' := ?_) #[true, true, true, true, true, true, true, true, true, true, true, true, true, true, true, true, true, true, true, true, true, true] rfl rfl (any_of HT_.out (by kernel_rfl)) (fun _ _ _ h => h) (Or.inl ⟨by rfl, ?_⟩) ?_ ?_
                      rotate_left
                      · intro w'
                        go_simp
                        with_reducible rfl
                      rotate_left
                      · simp only [Act.put, List.setIfInBounds_toArray, List.set_cons_zero, List.set_cons_succ, i64_w, i32_w]
                        rfl
                      refine done_ (done_of HT_.out (by kernel_rfl)) ?_
                      try go_wp2
                      go_meet
                      case rel => exact ⟨_, (false), (by first | rfl | (simp; done) | (simp [*]; done)), H', ⟨by have := HJ1.out; have := HK2.out; first | omega | exact Nat.le_refl _⟩, ⟨by (with_reducible repeat (first | refine blk_drewN ?_ _ | refine blk_drew ?_ | refine blk_alloc ?_ _)); exact BK133.out⟩, ⟨by (with_reducible repeat (first | refine blk_drewN ?_ _ | refine blk_drew ?_ | refine blk_alloc ?_ _)); exact BK135.out⟩, ⟨by repeat (first | (with_reducible first | exact HB.out | apply below_alloc | apply pw_below_drewN | apply below_drew1 | refine below_set ?_ GE133.out | refine below_set ?_ GE135.out) | exact HB.out)⟩⟩
                  case rest =>
                    clear HC10
                    try clear c1
                    try clear p2
                    try clear c5
                    try clear p6
                    try clear c13
                    try clear c16
                    try clear c18
                    try clear c18b0
                    try clear c18b1
                    obtain ⟨kq, x7_9, rfl, HA, HJ9, BK133, BK135, HB⟩ := hcut
                    cases kq with
                    | zero => exact absurd HA.out (by simp [millraceref11_Check.j2])
                    | succ kj9 =>
                      have H := HA.out
                      clear HA
                      simp only [millraceref11_Check.j2] at H
                      have H' := Aside0.mk H
                      clear H
                      go_wp2
                      go_loopg [7, 8] kj9 (fun kq v7 v8 w' => ∃ (x7_4 : Bool) (x8_4 : Int), v7 = .bool x7_4 ∧ v8 = .int .i64 x8_4 ∧ Aside0 (millraceref11_Check.l1 kq (l0_0.length : Int) x5_2 x7_4 x8_4 l0_0 ((rd_T95 l0_0 x5_2).f0) ((rd_T95 l0_0 x5_2).f1) ((rd_T95 l0_0 x5_2).f2) ((rd_T95 l0_0 x5_2).f3) ((rd_T95 l0_0 x5_2).f4) ((rd_T95 l0_0 x5_2).f5) ((rd_T95 l0_0 x5_2).f6) = some (r1, r2)) ∧ Aside0 (kq ≤ kj9) ∧ Aside0 (w'.heap[gb133]? = some (.cells #[(.slice (some ad134) l0_0.length c0_0)] 24 (0, 0))) ∧ Aside0 (w'.heap[gb135]? = some (.cells #[.int .i64 ((rd_T95 l0_0 x5_2).f0), (.slice A134_1 ((rd_T95 l0_0 x5_2).f1).length c134_1), .int .i64 ((rd_T95 l0_0 x5_2).f2), .int .u32 ((rd_T95 l0_0 x5_2).f3), .int .i64 ((rd_T95 l0_0 x5_2).f4), .int .i64 ((rd_T95 l0_0 x5_2).f5), .int .u32 ((rd_T95 l0_0 x5_2).f6)] 95 (0, 0))) ∧ Aside0 (Below w.heap.size w w'))
                      case atStart => exact ⟨(x7_9), (0), (by first | rfl | (simp; done) | (simp [*]; done)), (by first | rfl | (simp; done) | (simp [*]; done)), H', ⟨Nat.le_refl _⟩, ⟨by (with_reducible repeat (first | refine blk_drewN ?_ _ | refine blk_drew ?_ | refine blk_alloc ?_ _)); exact BK133.out⟩, ⟨by (with_reducible repeat (first | refine blk_drewN ?_ _ | refine blk_drew ?_ | refine blk_alloc ?_ _)); exact BK135.out⟩, ⟨by repeat (first | (with_reducible first | exact HB.out | apply below_alloc | apply pw_below_drewN | apply below_drew1 | refine below_set ?_ GE133.out | refine below_set ?_ GE135.out) | exact HB.out)⟩⟩
                      case round =>
                        clear H'
                        try clear c1
                        try clear p2
                        try clear c5
                        try clear p6
                        try clear c13
                        try clear c16
                        try clear c18
                        try clear c18b0
                        try clear c18b1
                        try clear p2
                        try clear p6
                        obtain ⟨x7_4, x8_4, rfl, rfl, HA, HK4, BK133, BK135, HB⟩ := hrel
                        cases gk with
                        | zero => exact absurd HA.out (by simp [millraceref11_Check.l1])
                        | succ k4 =>
                          have H := HA.out
                          clear HA
                          simp only [millraceref11_Check.l1] at H
                          by_cases c28 : x8_4 < (((rd_T95 l0_0 x5_2).f1).length : Int)
                          · rw [if_pos c28] at H
                            have c28b0 : decide (x8_4 < (((rd_T95 l0_0 x5_2).f1).length : Int)) = true := decide_eq_true c28
                            clear c28
                            by_cases c29 : x7_4 = true
                            · subst c29
                              have H1 : (if 0 ≤ x8_4 then (if (rd ((rd_T95 l0_0 x5_2).f1) x8_4) ≥ 0 then (millraceref11_Check.l1 k4 (l0_0.length : Int) x5_2 (decide ((rd ((rd_T95 l0_0 x5_2).f1) x8_4) < x5_2)) (wrap64 (x8_4 + 1)) l0_0 ((rd_T95 l0_0 x5_2).f0) ((rd_T95 l0_0 x5_2).f1) ((rd_T95 l0_0 x5_2).f2) ((rd_T95 l0_0 x5_2).f3) ((rd_T95 l0_0 x5_2).f4) ((rd_T95 l0_0 x5_2).f5) ((rd_T95 l0_0 x5_2).f6)) else (millraceref11_Check.l1 k4 (l0_0.length : Int) x5_2 false (wrap64 (x8_4 + 1)) l0_0 ((rd_T95 l0_0 x5_2).f0) ((rd_T95 l0_0 x5_2).f1) ((rd_T95 l0_0 x5_2).f2) ((rd_T95 l0_0 x5_2).f3) ((rd_T95 l0_0 x5_2).f4) ((rd_T95 l0_0 x5_2).f5) ((rd_T95 l0_0 x5_2).f6))) else (none)) = some (r1, r2) := by rw [if_pos rfl] at H; exact H
                              clear H
                              have H := H1
                              clear H1
                              by_cases c30 : 0 ≤ x8_4
                              · rw [if_pos c30] at H
                                have c30b0 : decide (0 ≤ x8_4) = true := decide_eq_true c30
                                clear c30
                                by_cases c31 : (rd ((rd_T95 l0_0 x5_2).f1) x8_4) ≥ 0
                                · rw [if_pos c31] at H
                                  have c31b0 : decide (0 ≤ (rd ((rd_T95 l0_0 x5_2).f1) x8_4)) = true := decide_eq_true c31
                                  clear c31
                                  have H' := Aside0.mk H
                                  clear H
                                  have hnb32 := NB135_133.out
                                  have hnc32 := NB133_135.out
                                  have hcz33_0 : wr.cell? ⟨gb135, 0, none⟩ = some (.int .i64 ((rd_T95 l0_0 x5_2).f0)) := (blk_cell BK135.out 0).trans rfl
                                  have hcz33_1 : wr.cell? ⟨gb135, 1, none⟩ = some (.slice A134_1 ((rd_T95 l0_0 x5_2).f1).length c134_1) := (blk_cell BK135.out 1).trans rfl
                                  have hcz33_2 : wr.cell? ⟨gb135, 2, none⟩ = some (.int .i64 ((rd_T95 l0_0 x5_2).f2)) := (blk_cell BK135.out 2).trans rfl
                                  have hcz33_3 : wr.cell? ⟨gb135, 3, none⟩ = some (.int .u32 ((rd_T95 l0_0 x5_2).f3)) := (blk_cell BK135.out 3).trans rfl
                                  have hcz33_4 : wr.cell? ⟨gb135, 4, none⟩ = some (.int .i64 ((rd_T95 l0_0 x5_2).f4)) := (blk_cell BK135.out 4).trans rfl
                                  have hcz33_5 : wr.cell? ⟨gb135, 5, none⟩ = some (.int .i64 ((rd_T95 l0_0 x5_2).f5)) := (blk_cell BK135.out 5).trans rfl
                                  have hcz33_6 : wr.cell? ⟨gb135, 6, none⟩ = some (.int .u32 ((rd_T95 l0_0 x5_2).f6)) := (blk_cell BK135.out 6).trans rfl
                                  have hfz33_0 := blk_frozen BK135.out 0
                                  have hfz33_1 := blk_frozen BK135.out 1
                                  have hfz33_2 := blk_frozen BK135.out 2
                                  have hfz33_3 := blk_frozen BK135.out 3
                                  have hfz33_4 := blk_frozen BK135.out 4
                                  have hfz33_5 := blk_frozen BK135.out 5
                                  have hfz33_6 := blk_frozen BK135.out 6
                                  have p138 : 0 ≤ (x8_4 : Int) := of_decide_eq_true (by first | (with_reducible assumption) | assumption)
                                  have q138 : x8_4 < (((rd_T95 l0_0 x5_2).f1).length : Int) := of_decide_eq_true (by first | (with_reducible assumption) | assumption)
                                  obtain ⟨ad138, e138, hx138_0⟩ := Kd.at_int HR134_1.out x8_4 p138 q138
                                  cases e138
                                  replace hx138_0 := (HB.out.cell (World.block_lt_of_cell? w _ hx138_0)).trans hx138_0
                                  replace p138 := eq_true p138
                                  replace q138 := eq_true q138
                                  have p139 : 0 ≤ (x8_4 : Int) := of_decide_eq_true (by first | (with_reducible assumption) | assumption)
                                  have q139 : x8_4 < (((rd_T95 l0_0 x5_2).f1).length : Int) := of_decide_eq_true (by first | (with_reducible assumption) | assumption)
                                  obtain ⟨ad139, e139, hx139_0⟩ := Kd.at_int HR134_1.out x8_4 p139 q139
                                  obtain rfl : ad138 = ad139 := (by injection e139)
                                  replace hx139_0 := (HB.out.cell (World.block_lt_of_cell? w _ hx139_0)).trans hx139_0
                                  replace p139 := eq_true p139
                                  replace q139 := eq_true q139
                                  go_wp2
                                  go_roundg k4
                                  case measure => have := HJ1.out; have := HK2.out; have := HJ9.out; have := HK4.out; omega
                                  case rel => exact ⟨(decide ((rd ((rd_T95 l0_0 x5_2).f1) x8_4) < x5_2)), (wrap64 (x8_4 + 1)), (by first | rfl | (simp; done) | (simp [*]; done)), (by first | rfl | (simp; done) | (simp [*]; done)), H', ⟨by have := HJ1.out; have := HK2.out; have := HJ9.out; have := HK4.out; omega⟩, ⟨by (with_reducible repeat (first | refine blk_drewN ?_ _ | refine blk_drew ?_ | refine blk_alloc ?_ _)); exact BK133.out⟩, ⟨by (with_reducible repeat (first | refine blk_drewN ?_ _ | refine blk_drew ?_ | refine blk_alloc ?_ _)); exact BK135.out⟩, ⟨by repeat (first | (with_reducible first | exact HB.out | apply below_alloc | apply pw_below_drewN | apply below_drew1 | refine below_set ?_ GE133.out | refine below_set ?_ GE135.out) | exact HB.out)⟩⟩
                                · rw [if_neg c31] at H
                                  have c31b0 : decide (0 ≤ (rd ((rd_T95 l0_0 x5_2).f1) x8_4)) = false := decide_eq_false c31
                                  clear c31
                                  have H' := Aside0.mk H
                                  clear H
                                  have hnb34 := NB135_133.out
                                  have hnc34 := NB133_135.out
                                  have hcz35_0 : wr.cell? ⟨gb135, 0, none⟩ = some (.int .i64 ((rd_T95 l0_0 x5_2).f0)) := (blk_cell BK135.out 0).trans rfl
                                  have hcz35_1 : wr.cell? ⟨gb135, 1, none⟩ = some (.slice A134_1 ((rd_T95 l0_0 x5_2).f1).length c134_1) := (blk_cell BK135.out 1).trans rfl
                                  have hcz35_2 : wr.cell? ⟨gb135, 2, none⟩ = some (.int .i64 ((rd_T95 l0_0 x5_2).f2)) := (blk_cell BK135.out 2).trans rfl
                                  have hcz35_3 : wr.cell? ⟨gb135, 3, none⟩ = some (.int .u32 ((rd_T95 l0_0 x5_2).f3)) := (blk_cell BK135.out 3).trans rfl
                                  have hcz35_4 : wr.cell? ⟨gb135, 4, none⟩ = some (.int .i64 ((rd_T95 l0_0 x5_2).f4)) := (blk_cell BK135.out 4).trans rfl
                                  have hcz35_5 : wr.cell? ⟨gb135, 5, none⟩ = some (.int .i64 ((rd_T95 l0_0 x5_2).f5)) := (blk_cell BK135.out 5).trans rfl
                                  have hcz35_6 : wr.cell? ⟨gb135, 6, none⟩ = some (.int .u32 ((rd_T95 l0_0 x5_2).f6)) := (blk_cell BK135.out 6).trans rfl
                                  have hfz35_0 := blk_frozen BK135.out 0
                                  have hfz35_1 := blk_frozen BK135.out 1
                                  have hfz35_2 := blk_frozen BK135.out 2
                                  have hfz35_3 := blk_frozen BK135.out 3
                                  have hfz35_4 := blk_frozen BK135.out 4
                                  have hfz35_5 := blk_frozen BK135.out 5
                                  have hfz35_6 := blk_frozen BK135.out 6
                                  have p138 : 0 ≤ (x8_4 : Int) := of_decide_eq_true (by first | (with_reducible assumption) | assumption)
                                  have q138 : x8_4 < (((rd_T95 l0_0 x5_2).f1).length : Int) := of_decide_eq_true (by first | (with_reducible assumption) | assumption)
                                  obtain ⟨ad138, e138, hx138_0⟩ := Kd.at_int HR134_1.out x8_4 p138 q138
                                  cases e138
                                  replace hx138_0 := (HB.out.cell (World.block_lt_of_cell? w _ hx138_0)).trans hx138_0
                                  replace p138 := eq_true p138
                                  replace q138 := eq_true q138
                                  go_wp2
                                  go_roundg k4
                                  case measure => have := HJ1.out; have := HK2.out; have := HJ9.out; have := HK4.out; omega
                                  case rel => exact ⟨(false), (wrap64 (x8_4 + 1)), (by first | rfl | (simp; done) | (simp [*]; done)), (by first | rfl | (simp; done) | (simp [*]; done)), H', ⟨by have := HJ1.out; have := HK2.out; have := HJ9.out; have := HK4.out; omega⟩, ⟨by (with_reducible repeat (first | refine blk_drewN ?_ _ | refine blk_drew ?_ | refine blk_alloc ?_ _)); exact BK133.out⟩, ⟨by (with_reducible repeat (first | refine blk_drewN ?_ _ | refine blk_drew ?_ | refine blk_alloc ?_ _)); exact BK135.out⟩, ⟨by repeat (first | (with_reducible first | exact HB.out | apply below_alloc | apply pw_below_drewN | apply below_drew1 | refine below_set ?_ GE133.out | refine below_set ?_ GE135.out) | exact HB.out)⟩⟩
                              · rw [if_neg c30] at H
                                exact absurd H (by simp)
                            · replace c29 := Bool.eq_false_iff.mpr c29
                              subst c29
                              have H1 : (millraceref11_Check.l1 k4 (l0_0.length : Int) x5_2 false (wrap64 (x8_4 + 1)) l0_0 ((rd_T95 l0_0 x5_2).f0) ((rd_T95 l0_0 x5_2).f1) ((rd_T95 l0_0 x5_2).f2) ((rd_T95 l0_0 x5_2).f3) ((rd_T95 l0_0 x5_2).f4) ((rd_T95 l0_0 x5_2).f5) ((rd_T95 l0_0 x5_2).f6)) = some (r1, r2) := by rw [if_neg (show ¬ (false = true) by decide)] at H; exact H
                              clear H
                              have H := H1
                              clear H1
                              have H' := Aside0.mk H
                              clear H
                              have hnb36 := NB135_133.out
                              have hnc36 := NB133_135.out
                              have hcz37_0 : wr.cell? ⟨gb135, 0, none⟩ = some (.int .i64 ((rd_T95 l0_0 x5_2).f0)) := (blk_cell BK135.out 0).trans rfl
                              have hcz37_1 : wr.cell? ⟨gb135, 1, none⟩ = some (.slice A134_1 ((rd_T95 l0_0 x5_2).f1).length c134_1) := (blk_cell BK135.out 1).trans rfl
                              have hcz37_2 : wr.cell? ⟨gb135, 2, none⟩ = some (.int .i64 ((rd_T95 l0_0 x5_2).f2)) := (blk_cell BK135.out 2).trans rfl
                              have hcz37_3 : wr.cell? ⟨gb135, 3, none⟩ = some (.int .u32 ((rd_T95 l0_0 x5_2).f3)) := (blk_cell BK135.out 3).trans rfl
                              have hcz37_4 : wr.cell? ⟨gb135, 4, none⟩ = some (.int .i64 ((rd_T95 l0_0 x5_2).f4)) := (blk_cell BK135.out 4).trans rfl
                              have hcz37_5 : wr.cell? ⟨gb135, 5, none⟩ = some (.int .i64 ((rd_T95 l0_0 x5_2).f5)) := (blk_cell BK135.out 5).trans rfl
                              have hcz37_6 : wr.cell? ⟨gb135, 6, none⟩ = some (.int .u32 ((rd_T95 l0_0 x5_2).f6)) := (blk_cell BK135.out 6).trans rfl
                              have hfz37_0 := blk_frozen BK135.out 0
                              have hfz37_1 := blk_frozen BK135.out 1
                              have hfz37_2 := blk_frozen BK135.out 2
                              have hfz37_3 := blk_frozen BK135.out 3
                              have hfz37_4 := blk_frozen BK135.out 4
                              have hfz37_5 := blk_frozen BK135.out 5
                              have hfz37_6 := blk_frozen BK135.out 6
                              go_wp2
                              go_roundg k4
                              case measure => have := HJ1.out; have := HK2.out; have := HJ9.out; have := HK4.out; omega
                              case rel => exact ⟨(false), (wrap64 (x8_4 + 1)), (by first | rfl | (simp; done) | (simp [*]; done)), (by first | rfl | (simp; done) | (simp [*]; done)), H', ⟨by have := HJ1.out; have := HK2.out; have := HJ9.out; have := HK4.out; omega⟩, ⟨by (with_reducible repeat (first | refine blk_drewN ?_ _ | refine blk_drew ?_ | refine blk_alloc ?_ _)); exact BK133.out⟩, ⟨by (with_reducible repeat (first | refine blk_drewN ?_ _ | refine blk_drew ?_ | refine blk_alloc ?_ _)); exact BK135.out⟩, ⟨by repeat (first | (with_reducible first | exact HB.out | apply below_alloc | apply pw_below_drewN | apply below_drew1 | refine below_set ?_ GE133.out | refine below_set ?_ GE135.out) | exact HB.out)⟩⟩
                          · rw [if_neg c28] at H
                            have c28b0 : decide (x8_4 < (((rd_T95 l0_0 x5_2).f1).length : Int)) = false := decide_eq_false c28
                            clear c28
                            by_cases c38 : x7_4 = true
                            · subst c38
                              have H1 : (millraceref11_Check.l0 k4 (l0_0.length : Int) (wrap64 (x5_2 + 1)) l0_0) = some (r1, r2) := by rw [if_pos rfl] at H; exact H
                              clear H
                              have H := H1
                              clear H1
                              have H' := Aside0.mk H
                              clear H
                              have hnb39 := NB135_133.out
                              have hnc39 := NB133_135.out
                              have hcz40_0 : wr.cell? ⟨gb135, 0, none⟩ = some (.int .i64 ((rd_T95 l0_0 x5_2).f0)) := (blk_cell BK135.out 0).trans rfl
                              have hcz40_1 : wr.cell? ⟨gb135, 1, none⟩ = some (.slice A134_1 ((rd_T95 l0_0 x5_2).f1).length c134_1) := (blk_cell BK135.out 1).trans rfl
                              have hcz40_2 : wr.cell? ⟨gb135, 2, none⟩ = some (.int .i64 ((rd_T95 l0_0 x5_2).f2)) := (blk_cell BK135.out 2).trans rfl
                              have hcz40_3 : wr.cell? ⟨gb135, 3, none⟩ = some (.int .u32 ((rd_T95 l0_0 x5_2).f3)) := (blk_cell BK135.out 3).trans rfl
                              have hcz40_4 : wr.cell? ⟨gb135, 4, none⟩ = some (.int .i64 ((rd_T95 l0_0 x5_2).f4)) := (blk_cell BK135.out 4).trans rfl
                              have hcz40_5 : wr.cell? ⟨gb135, 5, none⟩ = some (.int .i64 ((rd_T95 l0_0 x5_2).f5)) := (blk_cell BK135.out 5).trans rfl
                              have hcz40_6 : wr.cell? ⟨gb135, 6, none⟩ = some (.int .u32 ((rd_T95 l0_0 x5_2).f6)) := (blk_cell BK135.out 6).trans rfl
                              have hfz40_0 := blk_frozen BK135.out 0
                              have hfz40_1 := blk_frozen BK135.out 1
                              have hfz40_2 := blk_frozen BK135.out 2
                              have hfz40_3 := blk_frozen BK135.out 3
                              have hfz40_4 := blk_frozen BK135.out 4
                              have hfz40_5 := blk_frozen BK135.out 5
                              have hfz40_6 := blk_frozen BK135.out 6
                              go_wp2
                              go_roundg k4
                              case measure => have := HJ1.out; have := HK2.out; have := HJ9.out; have := HK4.out; omega
                              case rel => exact ⟨(wrap64 (x5_2 + 1)), (by first | rfl | (simp; done) | (simp [*]; done)), H', ⟨by have := HJ1.out; have := HK2.out; have := HJ9.out; have := HK4.out; omega⟩, ⟨by (with_reducible repeat (first | refine blk_drewN ?_ _ | refine blk_drew ?_ | refine blk_alloc ?_ _)); exact BK133.out⟩, ⟨by repeat (first | (with_reducible first | exact HB.out | apply below_alloc | apply pw_below_drewN | apply below_drew1 | refine below_set ?_ GE133.out | refine below_set ?_ GE135.out) | exact HB.out)⟩⟩
                            · replace c38 := Bool.eq_false_iff.mpr c38
                              subst c38
                              have H1 : (some (x5_2, 13)) = some (r1, r2) := by rw [if_neg (show ¬ (false = true) by decide)] at H; exact H
                              clear H
                              have H := H1
                              clear H1
                              simp only [Option.some.injEq, Prod.mk.injEq] at H
                              obtain ⟨rfl, rfl⟩ := H
                              have hnb41 := NB135_133.out
                              have hnc41 := NB133_135.out
                              have hcz42_0 : wr.cell? ⟨gb135, 0, none⟩ = some (.int .i64 ((rd_T95 l0_0 x5_2).f0)) := (blk_cell BK135.out 0).trans rfl
                              have hcz42_1 : wr.cell? ⟨gb135, 1, none⟩ = some (.slice A134_1 ((rd_T95 l0_0 x5_2).f1).length c134_1) := (blk_cell BK135.out 1).trans rfl
                              have hcz42_2 : wr.cell? ⟨gb135, 2, none⟩ = some (.int .i64 ((rd_T95 l0_0 x5_2).f2)) := (blk_cell BK135.out 2).trans rfl
                              have hcz42_3 : wr.cell? ⟨gb135, 3, none⟩ = some (.int .u32 ((rd_T95 l0_0 x5_2).f3)) := (blk_cell BK135.out 3).trans rfl
                              have hcz42_4 : wr.cell? ⟨gb135, 4, none⟩ = some (.int .i64 ((rd_T95 l0_0 x5_2).f4)) := (blk_cell BK135.out 4).trans rfl
                              have hcz42_5 : wr.cell? ⟨gb135, 5, none⟩ = some (.int .i64 ((rd_T95 l0_0 x5_2).f5)) := (blk_cell BK135.out 5).trans rfl
                              have hcz42_6 : wr.cell? ⟨gb135, 6, none⟩ = some (.int .u32 ((rd_T95 l0_0 x5_2).f6)) := (blk_cell BK135.out 6).trans rfl
                              have hfz42_0 := blk_frozen BK135.out 0
                              have hfz42_1 := blk_frozen BK135.out 1
                              have hfz42_2 := blk_frozen BK135.out 2
                              have hfz42_3 := blk_frozen BK135.out 3
                              have hfz42_4 := blk_frozen BK135.out 4
                              have hfz42_5 := blk_frozen BK135.out 5
                              have hfz42_6 := blk_frozen BK135.out 6
                              go_wp2
                              go_ret2
                              exact ⟨by first | rfl | (simp [errW_none, errW_some] <;> rfl) | (simp [*, errW_none, errW_some] <;> rfl), by repeat (first | (with_reducible first | exact HB.out | apply below_alloc | apply pw_below_drewN | apply below_drew1 | refine below_set ?_ GE133.out | refine below_set ?_ GE135.out) | exact HB.out)⟩
                · rw [if_neg c9] at H
                  exact absurd H (by simp)
              · rw [if_neg c8] at H
                exact absurd H (by simp)
            · rw [if_neg c7] at H
              have c7b0 : decide (x5_2 < (l0_0.length : Int)) = false := decide_eq_false c7
              clear c7
              simp only [Option.some.injEq, Prod.mk.injEq] at H
              obtain ⟨rfl, rfl⟩ := H
              go_wp2
              go_ret2
              exact ⟨by first | rfl | (simp [errW_none, errW_some] <;> rfl) | (simp [*, errW_none, errW_some] <;> rfl), by repeat (first | (with_reducible first | exact HB.out | apply below_alloc | apply pw_below_drewN | apply below_drew1 | refine below_set ?_ GE133.out) | exact HB.out)⟩
end Go.Proofs.Ytiooalhfhnddjaa.PX
end
