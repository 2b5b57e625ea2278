/- Lemmas for the statement in the last text of this claim: contracts of the functions that it calls, and plain facts. No condition. -/
import Derived.BigRegion
import Derived.Deep.RegionHeld3
import Derived.Maps.OwnIn
import Derived.RangeFuncKeeps
import Derived.OwnWalkIn
import Derived.RangeFuncNested
import Derived.RangeFuncWrites
import Derived.BigRegionIn
import Derived.IntWalk
import Derived.Lib.QuietBelowIn
import Derived.Test.YtiooalhfhnddjaaCPR7
set_option linter.unusedVariables false
set_option linter.unusedSimpArgs false
set_option linter.unusedSectionVars false
section
set_option linter.unusedSimpArgs false
set_option linter.unusedSectionVars false
namespace Go.Proofs.Ytiooalhfhnddjaa
open Go.RowKit Go.Sort Go.Shelf Go.Proofs.Ytiooalhfhnddjaa.MM Go.Proofs.Ytiooalhfhnddjaa.PX Go.Proofs.YtiooalhfhnddjaaW.PrintWords
set_option linter.unusedVariables false
theorem CloneMap_calls (w : World) {b : Nat} {l : List (Stamp × Int)} (h : mapAt w b stampV intV l) :
    Calls Try.prog 96 #[.map (some b)] w fun e w' => e = .returned (.map (some w.heap.size)) ∧ mapAt w' w.heap.size stampV intV l ∧ Below w.heap.size w w' := by
  obtain ⟨es, clock, hb, hs, hl⟩ := h
  refine (AnyW.maps_Clone Try.cloneMapL b es clock w hb).mono ?_
  rintro e w' ⟨rfl, rfl⟩
  exact ⟨rfl, ⟨es, clock, heap_alloc_new w _, hs, hl⟩, below_alloc (Below.refl _ _) _⟩
def orL : List Int → Int
  | [] => 0
  | x :: l => if x = 0 then orL l else x
theorem orL_snoc0 {xs : List Int} {n : Nat} {x : Int} (h : ∀ x ∈ xs.take n, x = 0) (hx : xs[n]? = some x) (h0 : x ≠ 0) : orL xs = x := by
  induction xs generalizing n with
  | nil => simp at hx
  | cons y ys ih =>
    cases n with
    | zero => simp at hx; subst hx; simp [orL, h0]
    | succ n =>
      have hy : y = 0 := h y (by simp)
      rw [orL, if_pos hy]
      exact ih (fun z hz => h z (by rw [List.take_succ_cons]; exact List.mem_cons_of_mem _ hz)) (by simpa using hx)
theorem orL_zero {xs : List Int} (h : ∀ x ∈ xs, x = 0) : orL xs = 0 := by
  induction xs with
  | nil => rfl
  | cons y ys ih => rw [orL, if_pos (h y (by simp))]; exact ih (fun z hz => h z (by simp [hz]))
set_option maxRecDepth 100000 in
theorem Or_calls (w : World) (A : Option Addr) (c : Nat) (xs : List Int) (hr : Kd.C (Kd.int .i64) w A xs.length xs) (hl : xs.length ≤ 1000000000) :
    Calls Try.prog 86 #[.slice A xs.length c] w fun e w' => e = .returned (.int .i64 (orL xs)) ∧ w' = w := by
  obtain ⟨r, hrr⟩ : ∃ r, r = orL xs := ⟨_, rfl⟩
  rw [← hrr]
  have HR := Aside0.mk hrr
  clear hrr
  go_enter Try.func86, Try.ntmps86
  go_wp2
  go_loopg [8] xs.length (fun kq v8 wr => ∃ i : Nat, v8 = .int .i64 i ∧ i + kq = xs.length ∧ wr = w ∧ Aside0 (∀ x ∈ xs.take i, x = 0))
  case atStart => exact ⟨0, rfl, by simp, rfl, ⟨by simp⟩⟩
  case round =>
    obtain ⟨i, rfl, hk, rfl, HZ⟩ := hrel
    by_cases hlt : i < xs.length
    · obtain ⟨ad, e1, x0⟩ := Kd.at_int hr (i : Int) (by omega) (by omega)
      cases e1
      simp only [Int.toNat_natCast] at x0
      have hx : xs[i]? = some (rd xs i) := by simp [Go.Proofs.YtiooalhfhnddjaaW.PrintWords.rd, List.getD_eq_getElem?_getD, hlt]
      generalize rd xs i = x at x0 hx
      have HX := Aside0.mk hx
      have HK := Aside0.mk hk
      clear hx hk
      by_cases h0 : x = 0
      · have h0b : (x == 0) = true := beq_iff_eq.2 h0
        have H0 := Aside0.mk h0
        clear h0
        go_wp2
        go_roundg (gk - 1)
        case measure => have := HK.out; omega
        case rel => exact ⟨i + 1, by go_num, by have := HK.out; omega, rfl, ⟨by
          rw [take_snoc_of HX.out]
          intro y hy
          rcases List.mem_append.1 hy with hy | hy
          · exact HZ.out y hy
          · rw [List.mem_singleton.1 hy]; exact H0.out⟩⟩
      · have h0b : (x == 0) = false := beq_eq_false_iff_ne.2 h0
        have hrx : r = x := by rw [HR.out]; exact orL_snoc0 HZ.out HX.out h0
        subst hrx
        clear h0
        go_wp2
        go_ret
        exact ⟨rfl, rfl⟩
    · obtain rfl : i = xs.length := by omega
      clear hk
      rw [List.take_length] at HZ
      have hr0 : r = 0 := by rw [HR.out]; exact orL_zero HZ.out
      subst hr0
      go_wp2
      go_ret
      exact ⟨rfl, rfl⟩
theorem C_lit3 {W : World} {b : Nat} {t : TypeId} {x y z : Int} (hb : W.heap[b]? = some (.cells #[.int .i64 x, .int .i64 y, .int .i64 z] t (0, 0))) : Kd.C (Kd.int .i64) W (some ⟨b, 0, none⟩) 3 [x, y, z] := by
  refine ⟨rfl, by omega, fun _ => ⟨_, rfl, fun j p hj => ⟨[.int .i64 p], rfl, rfl, fun i u hu => ?_⟩⟩⟩
  cases i with
  | succ i => simp at hu
  | zero =>
    simp at hu
    subst hu
    have hc : ∀ k, W.cell? ⟨b, k, none⟩ = (#[.int .i64 x, .int .i64 y, .int .i64 z] : Array Value)[k]? := fun k => blk_cell hb k
    match j, hj with
    | 0, hj => simp at hj; subst hj; exact (hc 0).trans rfl
    | 1, hj => simp at hj; subst hj; exact (hc 1).trans rfl
    | 2, hj => simp at hj; subst hj; exact (hc 2).trans rfl
    | n + 3, hj => simp at hj
def cfS (x y : Stamp) : Int := orL [Lib.compareInt x.f0 y.f0, Lib.compareInt x.f1.f0 y.f1.f0, Lib.compareInt x.f1.f1 y.f1.f1]
def encS (t : Stamp) : List Value := [.int .i64 t.f0, .int .i64 t.f1.f0, .int .i64 t.f1.f1]
set_option maxRecDepth 100000 in
set_option maxHeartbeats 4000000 in
theorem order_calls (x y : Stamp) (W : World) : Calls Try.prog 99 #[.agg (encS x).toArray, .agg (encS y).toArray] W fun e w' => e = .returned (.int .i64 (cfS x y)) ∧ ∃ q os', w' = grow (W.drewN q) os' := by
  unfold encS cfS
  have hc := Compare_calls
  generalize Lib.compareInt = cmp at hc ⊢
  have hor := fun W A c hr => Or_calls W A c [cmp x.f0 y.f0, cmp x.f1.f0 y.f1.f0, cmp x.f1.f1 y.f1.f1] hr (by simp)
  generalize orL [cmp x.f0 y.f0, cmp x.f1.f0 y.f1.f0, cmp x.f1.f1 y.f1.f1] = r at hor ⊢
  go_enter Try.func99, Try.ntmps99
  go_wp2_with fail
  go_region_held3 (fun w' => w'.cell? ⟨W.heap.size, 0, none⟩ = some (.int .i64 x.f0) ∧ w'.cell? ⟨W.heap.size, 1, none⟩ = some (.int .i64 x.f1.f0) ∧ w'.cell? ⟨W.heap.size, 2, none⟩ = some (.int .i64 x.f1.f1) ∧ w'.cell? ⟨W.heap.size + 1, 0, none⟩ = some (.int .i64 y.f0) ∧ w'.cell? ⟨W.heap.size + 1, 1, none⟩ = some (.int .i64 y.f1.f0) ∧ w'.cell? ⟨W.heap.size + 1, 2, none⟩ = some (.int .i64 y.f1.f1))
    (first | go_keep)
    (first
      | (go_at_call 130; refine (hc _ _ _).mono ?_; rintro e w' ⟨rfl, rfl⟩)
      | (go_at_call 86; refine (hor _ _ _ ?hr).mono ?_; (case hr => exact C_lit3 (t := 3) (by rw [show W.heap.size + 1 + 1 = ((W.alloc (.cells #[.int .i64 x.f0, .int .i64 x.f1.f0, .int .i64 x.f1.f1] 45)).alloc (.cells #[.int .i64 y.f0, .int .i64 y.f1.f0, .int .i64 y.f1.f1] 45)).drew.heap.size by simp]; exact heap_alloc_new _ _)); rintro e w' ⟨rfl, rfl⟩))
  go_wp2
  go_ret
  exact ⟨rfl, 1, _, by rw [alloc_eq_grow, alloc_eq_grow, alloc_eq_grow, drew_grow, grow_grow, drew_grow, grow_grow]; rfl⟩
def sLt (x y : Stamp) : Prop := x.f0 < y.f0 ∨ x.f0 = y.f0 ∧ (x.f1.f0 < y.f1.f0 ∨ x.f1.f0 = y.f1.f0 ∧ x.f1.f1 < y.f1.f1)
theorem compare_zero (x y : Int) : Lib.compareInt x y = 0 ↔ x = y := by
  unfold Lib.compareInt
  split
  · simp; omega
  · split <;> simp <;> omega
theorem cfS_neg (x y : Stamp) : cfS x y < 0 ↔ sLt x y := by
  unfold cfS sLt
  simp only [orL]
  split
  · rename_i h0
    rw [compare_zero] at h0
    split
    · rename_i h1
      rw [compare_zero] at h1
      split
      · rename_i h2
        rw [compare_zero] at h2
        omega
      · rw [compare_neg]
        omega
    · rename_i h1
      rw [compare_zero] at h1
      rw [compare_neg]
      omega
  · rename_i h0
    rw [compare_zero] at h0
    rw [compare_neg]
    omega
theorem swoS : SWO (ltOf cfS) := by
  refine ⟨fun x => ?_, fun x y z h1 h2 => ?_, fun x y z h1 h2 => ?_⟩
  · simp only [ltOf, cfS_neg, decide_eq_false_iff_not]
    unfold sLt
    omega
  · simp only [ltOf, cfS_neg, decide_eq_true_eq] at *
    unfold sLt at *
    omega
  · simp only [ltOf, cfS_neg, decide_eq_false_iff_not] at *
    unfold sLt at *
    omega
instance : Inhabited Stamp := ⟨z45⟩
theorem encS_M {w : World} {base : Nat} {ok : Nat → Prop} {x : Stamp} {cs : List Value} (h : kStamp.M w base ok x cs) : cs = encS x := by
  obtain ⟨c1, c2, rfl, h1, c3, c4, rfl, h3, h4⟩ := h
  have e1 : c1 = [.int .i64 x.f0] := h1
  have e3 : c3 = [.int .i64 x.f1.f0] := h3
  have e4 : c4 = [.int .i64 x.f1.f1] := h4
  rw [e1, e3, e4]
  rfl
theorem SortStamp_calls {w : World} {base : Nat} {ok : Nat → Prop} {v : Value} {xs : List Stamp} (h : kStamp.R 45 w base ok v xs) (hl : xs.length < 4611686018427387904) :
    Calls Try.prog 128 #[v, .func (.func 99) #[] #[]] w fun e' w' => e' = .returned (.tuple #[]) ∧ ∃ ys : List Stamp, ys.Perm xs ∧ ys.Pairwise (fun a b => ¬ sLt b a) ∧ kStamp.R 45 w' base ok v ys ∧ w.grownBy w' v.ownBlock := by
  refine (sort_own Try.sortStampL kStamp encS (fun _ => rfl) (fun x v hv => by simp [encS] at hv; rcases hv with rfl | rfl | rfl <;> rfl) encS_M (fun w base ok x => k45_mkM w base ok x) Try.isAgg45 Try.sizeOf45 cfS swoS 99 (enters_of Try.func99 (by kernel_rfl) rfl) order_calls h hl).mono ?_
  rintro e w' ⟨rfl, ys, hp, hs, hR, hg⟩
  refine ⟨rfl, ys, hp, hs.imp ?_, hR, hg⟩
  intro a b hab
  simpa only [ltOf, cfS_neg, decide_eq_false_iff_not] using hab
end Go.Proofs.Ytiooalhfhnddjaa
end
section
set_option linter.unusedSimpArgs false
set_option linter.unusedSectionVars false
namespace Go.Proofs.Ytiooalhfhnddjaa
open Go.RowKit Go.Shelf Go.Proofs.Ytiooalhfhnddjaa.MM Go.Proofs.Ytiooalhfhnddjaa.PX Go.Proofs.YtiooalhfhnddjaaW.PrintWords
attribute [local go_sem] Oper.semAt_some
set_option linter.unusedVariables false
theorem K_of2 {K : Act → World → Prop} {L : Array Value} {Df : List Deferred} {W : World} (h : ∀ u : Nat → Value, u = (fun i => L.getD i undef) → K ⟨L, Df⟩ W) : K ⟨L, Df⟩ W := h _ rfl
def encK (s : Stamp) : Array Value := #[.agg #[.int .i64 s.f0, .int .i64 s.f1.f0, .int .i64 s.f1.f1]]
set_option maxRecDepth 100000 in
set_option maxHeartbeats 4000000 in
theorem Keys_stops (F : Fence) (n : Nat) (h7 : F.fn 129) (hro : F.round = none) (hn : 1 ≤ n) (Bk b : Nat) (w : World) (l : List (Stamp × Int)) (hBk : w.cell? ⟨Bk, 0, none⟩ = some (.map (some b))) (hm : mapAt w b stampV intV l) :
    SeqStopsK F n Try.prog 129 #[.pointer (some ⟨Bk, 0, none⟩)] encK KeepsWalks (fun ys => ys.Perm (l.map Prod.fst)) (fun pre => ∃ rest, (pre ++ rest).Perm (l.map Prod.fst)) l.length w := fun lp J Jx W hW hJ hJx hY h0 => by
  have hmW := hm.below hW
  have hk0 : W.cell? ⟨Bk, 0, none⟩ = some (.map (some b)) := (hW.cell (p := ⟨Bk, 0, none⟩) (World.block_lt_of_cell? _ _ hBk)).trans hBk
  obtain ⟨hr1, hr2⟩ := hmW.range (P := Try.prog) Try.underlying113
  generalize hmW.choose_spec.choose = clock at hr1 hr2
  have hsW : W.heap.size ≤ W.heap.size := Nat.le_refl _
  refine callsIn_of_wp Try.func129 rfl h7 ?_ hro
  simp only [Try.ntmps129, List.size_toArray, List.length_cons, List.length_nil, Nat.reduceAdd, Nat.reduceSub, Array.replicate_succ, Array.replicate_zero, List.push_toArray, List.append_toArray, List.nil_append, List.cons_append]
  gi_wp2
  have hJ1 : J [] (W.alloc (.mapIter (some b) clock #[] clock)) := hJ _ _ _ none h0 (World.grownBy_alloc _ _ _) (fun r e => by cases e)
  have hJn : ∀ xs wr w1, J xs wr → (∃ o : Obj, wr.heap[W.heap.size]? = some o ∧ o.isWalk = true) → wr.grownBy w1 (some W.heap.size) → J xs w1 := fun xs wr w1 hj ho hg => hJ _ _ _ (some W.heap.size) hj hg (fun r e => by cases e; exact ⟨Nat.le_refl _, ho⟩)
  have hJa : ∀ xs wr o, J xs wr → J xs (wr.alloc o) := fun xs wr o hj => hJ _ _ _ none hj (World.grownBy_alloc _ _ _) (fun r e => by cases e)
  refine wpIn_loop_num (fun m a' wr => ∃ (todo : List (Stamp × Int)) (pre : List Stamp) (u : Nat → Value), a' = { tmps := #[.func (.yield lp) #[] #[], .pointer (some ⟨Bk, 0, none⟩), u 2, u 3, u 4, .pointer (some ⟨W.heap.size, 0, none⟩), u 6, u 7, u 8, u 9, u 10, u 11, u 12, u 13], defers := [] } ∧ todo.length = m ∧ iterAt wr W.heap.size b stampV intV l todo ∧ (pre ++ todo.map Prod.fst).Perm (l.map Prod.fst) ∧ J pre wr) l.length ?h0 ?round
  case h0 => exact ⟨l, [], fun i => if i = 4 then .map (some b) else undef, rfl, rfl, hr2, List.Perm.refl _, hJ1⟩
  case round =>
    rintro m a' wr ⟨todo, pre, u, rfl, hm1, hit, hp, hj⟩ K hK
    have HM := Aside0.mk hm1
    have HP := Aside0.mk hp
    clear hm1 hp
    have hwk : ∃ o : Obj, wr.heap[W.heap.size]? = some o ∧ o.isWalk = true := by
      obtain ⟨es, cl, since, seen, c0, _, _, _, h4, _⟩ := hit
      exact ⟨_, h4, rfl⟩
    rcases hit.next (P := Try.prog) 0 with ⟨rfl, hrun⟩ | ⟨i, q, w1, hi, hrun, hit1, hg1, hsz1, hen⟩
    · clear hK
      gi_wp2
      go_end0
      exact ⟨⟨_, rfl⟩, .inl ⟨pre, by simpa using HP.out, hj⟩⟩
    · have hj1 := hJn _ _ _ hj hwk hg1
      have hpt := perm_take hi
      have hl2 : (todo.eraseIdx i).length + 1 = todo.length := by
        have := (List.getElem?_eq_some_iff.1 hi).1
        rw [List.length_eraseIdx]
        simp only [this, if_true]
        omega
      have hpm := hpt.map Prod.fst
      have hp2 : ((pre ++ [q.1]) ++ (todo.eraseIdx i).map Prod.fst).Perm (l.map Prod.fst) := by
        rw [List.append_assoc]
        exact (List.Perm.append_left pre hpm.symm).trans HP.out
      have hlen : pre.length < l.length := by
        have := hp2.length_eq
        simp at this
        omega
      obtain ⟨fn, tmps, assign, body, hy, hR⟩ := hY pre q.1 _ (hJa _ _ (.cells #[.int .i64 q.1.f0, .int .i64 q.1.f1.f0, .int .i64 q.1.f1.f1] 45) hj1) hlen
      have hit2 := hit1.alloc (.cells #[.int .i64 q.1.f0, .int .i64 q.1.f1.f0, .int .i64 q.1.f1.f1] 45)
      simp only [encK] at hy
      simp only [stampV, intV] at hrun hen
      have HS := Aside0.mk (And.intro hsz1 (And.intro hpt (And.intro hl2 (And.intro hpm (And.intro hp2 hlen)))))
      clear hsz1 hpt hl2 hpm hp2 hlen
      gi_wp2
      have hwk2 : (∃ o : Obj, (w1.alloc (.cells #[.int .i64 q.1.f0, .int .i64 q.1.f1.f0, .int .i64 q.1.f1.f1] 45)).heap[b]? = some o ∧ o.isWalk = true) ∧ ∃ o : Obj, (w1.alloc (.cells #[.int .i64 q.1.f0, .int .i64 q.1.f1.f0, .int .i64 q.1.f1.f1] 45)).heap[W.heap.size]? = some o ∧ o.isWalk = true := by
        obtain ⟨es, cl, since, seen, c0, h1, _, _, h4, _⟩ := hit2
        exact ⟨⟨_, h1, rfl⟩, ⟨_, h4, rfl⟩⟩
      have HW2 := Aside0.mk hwk2
      clear hwk2
      refine hR.mono ?_
      rintro e W3 (⟨rfl, hJ3, hk3⟩ | ⟨rfl, hJx3⟩)
      · have hit3 : iterAt W3 W.heap.size b stampV intV l (todo.eraseIdx i) := by
          obtain ⟨⟨o1, h1, h1w⟩, ⟨o2, h2, h2w⟩⟩ := HW2.out
          exact hit2.of_blocks ((hk3.same b _ h1 h1w).trans h1.symm) ((hk3.same _ _ h2 h2w).trans h2.symm)
        gi_wp2
        refine K_of2 ?_
        rintro u' hu'
        refine hK (todo.eraseIdx i).length _ _ (by have h1 := HM.out; have h2 := HS.out.2.2.1; omega) ⟨todo.eraseIdx i, pre ++ [q.1], u', ?_, rfl, hit3, HS.out.2.2.2.2.1, hJ3⟩
        subst hu'
        rfl
      · gi_wp2
        refine bodyPost_ret (results_none rfl _ _ _) rfl ?_
        exact ⟨⟨_, rfl⟩, .inr ⟨_, ⟨_, HS.out.2.2.2.2.1⟩, hJx3⟩⟩
end Go.Proofs.Ytiooalhfhnddjaa
end
section
set_option linter.unusedVariables false
set_option linter.unusedSimpArgs false
set_option linter.unusedSectionVars false
namespace Go.Proofs.Ytiooalhfhnddjaa
open Go.RowKit Go.Proofs.Ytiooalhfhnddjaa.MM Go.Proofs.Ytiooalhfhnddjaa.PX Go.Proofs.YtiooalhfhnddjaaW.PrintWords
section
variable {F : Fence} {nF : Nat} {P : Program} {ops : Array Oper} {rest : List Oper} {o : Oper} {a : Act} {Q : Exit → Act → World → Prop} {α : Type}
theorem app1In (d : Kd α) {w0 W : World} (base : Nat) (hgd : o.guard = none) (s x : Operand) (t e : TypeId) (z : Value) (bytes : Nat)
    (ho : o.op = .call { callee := .builtin .append, args := #[s, x], argTypes := #[t, t] })
    (ht : P.underlying t = some (.slice e)) (hinfo : (P.info? e).map (fun i => (i.zero, i.size, i.bytes)) = some (some z, d.sz, bytes)) (hz : z.cells.size = d.sz) (hs0 : 0 < d.sz) (hb0 : 0 < bytes)
    (v : Value) (xs : List α) (p : α) (cs : List Value) {n : Nat} (hs : a.eval s = v) (hx : a.eval x = .slice (some ⟨n, 0, none⟩) 1 1) (hn : n = W.heap.size) (hp : d.M W base (fun k => some k ≠ v.ownBlock) p cs)
    (HO : d.R e W base (fun _ => True) v xs) (HB : Below base w0 W) (hbase : base ≤ W.heap.size) (hl : (xs.length + 1) * bytes ≤ 140737488355328)
    (h : ∀ v1 w1, d.R e w1 base (fun _ => True) v1 (xs ++ [p]) → Below base w0 w1 → W.grownBy w1 v.ownBlock → (v1.ownBlock = v.ownBlock ∨ ∃ b, v1.ownBlock = some b ∧ W.heap.size ≤ b) → wpListIn F nF P ops Q rest (a.put o.dst v1) w1) :
    wpListIn F nF P ops Q (o :: rest) a (W.alloc (.cells cs.toArray e)) := by
  subst hn
  obtain ⟨h0, inner, hown, hr⟩ := HO
  obtain ⟨i0, hi, hzz⟩ := Option.map_eq_some_iff.1 hinfo
  simp only [Prod.mk.injEq] at hzz
  obtain ⟨hz0, hz1, hz2⟩ := hzz
  have hlen : xs.length + 1 ≤ 140737488355328 := Nat.le_trans (Nat.le_mul_of_pos_right _ hb0) hl
  refine wpListIn_append_own_at (w := W.alloc (.cells cs.toArray e)) hgd s x t ho base e i0 z d.sz bytes ht hi hz0 hz1 hz2 hz hs0 v xs.length inner hs (hown.alloc _) ⟨W.heap.size, 0, none⟩ 1 1 cs hx (by rw [d.K_len (d.K_of_M hp)]; simp)
    (by simpa using World.news_of_block (cs := cs.toArray) (t := e) (fr := (0, 0)) (heap_alloc_new W (.cells cs.toArray e))) (d.K_one (d.K_of_M hp)) (by simp only [maxLen]; omega) hl (by simp; omega) ?_
  intro v1 w1 hown1 hg _ hat
  have hg1 := World.grownBy.trans (World.grownBy_alloc W (.cells cs.toArray e) v.ownBlock) hg
  have hat1 : v1.ownBlock = v.ownBlock ∨ ∃ b, v1.ownBlock = some b ∧ W.heap.size ≤ b := by
    rcases hat with hat | hat
    · exact .inl hat
    · exact .inr ⟨_, hat, by simp⟩
  exact h v1 w1 (Kd.R_appended h0 hr hp (fun k hk => ⟨trivial, hk⟩) (fun _ _ => trivial) hown1 hg1 hat1) ((HB.alloc hbase _).grown hg (by simp; omega) (own_base hown)) hg1 hat1
end
theorem ko_grown {W W' : World} {row : Option Nat} (hg : W.grownBy W' row) (hr : ∀ r, row = some r → ∃ cs t, W.heap[r]? = some (.cells cs t (0, 0))) : KeepsOthers W W' ∧ KeepsWalks W W' := by
  have h1 : ∀ (k : Nat) (o : Obj), W.heap[k]? = some o → o.isCells = false → W'.heap[k]? = some o := fun k o hk hc => (hg.block k (Array.getElem?_eq_some_iff.1 hk).1 (fun e => by
    obtain ⟨cs, t, h⟩ := hr k e.symm
    rw [hk] at h
    injection h with h
    subst h
    cases hc)).trans hk
  exact ⟨⟨hg.size, h1⟩, ⟨hg.size, fun k o hk hw => h1 k o hk (Obj.not_cells_of_walk hw)⟩⟩
end Go.Proofs.Ytiooalhfhnddjaa
end
section
set_option linter.unusedSimpArgs false
set_option linter.unusedSectionVars false
namespace Go.Proofs.Ytiooalhfhnddjaa
open Go.RowKit Go.Shelf Go.Proofs.Ytiooalhfhnddjaa.MM Go.Proofs.Ytiooalhfhnddjaa.PX Go.Proofs.YtiooalhfhnddjaaW.PrintWords
attribute [local go_sem] Oper.semAt_some
set_option linter.unusedVariables false
theorem MKeys_calls (w : World) (b : Nat) : Calls Try.prog 98 #[.map (some b)] w fun e w' => e = .returned (.func (.func 129) #[] #[.pointer (some ⟨w.heap.size, 0, none⟩)]) ∧ w' = w.alloc (.cells #[.map (some b)] 113) := by
  go_enter Try.func98, Try.ntmps98
  go_wp2
  go_ret
  exact ⟨rfl, rfl⟩
set_option maxRecDepth 100000 in
set_option maxHeartbeats 4000000 in
theorem AppendSeq_calls (w : World) (Bk b : Nat) (l : List (Stamp × Int)) (hBk : w.cell? ⟨Bk, 0, none⟩ = some (.map (some b))) (hm : mapAt w b stampV intV l) (hl : l.length ≤ 1000000000) :
    Calls Try.prog 154 #[.slice none 0 0, .func (.func 129) #[] #[.pointer (some ⟨Bk, 0, none⟩)]] w fun e w' => ∃ v r, e = .returned v ∧ Kd.R kStamp 45 w' w.heap.size (fun _ => True) v r ∧ r.Perm (l.map Prod.fst) ∧ Below w.heap.size w w' := by
  refine (callsIn_wide (n := 6)).1 ?_
  refine callsIn_of_wp_marks Try.func154 rfl trivial ?_ rfl
  simp only [Try.ntmps154, List.size_toArray, List.length_cons, List.length_nil, Nat.reduceAdd, Nat.reduceSub, Array.replicate_succ, Array.replicate_zero, List.push_toArray, List.append_toArray, List.nil_append, List.cons_append]
  gi_wp2
  obtain ⟨W1, hW1⟩ : ∃ W1, W1 = w.alloc (.cells #[.slice none 0 0] 26) := ⟨_, rfl⟩
  rw [← hW1]
  have hbW : Below w.heap.size w W1 := by rw [hW1]; exact below_alloc (Below.refl _ _) _
  have hbs : W1.heap[w.heap.size]? = some (.cells #[.slice none 0 0] 26 (0, 0)) := by rw [hW1]; exact heap_alloc_new w _
  have hk1 : W1.cell? ⟨Bk, 0, none⟩ = some (.map (some b)) := (hbW.cell (p := ⟨Bk, 0, none⟩) (World.block_lt_of_cell? _ _ hBk)).trans hBk
  have hm1 := hm.below hbW
  have hsW : W1.heap.size = w.heap.size + 1 := by rw [hW1]; simp
  clear hW1
  refine wpIn_rangeFunc_ownH rfl (by omega) (gf := 129) (lb := #[.pointer (some ⟨Bk, 0, none⟩)]) rfl trivial (enters_of Try.func129 (by kernel_rfl) rfl)
    (Keys_stops Fence.wide _ trivial rfl (by omega) Bk b W1 l hk1 hm1)
    (fun h1 h2 => walksK_t h1 h2) (fun V l o o' hl ho hc hw => walksK_b (w := W1) V l o o' hl ho hc hw) (Below.refl _ _) (fun _ => rfl)
    (fun pre V => ∃ vs, V.heap[w.heap.size]? = some (.cells #[vs] 26 (0, 0)) ∧ Kd.R kStamp 45 V W1.heap.size (fun _ => True) vs pre ∧ Below w.heap.size w V ∧ W1.heap.size ≤ V.heap.size) (fun _ _ _ => False)
    ?_ (fun _ _ _ _ _ h _ _ => h) ⟨_, hbs, Kd.R_nil _ _ _ _ _, hbW, Nat.le_refl _⟩
    (fun x a' V => ∃ B5, a' = { tmps := #[.slice none 0 0, .func (.func 129) #[] #[.pointer (some ⟨Bk, 0, none⟩)], .pointer (some ⟨w.heap.size, 0, none⟩), undef, .slice none 0 0, .pointer (some ⟨B5, 0, none⟩), .func (.func 129) #[] #[.pointer (some ⟨Bk, 0, none⟩)], .agg #[.int .i64 x.f0, .int .i64 x.f1.f0, .int .i64 x.f1.f1], undef, undef, undef, undef, undef], defers := [] } ∧ V.heap[B5]? = some (.cells #[.int .i64 x.f0, .int .i64 x.f1.f0, .int .i64 x.f1.f1] 45 (0, 0))) ?_ ?assign ?body ?done ?stop
  · rintro pre V V' row ⟨vs, h1, h2, h3, h4⟩ hg hr
    have hnc : ∀ r, row = some r → ∀ cs q f, V.heap[r]? ≠ some (.cells cs q f) := by
      intro r e cs q f he
      obtain ⟨_, o, ho, hc⟩ := hr r e
      rw [he] at ho
      injection ho with ho
      subst ho
      cases hc
    refine ⟨vs, blk_grown h1 hg (fun e => hnc _ e.symm _ _ _ h1), ?_, h3.grown hg h3.size (fun k e => Nat.le_trans hbW.size (hr k e).1), Nat.le_trans h4 hg.size⟩
    cases row with
    | none => exact Kd.R_grown h2 hg (fun k _ e => by cases e)
    | some r => exact R_iter h2 (hnc r rfl) hg
  · rintro x a' _ V V' row ⟨B5, rfl, h5⟩ hg hr
    refine ⟨B5, rfl, blk_grown h5 hg (fun e => ?_)⟩
    obtain ⟨_, o, ho, hc⟩ := hr B5 e.symm
    rw [h5] at ho
    injection ho with ho
    subst ho
    cases hc
  case assign =>
    intro l' pre x V K hI hK'
    have hz : ∀ t : Array Value, ((#[7] : Array Nat).zip (encK x)).foldl (fun t (p, v) => t.setIfInBounds p v) t = (t.setIfInBounds 7 (.agg #[.int .i64 x.f0, .int .i64 x.f1.f0, .int .i64 x.f1.f1])) := fun t => by simp [encK]
    rw [hz]
    clear hz
    gi_wp2
    obtain ⟨vs, h1, h2, h3, h4⟩ := hI
    exact hK' _ _ ((KeepsOthers.alloc V _).from _) (KeepsWalks.alloc V _) ⟨vs, blk_alloc h1 _, Kd.R_alloc h2 _, below_alloc h3 _, by simp; omega⟩ ⟨V.heap.size, rfl, heap_alloc_new V _⟩
  case stop =>
    intro D c' pre V _ _ h
    exact h.elim
  case body =>
    rintro l' pre x a' V hwl hrec ⟨vs, h1, h2, h3, h4⟩ ⟨B5, rfl, h5⟩ hlen
    have c0 : V.cell? ⟨B5, 0, none⟩ = some (.int .i64 x.f0) := (blk_cell h5 0).trans rfl
    have c1 : V.cell? ⟨B5, 1, none⟩ = some (.int .i64 x.f1.f0) := (blk_cell h5 1).trans rfl
    have c2 : V.cell? ⟨B5, 2, none⟩ = some (.int .i64 x.f1.f1) := (blk_cell h5 2).trans rfl
    have d0 : V.cell? ⟨w.heap.size, 0, none⟩ = some vs := (blk_cell h1 0).trans rfl
    have H1 := Aside0.mk h1
    clear h1 h5
    gi_wp2_with (gi_at_builtin; refine app1In kStamp (w0 := V) W1.heap.size rfl (.tmp 8) (.tmp 10) 26 45 (.agg #[.int .i64 0, .int .i64 0, .int .i64 0]) 24 rfl Try.underlying26 infoStamp rfl (by decide) (by omega) vs pre x [.int .i64 x.f0, .int .i64 x.f1.f0, .int .i64 x.f1.f1] rfl rfl ?aN ?aP ?aO ?aB ?aS ?aL ?_; (case aN => simp); (case aP => exact k45_mkM _ _ _ x); (case aO => exact h2); (case aB => exact Below.refl _ _); (case aS => exact h4); (case aL => omega); intro v1 w7 hR7 hb7 hg7 hat7; obtain ⟨v1A, v1c, rfl, hv1c, hv1r⟩ := Kd.R_reads hR7; clear hv1r hat7; have hB7 := Aside0.mk (blk_grown H1.out hg7 (Kd.R_ne h2 H1.out (by decide))); have z0 : w7.cell? ⟨w.heap.size, 0, none⟩ = some vs := (blk_cell hB7.out 0).trans rfl; have z1 : w7.frozen? ⟨w.heap.size, 0, none⟩ = false := blk_frozen hB7.out 0)
    have hml : pre.length + 1 = (pre ++ [x]).length := by simp
    try rw [hml]
    obtain ⟨k1, k2⟩ := ko_grown hg7 (fun r e => by obtain ⟨cells, h⟩ := Kd.R_typed h2 r e; exact ⟨cells, _, h⟩)
    refine ⟨(k1.trans (KeepsOthers.setCell w7 _ _)).from _, k2.trans (KeepsWalks.setCell w7 _ _), _, blk_set hB7.out 0 _, Kd.R_set hR7 hB7.out (by decide) 0 _, (h3.grown hg7 h3.size (fun k e => Nat.le_trans hbW.size (Kd.R_base h2 k e))).setCell (p := ⟨w.heap.size, 0, none⟩) (Nat.le_refl _) _, ?_⟩
    have := hg7.size
    simp
    omega
  case done =>
    rintro D xs V hD hxs ⟨vs, h1, h2, h3, h4⟩ hmk
    have d0 : V.cell? ⟨w.heap.size, 0, none⟩ = some vs := (blk_cell h1 0).trans rfl
    dsimp only
    gi_wp2
    refine leaves_marks (B := w.heap.size) [D] V (by simp) (fun D' h => by obtain rfl : D' = D := (by simpa using h); exact ⟨by omega, hmk⟩) ?_
    intro W' hs
    refine ⟨_, results_tmp rfl _ _ _, _, xs, rfl, ?_, hxs, hs.below h3⟩
    refine Kd.R_mono (Kd.R_move (Kd.R_bound (Kd.R_lower h2 hbW.size)) (fun k hk => ?_)) (fun _ _ => trivial)
    obtain ⟨_, _, _, q, _, cells, hc⟩ := hk
    exact hs.cells k _ _ _ hc
theorem Collect_calls (w : World) (Bk b : Nat) (l : List (Stamp × Int)) (hBk : w.cell? ⟨Bk, 0, none⟩ = some (.map (some b))) (hm : mapAt w b stampV intV l) (hl : l.length ≤ 1000000000) :
    Calls Try.prog 127 #[.func (.func 129) #[] #[.pointer (some ⟨Bk, 0, none⟩)]] w fun e w' => ∃ v r, e = .returned v ∧ Kd.R kStamp 45 w' w.heap.size (fun _ => True) v r ∧ r.Perm (l.map Prod.fst) ∧ Below w.heap.size w w' := by
  go_enter Try.func127, Try.ntmps127
  go_wp2_with (go_at_call 154; refine (AppendSeq_calls w Bk b l hBk hm hl).mono ?_; rintro e w1 ⟨v, r, rfl, hR, hp, hb⟩)
  go_ret
  exact ⟨_, r, rfl, hR, hp, hb⟩
theorem SortedFunc_calls (w : World) (Bk b : Nat) (l : List (Stamp × Int)) (hBk : w.cell? ⟨Bk, 0, none⟩ = some (.map (some b))) (hm : mapAt w b stampV intV l) (hl : l.length ≤ 1000000000) :
    Calls Try.prog 97 #[.func (.func 129) #[] #[.pointer (some ⟨Bk, 0, none⟩)], .func (.func 99) #[] #[]] w fun e w' => ∃ v r, e = .returned v ∧ Kd.R kStamp 45 w' w.heap.size (fun _ => True) v r ∧ r.Perm (l.map Prod.fst) ∧ r.Pairwise (fun a b => ¬ sLt b a) ∧ Below w.heap.size w w' := by
  go_enter Try.func97, Try.ntmps97
  go_wp2_with (first | (go_at_call 127; refine (Collect_calls w Bk b l hBk hm hl).mono ?_; rintro e w1 ⟨v, r, rfl, hR, hp, hb⟩; have hrl : r.length < 4611686018427387904 := by have := hp.length_eq; simp at this; omega) | (go_at_call 128; refine (SortStamp_calls hR hrl).mono ?_; rintro e w2 ⟨rfl, ys, hys, hsort, hR2, hg2⟩))
  go_ret
  exact ⟨_, ys, rfl, hR2, hys.trans hp, hsort, hb.grown hg2 hb.size (fun k e => Kd.R_base hR k e)⟩
end Go.Proofs.Ytiooalhfhnddjaa
end
section
set_option linter.unusedSimpArgs false
set_option linter.unusedSectionVars false
namespace Go.Proofs.Ytiooalhfhnddjaa
open Go.RowKit Go.Shelf Go.Proofs.Ytiooalhfhnddjaa.MM Go.Proofs.Ytiooalhfhnddjaa.PX Go.Proofs.YtiooalhfhnddjaaW.PrintWords
attribute [local go_sem] Oper.semAt_some
set_option linter.unusedVariables false
def encC (c : Count) : Array Value := #[.agg #[.int .i64 c.f0.f0, .int .i64 c.f0.f1.f0, .int .i64 c.f0.f1.f1, .int .i64 c.f1]]
structure KeepC (B : Nat) (W W' : World) : Prop where
  walks : KeepsWalks W W'
  cells : ∀ (k : Nat) (cs : Array Value) (t : TypeId) (f : Nat × Nat), B ≤ k → W.heap[k]? = some (.cells cs t f) → W'.heap[k]? = some (.cells cs t f)
theorem KeepC.trans {B : Nat} {X Y Z : World} (h : KeepC B X Y) (k : KeepC B Y Z) : KeepC B X Z := ⟨h.walks.trans k.walks, fun i cs t f hi h1 => k.cells i cs t f hi (h.cells i cs t f hi h1)⟩
theorem KeepC.R {α : Type} {d : Kd α} {e B : Nat} {W W' : World} {v : Value} {xs : List α} (h : KeepC B W W') (hR : Kd.R d e W B (fun _ => True) v xs) : Kd.R d e W' B (fun _ => True) v xs := by
  refine Kd.R_mono (Kd.R_move (Kd.R_bound hR) (fun k hk => ?_)) (fun _ _ => trivial)
  obtain ⟨_, hb, _, q, _, cells, hc⟩ := hk
  exact (h.cells k _ _ _ hb hc).trans hc.symm
def Listed (l : List (Stamp × Int)) (ys : List Count) : Prop := (ys.map fun c => c.f0).Perm (l.map Prod.fst) ∧ (ys.map fun c => c.f0).Pairwise (fun a b => ¬ sLt b a) ∧ ∀ c ∈ ys, c.f1 = cnt l c.f0
set_option maxRecDepth 100000 in
set_option maxHeartbeats 4000000 in
theorem All_stops (n : Nat) (hn : 1 ≤ n) (Bt : Nat) (w : World) {base p mb : Nat} {g : List Op} {ways : List (List Bool)} {l : List (Stamp × Int)} (hT : TrkAt w base p mb g ways l) (hl : l.length ≤ 1000000000) (hBt : w.cell? ⟨Bt, 0, none⟩ = some (.pointer (some ⟨p, 0, none⟩))) :
    SeqStopsK Fence.wide n Try.prog 95 #[.pointer (some ⟨Bt, 0, none⟩)] encC (KeepC w.heap.size) (Listed l) (fun pre => ∃ rest, Listed l (pre ++ rest)) l.length w := fun lp J Jx W hW hJ hJx hY h0 => by
  have hTW := hT.below hW
  have hB0 : W.cell? ⟨Bt, 0, none⟩ = some (.pointer (some ⟨p, 0, none⟩)) := (hW.cell (p := ⟨Bt, 0, none⟩) (World.block_lt_of_cell? _ _ hBt)).trans hBt
  obtain ⟨gv, wv, h1, h2, h3, h4, h5, h6⟩ := hTW
  have hc2 : W.cell? ⟨p, 2, none⟩ = some (.map (some mb)) := by simp [World.cell?, h3]
  clear h3 h4 h5
  refine callsIn_of_wp Try.func95 rfl trivial ?_ rfl
  simp only [Try.ntmps95, List.size_toArray, List.length_cons, List.length_nil, Nat.reduceAdd, Nat.reduceSub, Array.replicate_succ, Array.replicate_zero, List.push_toArray, List.append_toArray, List.nil_append, List.cons_append]
  have tr1 : Fence.wide.fn 96 := trivial
  have tr2 : Fence.wide.fn 98 := trivial
  have tr3 : Fence.wide.fn 97 := trivial
  gi_wp2_with (first
    | (gi_at_call 96; refine (callsIn_wide.2 (CloneMap_calls W h6)).mono ?_; rintro e w1 ⟨rfl, hm1, hb1⟩)
    | (gi_at_call 98; refine (callsIn_wide.2 (MKeys_calls w1 W.heap.size)).mono ?_; rintro e w2 ⟨rfl, rfl⟩)
    | (gi_at_call 97; refine (callsIn_wide.2 (SortedFunc_calls _ w1.heap.size W.heap.size l ?hk ?hm hl)).mono ?_; (case hk => simp); (case hm => exact hm1.alloc _); rintro e w3 ⟨v, r, rfl, hR, hp, hs, hb3⟩; obtain ⟨rA, rc, rfl, hrc, hrr⟩ := Kd.R_reads hR))
  have hb31 := below_then hb1 hb1.size (below_then (below_alloc (Below.refl w1.heap.size w1) (.cells #[.map (some W.heap.size)] 113)) (by simp) (hb3.mono (by simp)))
  have hm3 : mapAt w3 W.heap.size stampV intV l := (hm1.alloc _).below hb3
  have hJ3 : J [] w3 := hJ _ _ _ none h0 ⟨hb31.os, hb31.tape, hb31.output, hb31.size, fun k hk _ => hb31.block k hk⟩ (fun r e => by cases e)
  have hR3 := Kd.R_lower hR (base' := w.heap.size) (by have h1 := hW.size; have h2 := hb1.size; simp; omega)
  have hrl : r.length = l.length := by have := hp.length_eq; simpa using this
  have hwW := hW.size
  have hJa : ∀ xs wr o, J xs wr → J xs (wr.alloc o) := fun xs wr o hj => hJ _ _ _ none hj (World.grownBy_alloc _ _ _) (fun r e => by cases e)
  have hJd : ∀ xs wr nq, J xs wr → J xs (wr.drewN nq) := fun xs wr nq hj => hJ _ _ _ none hj ⟨rfl, rfl, rfl, Nat.le_refl _, fun _ _ _ => rfl⟩ (fun r e => by cases e)
  obtain ⟨cs, hcs⟩ : ∃ cs, cs = r.map (fun s => (⟨s, cnt l s⟩ : Count)) := ⟨_, rfl⟩
  have hLs : Listed l cs := by
    subst hcs
    refine ⟨by simpa [Function.comp_def] using hp, by simpa [Function.comp_def] using hs, fun c hc => ?_⟩
    obtain ⟨s, _, rfl⟩ := List.mem_map.1 hc
    rfl
  have HL := Aside0.mk hLs
  have hcl : cs.length = r.length := by rw [hcs]; simp
  have HCL := Aside0.mk hcl
  have HRL := Aside0.mk hrl
  have hr9 : r.length ≤ 1000000000 := by omega
  have HCS := Aside0.mk hcs
  clear hR hrr hb3 hb31 hm1 h6 h0 hb1 hLs hcl hcs hrl
  gi_loopw [17] (fun v17 wr => ∃ i : Nat, v17 = .int .i64 i ∧ i ≤ r.length ∧ J (cs.take i) wr ∧ mapAt wr W.heap.size stampV intV l ∧ Kd.R kStamp 45 wr w.heap.size (fun _ => True) (.slice rA r.length rc) r) (fun v _ => r.length - (intOf v).toNat)
  case atStart => exact ⟨0, rfl, Nat.zero_le _, hJ3, hm3, hR3⟩
  case round =>
    obtain ⟨i, rfl, hi, hji, hmi, hRi⟩ := hrel
    by_cases hlt : i < r.length
    · obtain ⟨_, _, hrr⟩ := Kd.R_reads' hRi
      obtain ⟨ad, e1, x0, x1, x2⟩ := at_T45 hrr (i : Int) (by omega) (by omega)
      cases e1
      simp only [Int.toNat_natCast] at x0 x1 x2
      have hx : r[i]? = some (rd_T45 r i) := by
        unfold rd_T45
        simp [List.getD_eq_getElem?_getD, hlt]
      generalize rd_T45 r i = x at x0 x1 x2 hx
      have hcx : cs[i]? = some ⟨x, cnt l x⟩ := by rw [HCS.out, List.getElem?_map, hx]; rfl
      have HX := Aside0.mk hcx
      have hlen : (cs.take i).length < l.length := by rw [List.length_take, HCL.out, ← HRL.out]; omega
      have HLN := Aside0.mk hlen
      have hlk : ∀ nq, (Instr.lookup 113 (.map (some W.heap.size)) (.agg #[.int .i64 x.f0, .int .i64 x.f1.f0, .int .i64 x.f1.f1]) false).run Try.prog ((wr.alloc (.cells #[.int .i64 x.f0, .int .i64 x.f1.f0, .int .i64 x.f1.f1] 45)).drewN nq) = .ok (.int .i64 (cnt l x)) ((wr.alloc (.cells #[.int .i64 x.f0, .int .i64 x.f1.f0, .int .i64 x.f1.f1] 45)).drewN nq) := fun nq =>
        ((hmi.alloc _).of_block (w' := (wr.alloc (.cells #[.int .i64 x.f0, .int .i64 x.f1.f0, .int .i64 x.f1.f1] 45)).drewN nq) rfl).look stampKey Try.underlying113 0 zeroInt x
      clear hx hcx hlen hrr
      gi_wp2
      refine wpIn_region_last2 6 (o := _) (o2 := _) rfl rfl rfl (by kernel_rfl) (by kernel_rfl) (by kernel_rfl) (by kernel_rfl) (by kernel_rfl) rfl rfl ?_
      simp only [List.take_succ_cons, List.take_zero]
      repeat (gi_big_quiet_step (fail))
      refine wpQuietIn_nil ?_
      rintro w8 ⟨nq, rfl⟩
      obtain ⟨fn, tmps, assign, body, hy, hRo⟩ := hY (cs.take i) ⟨x, cnt l x⟩ _ (hJd _ _ nq (hJa _ _ (.cells #[.int .i64 x.f0, .int .i64 x.f1.f0, .int .i64 x.f1.f1] 45) hji)) HLN.out
      simp only [encC] at hy
      have HM := Aside0.mk (mapAt.of_block (w' := (wr.alloc (.cells #[.int .i64 x.f0, .int .i64 x.f1.f0, .int .i64 x.f1.f1] 45)).drewN nq) (hmi.alloc _) rfl)
      have HRR := Aside0.mk (Kd.R_drewN (Kd.R_alloc hRi (.cells #[.int .i64 x.f0, .int .i64 x.f1.f0, .int .i64 x.f1.f1] 45)) nq)
      gi_wp2
      refine hRo.mono ?_
      rintro e W3 (⟨rfl, hJ4, hk4⟩ | ⟨rfl, hJx4⟩)
      · gi_wp2
        go_roundw
        case rel =>
          refine ⟨i + 1, by go_num, by omega, by rw [take_snoc_of HX.out]; exact hJ4, ?_, hk4.R HRR.out⟩
          obtain ⟨es, clock, hb, hs, hl⟩ := HM.out
          exact ⟨es, clock, hk4.walks.same _ _ hb rfl, hs, hl⟩
        case measure => simp [intOf]; omega
      · gi_wp2
        refine bodyPost_ret (results_none rfl _ _ _) rfl ?_
        refine ⟨⟨_, rfl⟩, .inr ⟨_, ⟨cs.drop (i + 1), ?_⟩, hJx4⟩⟩
        rw [← take_snoc_of HX.out, List.take_append_drop]
        exact HL.out
    · obtain rfl : i = r.length := by omega
      gi_wp2
      go_end0
      exact ⟨⟨_, rfl⟩, .inl ⟨cs, HL.out, by rw [List.take_of_length_le (by rw [HCL.out]; exact Nat.le_refl _)] at hji; exact hji⟩⟩
theorem All_calls (w : World) (p : Nat) : Calls Try.prog 60 #[.pointer (some ⟨p, 0, none⟩)] w fun e w' => e = .returned (.func (.func 95) #[] #[.pointer (some ⟨w.heap.size, 0, none⟩)]) ∧ w' = w.alloc (.cells #[.pointer (some ⟨p, 0, none⟩)] 28) := by
  go_enter Try.func60, Try.ntmps60
  go_wp2
  go_ret
  exact ⟨rfl, rfl⟩
end Go.Proofs.Ytiooalhfhnddjaa
end
section
set_option linter.unusedSimpArgs false
namespace Go.Proofs.Ytiooalhfhnddjaa
open Go.RowKit Go.Proofs.Ytiooalhfhnddjaa.MM Go.Proofs.Ytiooalhfhnddjaa.PX Go.Proofs.YtiooalhfhnddjaaW.PrintWords
set_option linter.unusedVariables false
theorem sorted_eq {α : Type} (R : α → α → Prop) (hR : ∀ a b, R a b → ¬ R b a) : ∀ {l m : List α}, l.Pairwise R → m.Pairwise R → (∀ x, x ∈ l ↔ x ∈ m) → l = m
  | [], [], _, _, _ => rfl
  | [], b :: m, _, _, h => absurd ((h b).2 List.mem_cons_self) (by simp)
  | a :: l, [], _, _, h => absurd ((h a).1 List.mem_cons_self) (by simp)
  | a :: l, b :: m, hl, hm, h => by
    obtain ⟨hl1, hl2⟩ := List.pairwise_cons.1 hl
    obtain ⟨hm1, hm2⟩ := List.pairwise_cons.1 hm
    have hab : a = b := by
      rcases List.mem_cons.1 ((h a).1 List.mem_cons_self) with e | h1
      · exact e
      · rcases List.mem_cons.1 ((h b).2 List.mem_cons_self) with e | h2
        · exact e.symm
        · exact absurd (hl1 _ h2) (hR _ _ (hm1 _ h1))
    subst hab
    have hirr : ∀ x, ¬ R x x := fun x hx => hR x x hx hx
    rw [sorted_eq R hR hl2 hm2 (fun x => ⟨fun hx => ?_, fun hx => ?_⟩)]
    · rcases List.mem_cons.1 ((h x).1 (List.mem_cons_of_mem _ hx)) with rfl | h1
      · exact absurd (hl1 _ hx) (hirr _)
      · exact h1
    · rcases List.mem_cons.1 ((h x).2 (List.mem_cons_of_mem _ hx)) with rfl | h1
      · exact absurd (hm1 _ hx) (hirr _)
      · exact h1
theorem tle_refl (t : Time) : tle t t = true := by simp [tle]
theorem tle_trans {a b c : Time} (h : tle a b = true) (k : tle b c = true) : tle a c = true := by
  simp only [tle, decide_eq_true_eq] at *
  omega
theorem time_ext {a b : Time} (h0 : a.f0 = b.f0) (h1 : a.f1 = b.f1) : a = b := by
  obtain ⟨a0, a1⟩ := a
  obtain ⟨b0, b1⟩ := b
  simp only at h0 h1
  rw [h0, h1]
theorem tle_antisymm {a b : Time} (h : tle a b = true) (k : tle b a = true) : a = b := by
  simp only [tle, decide_eq_true_eq] at h k
  exact time_ext (by omega) (by omega)
def leastT (L : List Time) (t : Time) : Prop := t ∈ L ∧ tgood t = true ∧ ∀ u ∈ L, tgood u = true → tle u t = true → u = t
def FrontOf (L F : List Time) : Prop := F.Pairwise (fun a b => a.f0 < b.f0) ∧ ∀ t, t ∈ F ↔ leastT L t
theorem leastT_congr {L M : List Time} (h : ∀ t, t ∈ L ↔ t ∈ M) (t : Time) : leastT L t ↔ leastT M t := by
  unfold leastT
  rw [h t]
  exact ⟨fun ⟨a, b, c⟩ => ⟨a, b, fun u hu => c u ((h u).2 hu)⟩, fun ⟨a, b, c⟩ => ⟨a, b, fun u hu => c u ((h u).1 hu)⟩⟩
theorem FrontOf.one {L M F G : List Time} (h : FrontOf L F) (k : FrontOf M G) (e : ∀ t, t ∈ L ↔ t ∈ M) : F = G := by
  refine sorted_eq (fun a b : Time => a.f0 < b.f0) (fun a b h => by omega) h.1 k.1 (fun t => ?_)
  rw [h.2, k.2, leastT_congr e]
theorem tAt_mem {L : List Time} {i : Nat} (h : i < L.length) : tAt L i ∈ L := by
  unfold tAt rd_T43
  simp [List.getD_eq_getElem?_getD, h]
theorem tAt_get {L : List Time} {t : Time} (h : t ∈ L) : ∃ i, i < L.length ∧ tAt L i = t := by
  obtain ⟨i, hi, he⟩ := List.mem_iff_getElem.1 h
  refine ⟨i, hi, ?_⟩
  unfold tAt rd_T43
  simp [List.getD_eq_getElem?_getD, hi, he]
theorem least_index {L : List Time} {t : Time} : ∀ n, n < L.length → tAt L n = t → ∃ i, i < L.length ∧ tAt L i = t ∧ ∀ j, j < i → tAt L j ≠ t := by
  intro n
  induction n using Nat.strongRecOn with
  | _ n ih =>
    intro hn he
    by_cases h : ∃ j, j < n ∧ tAt L j = t
    · obtain ⟨j, hj, hje⟩ := h
      exact ih j hj (by omega) hje
    · exact ⟨n, hn, he, fun j hj hje => h ⟨j, hj, hje⟩⟩
theorem mem_outs {L : List Time} (t : Time) : t ∈ outs L L.length ↔ leastT L t := by
  unfold outs
  rw [List.mem_map]
  constructor
  · rintro ⟨i, hi, rfl⟩
    rw [List.mem_filter, List.mem_range] at hi
    obtain ⟨hi, hk⟩ := hi
    unfold keepB at hk
    rw [Bool.and_eq_true, Bool.not_eq_true', List.any_eq_false] at hk
    refine ⟨tAt_mem hi, hk.1, fun u hu hg hle => ?_⟩
    obtain ⟨j, hj, rfl⟩ := tAt_get hu
    have := hk.2 j (List.mem_range.2 hj)
    unfold badB at this
    rw [hg, hle] at this
    simp at this
    exact this.1
  · rintro ⟨h1, h2, h3⟩
    obtain ⟨n, hn, he⟩ := tAt_get h1
    obtain ⟨i, hi, he, hmin⟩ := least_index n hn he
    refine ⟨i, ?_, he⟩
    rw [List.mem_filter, List.mem_range]
    refine ⟨hi, ?_⟩
    refine keep_yes (by rw [he]; exact h2) (fun j hj => ?_)
    unfold badB
    rw [he]
    cases hg : tgood (tAt L j) with
    | false => rfl
    | true =>
      cases hl : tle (tAt L j) t with
      | false => rfl
      | true =>
        have e1 := h3 _ (tAt_mem hj) hg hl
        have hnj : ¬ j < i := fun hji => hmin j hji e1
        simp [e1, hnj]
theorem outs_nodup (L : List Time) : (outs L L.length).Nodup := by
  unfold outs List.Nodup
  rw [List.pairwise_map, List.pairwise_filter]
  refine List.pairwise_lt_range.imp_of_mem (fun {i j} him hjm hij hi hj e => ?_)
  have hb : badB L j i = true := by
    unfold keepB at hi
    rw [Bool.and_eq_true] at hi
    unfold badB
    rw [hi.1, e, tle_refl]
    simp [hij]
  rw [keep_no (List.mem_range.1 him) hb] at hj
  cases hj
theorem FrontOf.outs {L F : List Time} (h : F.Pairwise (fun a b => a.f0 ≤ b.f0)) (hp : F.Perm (outs L L.length)) : FrontOf L F := by
  have hm : ∀ t, t ∈ F ↔ leastT L t := fun t => by rw [hp.mem_iff, mem_outs]
  refine ⟨?_, hm⟩
  have hn : F.Nodup := hp.nodup_iff.2 (outs_nodup L)
  refine (h.and hn).imp_of_mem (fun {a b} ha hb hab => ?_)
  obtain ⟨h1, h2⟩ := hab
  obtain ⟨a1, a2, a3⟩ := (hm a).1 ha
  obtain ⟨b1, b2, b3⟩ := (hm b).1 hb
  by_cases he : a.f0 = b.f0
  · by_cases hr : a.f1 ≤ b.f1
    · exact absurd (b3 a a1 a2 (by simp [tle]; omega)) h2
    · exact absurd (a3 b b1 b2 (by simp [tle]; omega)).symm h2
  · omega
theorem least_below {L : List Time} : ∀ (n : Nat) (u : Time), (u.f0 + u.f1).toNat = n → u ∈ L → tgood u = true → ∃ o, leastT L o ∧ tle o u = true := by
  intro n
  induction n using Nat.strongRecOn with
  | _ n ih =>
    intro u hn hu hg
    by_cases h : ∃ v ∈ L, tgood v = true ∧ tle v u = true ∧ v ≠ u
    · obtain ⟨v, hv, hgv, hle, hne⟩ := h
      have : (v.f0 + v.f1).toNat < n := by
        have h1 := hle
        simp only [tle, tgood, decide_eq_true_eq] at h1 hg hgv
        have : ¬ (v.f0 = u.f0 ∧ v.f1 = u.f1) := fun h => hne (time_ext h.1 h.2)
        omega
      obtain ⟨o, ho, hou⟩ := ih _ this v rfl hv hgv
      exact ⟨o, ho, tle_trans hou hle⟩
    · refine ⟨u, ⟨hu, hg, fun v hv hgv hle => ?_⟩, tle_refl u⟩
      by_cases e : v = u
      · exact e
      · exact absurd ⟨v, hv, hgv, hle, e⟩ h
def insT (t : Time) : List Time → Bool → List Time
  | [], d => if d then [] else [t]
  | o :: r, d => if tle t o then insT t r d else if !d && decide (t.f0 < o.f0) then t :: o :: insT t r true else o :: insT t r d
def covB (F : List Time) (t : Time) : Bool := F.any (fun o => tgood o && tle o t)
def stepT (F : List Time) (t : Time) : List Time := if !tgood t || covB F t then F else insT t F false
theorem mem_insT (t x : Time) : ∀ (F : List Time) (d : Bool), x ∈ insT t F d ↔ (d = false ∧ x = t) ∨ (x ∈ F ∧ tle t x = false)
  | [], d => by cases d <;> simp [insT]
  | o :: r, d => by
    unfold insT
    cases hle : tle t o with
    | true =>
      simp only [if_true]
      rw [mem_insT t x r d, List.mem_cons]
      constructor
      · rintro (h | ⟨h1, h2⟩)
        · exact .inl h
        · exact .inr ⟨.inr h1, h2⟩
      · rintro (h | ⟨rfl | h1, h2⟩)
        · exact .inl h
        · rw [hle] at h2; cases h2
        · exact .inr ⟨h1, h2⟩
    | false =>
      simp only [Bool.false_eq_true, if_false]
      by_cases hc : (!d && decide (t.f0 < o.f0)) = true
      · rw [if_pos hc, List.mem_cons, List.mem_cons, mem_insT t x r true, List.mem_cons]
        have hd : d = false := by cases d <;> simp_all
        subst hd
        constructor
        · rintro (h | rfl | ⟨h, _⟩ | ⟨h1, h2⟩)
          · exact .inl ⟨rfl, h⟩
          · exact .inr ⟨.inl rfl, hle⟩
          · cases h
          · exact .inr ⟨.inr h1, h2⟩
        · rintro (⟨_, h⟩ | ⟨rfl | h1, h2⟩)
          · exact .inl h
          · exact .inr (.inl rfl)
          · exact .inr (.inr (.inr ⟨h1, h2⟩))
      · rw [if_neg hc, List.mem_cons, mem_insT t x r d, List.mem_cons]
        constructor
        · rintro (rfl | h | ⟨h1, h2⟩)
          · exact .inr ⟨.inl rfl, hle⟩
          · exact .inl h
          · exact .inr ⟨.inr h1, h2⟩
        · rintro (h | ⟨rfl | h1, h2⟩)
          · exact .inr (.inl h)
          · exact .inl rfl
          · exact .inr (.inr ⟨h1, h2⟩)
theorem insT_sorted (t : Time) : ∀ (F : List Time) (d : Bool), F.Pairwise (fun a b => a.f0 < b.f0) → (∀ o ∈ F, tle o t = false) → (insT t F d).Pairwise (fun a b => a.f0 < b.f0)
  | [], d, _, _ => by cases d <;> simp [insT]
  | o :: r, d, h, hc => by
    obtain ⟨h1, h2⟩ := List.pairwise_cons.1 h
    have hcr : ∀ o ∈ r, tle o t = false := fun x hx => hc x (List.mem_cons_of_mem _ hx)
    have ho := hc o List.mem_cons_self
    unfold insT
    cases hle : tle t o with
    | true =>
      simp only [if_true]
      exact insT_sorted t r d h2 hcr
    | false =>
      simp only [Bool.false_eq_true, if_false]
      by_cases hd : (!d && decide (t.f0 < o.f0)) = true
      · rw [if_pos hd]
        have hlt : t.f0 < o.f0 := of_decide_eq_true (Bool.and_eq_true _ _ ▸ hd).2
        refine List.pairwise_cons.2 ⟨fun x hx => ?_, List.pairwise_cons.2 ⟨fun x hx => ?_, insT_sorted t r true h2 hcr⟩⟩
        · rcases List.mem_cons.1 hx with rfl | hx
          · exact hlt
          · rcases (mem_insT t x r true).1 hx with ⟨h, _⟩ | ⟨h, _⟩
            · cases h
            · have := h1 x h; omega
        · rcases (mem_insT t x r true).1 hx with ⟨h, _⟩ | ⟨h, _⟩
          · cases h
          · exact h1 x h
      · rw [if_neg hd]
        refine List.pairwise_cons.2 ⟨fun x hx => ?_, insT_sorted t r d h2 hcr⟩
        rcases (mem_insT t x r d).1 hx with ⟨rfl, rfl⟩ | ⟨h, _⟩
        · simp only [Bool.not_false, Bool.true_and, decide_eq_true_eq] at hd
          simp only [tle, decide_eq_false_iff_not] at hle ho
          omega
        · exact h1 x h
theorem stepT_is {L F : List Time} (h : FrontOf L F) (t : Time) : FrontOf (L ++ [t]) (stepT F t) := by
  unfold stepT
  cases hg : tgood t with
  | false =>
    rw [Bool.not_false, Bool.true_or, if_pos rfl]
    refine ⟨h.1, fun x => (h.2 x).trans ⟨fun ⟨a, b, c⟩ => ⟨List.mem_append_left _ a, b, fun u hu hgu hle => ?_⟩, fun ⟨a, b, c⟩ => ⟨?_, b, fun u hu => c u (List.mem_append_left _ hu)⟩⟩⟩
    · rcases List.mem_append.1 hu with hu | hu
      · exact c u hu hgu hle
      · rw [List.mem_singleton.1 hu, hg] at hgu; cases hgu
    · rcases List.mem_append.1 a with hu | hu
      · exact hu
      · rw [List.mem_singleton.1 hu, hg] at b; cases b
  | true =>
    rw [Bool.not_true, Bool.false_or]
    cases hc : covB F t with
    | true =>
      rw [if_pos rfl]
      unfold covB at hc
      obtain ⟨o, ho, hoc⟩ := List.any_eq_true.1 hc
      rw [Bool.and_eq_true] at hoc
      obtain ⟨o1, o2, o3⟩ := (h.2 o).1 ho
      refine ⟨h.1, fun x => (h.2 x).trans ⟨fun ⟨a, b, c⟩ => ⟨List.mem_append_left _ a, b, fun u hu hgu hle => ?_⟩, fun ⟨a, b, c⟩ => ⟨?_, b, fun u hu => c u (List.mem_append_left _ hu)⟩⟩⟩
      · rcases List.mem_append.1 hu with hu | hu
        · exact c u hu hgu hle
        · have e := List.mem_singleton.1 hu
          subst e
          have := c o o1 o2 (tle_trans hoc.2 hle)
          subst this
          exact tle_antisymm hle hoc.2
      · rcases List.mem_append.1 a with hu | hu
        · exact hu
        · have e := List.mem_singleton.1 hu
          subst e
          have := c o (List.mem_append_left _ o1) o2 hoc.2
          rw [← this]; exact o1
    | false =>
      rw [if_neg Bool.false_ne_true]
      unfold covB at hc
      have hnc : ∀ o ∈ F, tle o t = false := fun o ho => by
        have := List.any_eq_false.1 hc o ho
        have h2 := ((h.2 o).1 ho).2.1
        rw [h2] at this
        simpa using this
      refine ⟨insT_sorted t F false h.1 hnc, fun x => ?_⟩
      rw [mem_insT]
      constructor
      · rintro (⟨_, rfl⟩ | ⟨hx, hle⟩)
        · refine ⟨by simp, hg, fun u hu hgu hle => ?_⟩
          rcases List.mem_append.1 hu with hu | hu
          · obtain ⟨o, ho, hou⟩ := least_below _ u rfl hu hgu
            have := hnc o ((h.2 o).2 ho)
            rw [tle_trans hou hle] at this
            cases this
          · exact List.mem_singleton.1 hu
        · obtain ⟨a, b, c⟩ := (h.2 x).1 hx
          refine ⟨List.mem_append_left _ a, b, fun u hu hgu hlu => ?_⟩
          rcases List.mem_append.1 hu with hu | hu
          · exact c u hu hgu hlu
          · rw [List.mem_singleton.1 hu, hle] at hlu; cases hlu
      · rintro ⟨a, b, c⟩
        by_cases e : x = t
        · exact .inl ⟨rfl, e⟩
        · have hxL : x ∈ L := by
            rcases List.mem_append.1 a with hu | hu
            · exact hu
            · exact absurd (List.mem_singleton.1 hu) e
          refine .inr ⟨(h.2 x).2 ⟨hxL, b, fun u hu => c u (List.mem_append_left _ hu)⟩, ?_⟩
          cases hle : tle t x with
          | false => rfl
          | true => exact absurd (c t (by simp) hg hle).symm e
theorem FrontOf.nil : FrontOf [] [] := ⟨List.Pairwise.nil, fun t => by simp [leastT]⟩
def frontT (L : List Time) : List Time := L.foldl stepT []
theorem frontT_snoc (L : List Time) (t : Time) : frontT (L ++ [t]) = stepT (frontT L) t := by
  unfold frontT
  rw [List.foldl_append]
  rfl
theorem frontT_is (L : List Time) : FrontOf L (frontT L) :=
  snoc_ind (P := fun L => FrontOf L (frontT L)) FrontOf.nil (fun L t h => by rw [frontT_snoc]; exact stepT_is h t) L
end Go.Proofs.Ytiooalhfhnddjaa
end
section
set_option linter.unusedSimpArgs false
namespace Go.Proofs.Ytiooalhfhnddjaa
open Go.RowKit Go.Proofs.Ytiooalhfhnddjaa.MM Go.Proofs.Ytiooalhfhnddjaa.PX Go.Proofs.YtiooalhfhnddjaaW.PrintWords
set_option linter.unusedVariables false
theorem stamp_ext {a b : Stamp} (h0 : a.f0 = b.f0) (h1 : a.f1.f0 = b.f1.f0) (h2 : a.f1.f1 = b.f1.f1) : a = b := by
  obtain ⟨a0, ⟨a1, a2⟩⟩ := a
  obtain ⟨b0, ⟨b1, b2⟩⟩ := b
  simp only at h0 h1 h2
  rw [h0, h1, h2]
theorem count_ext {a b : Count} (h0 : a.f0 = b.f0) (h1 : a.f1 = b.f1) : a = b := by
  obtain ⟨a0, a1⟩ := a
  obtain ⟨b0, b1⟩ := b
  simp only at h0 h1
  rw [h0, h1]
theorem sLt_irrefl (a : Stamp) : ¬ sLt a a := by unfold sLt; omega
theorem sLt_trans {a b c : Stamp} (h : sLt a b) (k : sLt b c) : sLt a c := by unfold sLt at *; omega
theorem sLt_asymm {a b : Stamp} (h : sLt a b) : ¬ sLt b a := by unfold sLt at *; omega
theorem sLt_tri {a b : Stamp} (h : ¬ sLt a b) (hne : a ≠ b) : sLt b a := by
  have : ¬ (a.f0 = b.f0 ∧ a.f1.f0 = b.f1.f0 ∧ a.f1.f1 = b.f1.f1) := fun h => hne (stamp_ext h.1 h.2.1 h.2.2)
  unfold sLt at *
  omega
instance (a b : Stamp) : Decidable (sLt a b) := by unfold sLt; infer_instance
def Asc (cs : List Count) : Prop := cs.Pairwise (fun a b => sLt a.f0 b.f0)
def insC (c : Count) : List Count → List Count
  | [] => [c]
  | x :: r => if x.f0 = c.f0 then ⟨c.f0, c.f1 + x.f1⟩ :: r else if sLt c.f0 x.f0 then c :: x :: r else x :: insC c r
theorem tot_cons (x : Count) (L : List Count) (s : Stamp) : tot (x :: L) s = (if x.f0 = s then x.f1 else 0) + tot L s := by
  unfold tot
  by_cases h : x.f0 = s
  · rw [if_pos h, List.filter_cons_of_pos (by simpa using h)]; simp
  · rw [if_neg h, List.filter_cons_of_neg (by simpa using h)]; simp
theorem tot_none {L : List Count} {s : Stamp} (h : ∀ x ∈ L, x.f0 ≠ s) : tot L s = 0 := by
  unfold tot
  rw [List.filter_eq_nil_iff.2 (fun x hx => by simpa using h x hx)]
  rfl
theorem asc_cons {x : Count} {r : List Count} (h : Asc (x :: r)) : (∀ y ∈ r, sLt x.f0 y.f0) ∧ Asc r := List.pairwise_cons.1 h
theorem asc_tot {cs : List Count} (h : Asc cs) {c : Count} (hc : c ∈ cs) : tot cs c.f0 = c.f1 := by
  induction cs with
  | nil => cases hc
  | cons x r ih =>
    obtain ⟨h1, h2⟩ := asc_cons h
    rw [tot_cons]
    rcases List.mem_cons.1 hc with rfl | hc
    · rw [if_pos rfl, tot_none (fun y hy e => sLt_irrefl c.f0 (by have := h1 y hy; rwa [e] at this)), Int.add_zero]
    · rw [if_neg (fun e => sLt_irrefl c.f0 (by have := h1 c hc; rwa [e] at this)), ih h2 hc]; omega
theorem asc_key {cs : List Count} (h : Asc cs) {s : Stamp} (h0 : tot cs s ≠ 0) : (⟨s, tot cs s⟩ : Count) ∈ cs := by
  by_cases hx : ∃ x ∈ cs, x.f0 = s
  · obtain ⟨x, hx, rfl⟩ := hx
    rw [asc_tot h hx]
    exact hx
  · exact absurd (tot_none (fun x h1 e => hx ⟨x, h1, e⟩)) h0
theorem insC_mem {c x : Count} : ∀ {cs : List Count}, x ∈ insC c cs → x.f0 = c.f0 ∨ x ∈ cs
  | [], h => .inl (by rw [List.mem_singleton.1 h])
  | y :: r, h => by
    unfold insC at h
    split at h
    · rcases List.mem_cons.1 h with rfl | h
      · exact .inl rfl
      · exact .inr (List.mem_cons_of_mem _ h)
    · split at h
      · rcases List.mem_cons.1 h with rfl | h
        · exact .inl rfl
        · exact .inr h
      · rcases List.mem_cons.1 h with rfl | h
        · exact .inr List.mem_cons_self
        · rcases insC_mem h with h | h
          · exact .inl h
          · exact .inr (List.mem_cons_of_mem _ h)
theorem insC_asc {c : Count} : ∀ {cs : List Count}, Asc cs → Asc (insC c cs)
  | [], _ => by simp [Asc, insC]
  | y :: r, h => by
    obtain ⟨h1, h2⟩ := asc_cons h
    unfold insC
    split
    · rename_i e
      exact List.pairwise_cons.2 ⟨fun z hz => by have := h1 z hz; rw [e] at this; exact this, h2⟩
    · rename_i hne
      split
      · rename_i hlt
        exact List.pairwise_cons.2 ⟨fun z hz => by
          rcases List.mem_cons.1 hz with rfl | hz
          · exact hlt
          · exact sLt_trans hlt (h1 z hz), h⟩
      · rename_i hn
        refine List.pairwise_cons.2 ⟨fun z hz => ?_, insC_asc h2⟩
        rcases insC_mem hz with e | hz
        · rw [e]; exact sLt_tri hn (fun e => hne e.symm)
        · exact h1 z hz
theorem insC_tot (c : Count) (s : Stamp) : ∀ cs : List Count, tot (insC c cs) s = tot cs s + if c.f0 = s then c.f1 else 0
  | [] => by
    rw [insC, tot_cons]; omega
  | y :: r => by
    unfold insC
    split
    · rename_i e
      rw [tot_cons, tot_cons]
      by_cases hs : c.f0 = s
      · rw [if_pos hs, if_pos hs, if_pos (e.trans hs)]; dsimp only; omega
      · rw [if_neg hs, if_neg hs, if_neg (fun h => hs (e.symm.trans h))]; omega
    · split
      · rw [tot_cons, tot_cons]; omega
      · rw [tot_cons, tot_cons, insC_tot c s r]; omega
theorem insC_len (c : Count) : ∀ cs : List Count, (insC c cs).length ≤ cs.length + 1
  | [] => by simp [insC]
  | y :: r => by
    have := insC_len c r
    unfold insC
    split
    · simp
    · split
      · simp
      · simp only [List.length_cons]; omega
def addsC (cs L : List Count) : List Count := L.foldl (fun m c => insC c m) cs
theorem addsC_snoc (cs L : List Count) (x : Count) : addsC cs (L ++ [x]) = insC x (addsC cs L) := by
  unfold addsC
  rw [List.foldl_append]
  rfl
theorem addsC_asc {cs : List Count} (h : Asc cs) (L : List Count) : Asc (addsC cs L) :=
  snoc_ind (P := fun L => Asc (addsC cs L)) h (fun L x ih => by rw [addsC_snoc]; exact insC_asc ih) L
theorem addsC_tot (cs L : List Count) (s : Stamp) : tot (addsC cs L) s = tot cs s + tot L s := by
  refine snoc_ind (P := fun L => tot (addsC cs L) s = tot cs s + tot L s) (by rw [tot_nil]; simp [addsC]) (fun L x ih => ?_) L
  rw [addsC_snoc, insC_tot, ih, tot_snoc]
  omega
theorem addsC_len (cs L : List Count) : (addsC cs L).length ≤ cs.length + L.length := by
  refine snoc_ind (P := fun L => (addsC cs L).length ≤ cs.length + L.length) (by simp [addsC]) (fun L x ih => ?_) L
  rw [addsC_snoc]
  have := insC_len x (addsC cs L)
  simp only [List.length_append, List.length_singleton]
  omega
def tooB (c : Count) : Bool := decide (4611686018427387904 < c.f1 ∨ c.f1 < -4611686018427387904)
def leftC (cs L : List Count) : List Count := (addsC cs L).filter (fun c => decide (c.f1 ≠ 0))
def rErr (g : List Op) (cs L : List Count) : Int := if L.any (countBad g) then 1 else if (addsC cs L).any tooB then 14 else 0
def rNext (g : List Op) (cs L : List Count) : List Count := if rErr g cs L = 0 then leftC cs L else cs
structure SameC (l : List (Stamp × Int)) (cs : List Count) : Prop where
  asc : Asc cs
  tot : ∀ s, Go.Proofs.Ytiooalhfhnddjaa.tot cs s = cnt l s
  nz : ∀ c ∈ cs, c.f1 ≠ 0
theorem tot_filter_nz (L : List Count) (s : Stamp) : tot (L.filter (fun c => decide (c.f1 ≠ 0))) s = tot L s := by
  induction L with
  | nil => rfl
  | cons x r ih =>
    rw [tot_cons]
    by_cases h : x.f1 = 0
    · rw [List.filter_cons_of_neg (by simpa using h), ih, h]
      split <;> omega
    · rw [List.filter_cons_of_pos (by simpa using h), tot_cons, ih]
theorem SameC.nil : SameC [] [] := ⟨List.Pairwise.nil, fun s => rfl, fun c hc => by cases hc⟩
theorem rErr_is {g : List Op} {l : List (Stamp × Int)} {cs : List Count} (h : SameC l cs) (ht : Tidy l) (L : List Count) : rErr g cs L = updErr g l L := by
  unfold rErr updErr
  have : (addsC cs L).any tooB = L.any (over l L) := by
    rw [Bool.eq_iff_iff, List.any_eq_true, List.any_eq_true]
    constructor
    · rintro ⟨c, hc, hb⟩
      have h1 := asc_tot (addsC_asc h.asc L) hc
      rw [addsC_tot, h.tot] at h1
      unfold tooB at hb
      have hbd := ht.bd c.f0
      rw [decide_eq_true_eq] at hb
      have h0 : tot L c.f0 ≠ 0 := fun e => by omega
      by_cases hx : ∃ x ∈ L, x.f0 = c.f0
      · obtain ⟨x, hx, e⟩ := hx
        refine ⟨x, hx, ?_⟩
        unfold over
        rw [e, h1]
        simpa using hb
      · exact absurd (tot_none (fun x h1 e => hx ⟨x, h1, e⟩)) h0
    · rintro ⟨x, hx, hb⟩
      unfold over at hb
      rw [decide_eq_true_eq] at hb
      have h1 : tot (addsC cs L) x.f0 = cnt l x.f0 + tot L x.f0 := by rw [addsC_tot, h.tot]
      refine ⟨_, asc_key (addsC_asc h.asc L) (s := x.f0) (by omega), ?_⟩
      unfold tooB
      rw [h1]
      simpa using hb
  rw [this]
theorem SameC.next {g : List Op} {l l' : List (Stamp × Int)} {cs L : List Count} (h : SameC l cs) (hl : ∀ s, l'.lookup s = Go.Proofs.Ytiooalhfhnddjaa.nz (cnt l s + Go.Proofs.Ytiooalhfhnddjaa.tot L s)) : SameC l' (leftC cs L) := by
  refine ⟨List.Pairwise.sublist List.filter_sublist (addsC_asc h.asc L), fun s => ?_, fun c hc => ?_⟩
  · unfold leftC
    rw [tot_filter_nz, addsC_tot, h.tot]
    unfold cnt
    rw [hl]
    exact (nz_getD _).symm
  · have := (List.mem_filter.1 hc).2
    simpa using this
theorem mem_sameC {l : List (Stamp × Int)} {cs : List Count} (h : SameC l cs) (c : Count) : c ∈ cs ↔ cnt l c.f0 = c.f1 ∧ c.f1 ≠ 0 := by
  constructor
  · intro hc
    rw [← h.tot, asc_tot h.asc hc]
    exact ⟨rfl, h.nz c hc⟩
  · rintro ⟨h1, h2⟩
    have := asc_key h.asc (s := c.f0) (by rw [h.tot, h1]; exact h2)
    rw [h.tot, h1] at this
    exact this
theorem mem_tidy {l : List (Stamp × Int)} (ht : Tidy l) (s : Stamp) : s ∈ l.map Prod.fst ↔ cnt l s ≠ 0 := by
  rw [← lookup_isSome, ht.look s]
  unfold Go.Proofs.Ytiooalhfhnddjaa.nz
  split <;> simp_all
theorem listed_is {l : List (Stamp × Int)} {cs ys : List Count} (h : SameC l cs) (ht : Tidy l) (hy : Listed l ys) : ys = cs := by
  obtain ⟨h1, h2, h3⟩ := hy
  have hn : (ys.map fun c => c.f0).Nodup := h1.nodup_iff.2 ht.keys
  refine sorted_eq (fun a b : Count => sLt a.f0 b.f0) (fun a b => sLt_asymm) ?_ h.asc (fun c => ?_)
  · have h4 := List.pairwise_map.1 (h2.and hn)
    exact h4.imp (fun {a b} h => by
      have := sLt_tri (a := b.f0) (b := a.f0) h.1 (fun e => h.2 e.symm)
      exact this)
  · rw [mem_sameC h]
    constructor
    · intro hc
      have h5 := h3 c hc
      have h6 : c.f0 ∈ l.map Prod.fst := h1.mem_iff.1 (List.mem_map.2 ⟨c, hc, rfl⟩)
      have h7 := (mem_tidy ht c.f0).1 h6
      exact ⟨h5.symm, by rw [h5]; exact h7⟩
    · rintro ⟨h5, h6⟩
      have h7 : c.f0 ∈ l.map Prod.fst := (mem_tidy ht c.f0).2 (by rw [h5]; exact h6)
      obtain ⟨d, hd, he⟩ := List.mem_map.1 (h1.mem_iff.2 h7)
      have h8 := h3 d hd
      have : d = c := count_ext he (by rw [h8, he, h5])
      rw [← this]
      exact hd
def upC (cs : List Count) : List Stamp := (cs.filter fun c => decide (0 < c.f1)).map fun c => c.f0
theorem mem_upC {l : List (Stamp × Int)} {cs : List Count} (h : SameC l cs) (ht : Tidy l) (s : Stamp) : s ∈ upC cs ↔ s ∈ up l := by
  unfold upC up
  rw [List.mem_map, List.mem_map]
  constructor
  · rintro ⟨c, hc, rfl⟩
    obtain ⟨h1, h2⟩ := List.mem_filter.1 hc
    obtain ⟨h3, h4⟩ := (mem_sameC h c).1 h1
    have h5 := (mem_tidy ht c.f0).2 (by rw [h3]; exact h4)
    obtain ⟨q, hq, he⟩ := List.mem_map.1 h5
    have h6 := cnt_mem ht.keys hq
    refine ⟨q, List.mem_filter.2 ⟨hq, ?_⟩, he⟩
    rw [← h6, he, h3]
    exact h2
  · rintro ⟨q, hq, rfl⟩
    obtain ⟨h1, h2⟩ := List.mem_filter.1 hq
    have h6 := cnt_mem ht.keys h1
    have h7 := of_decide_eq_true h2
    refine ⟨⟨q.1, q.2⟩, List.mem_filter.2 ⟨(mem_sameC h _).2 ⟨h6, ?_⟩, h2⟩, rfl⟩
    show q.2 ≠ 0
    omega
def AllGood (g : List Op) (l : List (Stamp × Int)) : Prop := ∀ q ∈ l, goodB g q.1 = true
theorem AllGood.inG {g : List Op} {l : List (Stamp × Int)} (h : AllGood g l) : InG g.length l := fun q hq => goodB_loc (h q hq)
theorem done_is {g : List Op} {l : List (Stamp × Int)} {cs : List Count} (h : SameC l cs) (ht : Tidy l) (hg : AllGood g l) (s : Stamp) : doneB g (waysOf g) l s = (goodB g s && !(upC cs).any (fun a => couldB g a s)) := by
  unfold doneB
  cases hs : goodB g s with
  | false => rfl
  | true =>
    rw [Bool.true_and, Bool.true_and]
    congr 1
    rw [Bool.eq_iff_iff, List.any_eq_true, List.any_eq_true]
    have hb : ∀ a ∈ up l, bars (waysOf g) s a = couldB g a s := fun a ha => by
      obtain ⟨n, hn, _⟩ := up_mem ha
      have hga := hg _ hn
      simp only at hga
      unfold bars couldB
      rw [hga, hs, ways_at (goodB_loc hga) (goodB_loc hs)]
      by_cases e : a.f0 = s.f0
      · rw [if_pos e, if_pos e]
        unfold tle
        by_cases h1 : a.f1.f0 ≤ s.f1.f0 <;> by_cases h2 : a.f1.f1 ≤ s.f1.f1 <;> simp [h1, h2]
      · rw [if_neg e, if_neg e]; rfl
    constructor
    · rintro ⟨a, ha, hx⟩
      exact ⟨a, (mem_upC h ht a).2 ha, by rw [← hb a ha]; exact hx⟩
    · rintro ⟨a, ha, hx⟩
      have ha' := (mem_upC h ht a).1 ha
      exact ⟨a, ha', by rw [hb a ha']; exact hx⟩
theorem Tidy.next {g : List Op} {l l' : List (Stamp × Int)} {L : List Count} (ht : Tidy l) (hk : Keys1 l') (hl : ∀ s, l'.lookup s = Go.Proofs.Ytiooalhfhnddjaa.nz (cnt l s + Go.Proofs.Ytiooalhfhnddjaa.tot L s)) (he : updErr g l L = 0) : Tidy l' := by
  have hc : ∀ s, cnt l' s = cnt l s + Go.Proofs.Ytiooalhfhnddjaa.tot L s := fun s => by unfold cnt; rw [hl s]; exact nz_getD _
  refine ⟨hk, fun s => ?_, fun s => ?_⟩
  · rw [hl s]
    unfold Go.Proofs.Ytiooalhfhnddjaa.nz
    split
    · exact fun h => by cases h
    · rename_i h0
      intro h
      injection h with h
      exact h0 h
  · rw [hc s]
    by_cases hx : ∃ x ∈ L, x.f0 = s
    · obtain ⟨x, hx, rfl⟩ := hx
      unfold updErr at he
      split at he
      · cases he
      · split at he
        · cases he
        · rename_i h1
          have := List.any_eq_false.1 (Bool.eq_false_iff.2 h1) x hx
          unfold over at this
          rw [decide_eq_true_eq] at this
          omega
    · rw [tot_none (fun x h1 e => hx ⟨x, h1, e⟩)]
      have := ht.bd s
      omega
theorem AllGood.next {g : List Op} {l l' : List (Stamp × Int)} {L : List Count} (hg : AllGood g l) (hk : Keys1 l') (hl : ∀ s, l'.lookup s = nz (cnt l s + tot L s)) (he : updErr g l L = 0) : AllGood g l' := by
  intro q hq
  have h1 := (lookup_mem hk (k := q.1) (v := q.2)).1 hq
  rw [hl] at h1
  have h2 : cnt l q.1 + tot L q.1 ≠ 0 := fun e => by rw [e] at h1; cases h1
  by_cases hx : ∃ x ∈ L, x.f0 = q.1
  · obtain ⟨x, hx, e⟩ := hx
    unfold updErr at he
    split at he
    · cases he
    · rename_i h3
      have := (countBad_false (by simpa using List.any_eq_false.1 (Bool.eq_false_iff.2 h3) x hx)).2.2
      rw [← e]
      exact this
  · rw [tot_none (fun x h1 e => hx ⟨x, h1, e⟩), Int.add_zero] at h2
    have h4 : (l.lookup q.1).isSome = true := by
      unfold cnt at h2
      cases hh : l.lookup q.1 with
      | none => rw [hh] at h2; exact absurd rfl h2
      | some v => rfl
    obtain ⟨p, hp, e⟩ := List.mem_map.1 (lookup_isSome.1 h4)
    rw [← e]
    exact hg p hp
end Go.Proofs.Ytiooalhfhnddjaa
end
section
set_option linter.unusedSimpArgs false
namespace Go.Proofs.Ytiooalhfhnddjaa
open Go.RowKit Go.Proofs.Ytiooalhfhnddjaa.MM Go.Proofs.Ytiooalhfhnddjaa.PX Go.Proofs.YtiooalhfhnddjaaW.PrintWords
set_option linter.unusedVariables false
theorem zero_is (f0 : Int) (f1 : List Int) (f2 f3 f4 f5 f6 : Int) : millraceref11_zero.f f0 f1 f2 f3 f4 f5 f6 = some (decide (f3 = 0 ∧ f4 = 0 ∧ f5 = 0 ∧ f6 = 0)) := by
  unfold millraceref11_zero.f
  by_cases a : f3 = 0 <;> by_cases b : f4 = 0 <;> by_cases c : f5 = 0 <;> simp [a, b, c] <;> rfl
theorem ite_dec {p : Prop} [Decidable p] (b : Bool) : (if p then some b else some false) = some (decide p && b) := by
  by_cases h : p <;> simp [h]
theorem refform_is (k : Nat) (o : Op) : millraceref11_form.f (k + 1 + 1) o.f0 o.f1 o.f2 o.f3 o.f4 o.f5 o.f6 = some (formB o) := by
  obtain ⟨f0, f1, f2, f3, f4, f5, f6⟩ := o
  unfold millraceref11_form.f formB zeroB zero3
  simp only [millraceref11_form.j0, millraceref11_form.j1, zero_is, Option.bind_some, ite_dec, beq_iff_eq]
  by_cases h1 : f0 = 1; · simp [h1, Bool.and_assoc]
  by_cases h2 : f0 = 2; · simp [h2, Bool.and_assoc]
  by_cases h3 : f0 = 3; · simp [h3, Bool.and_assoc]
  by_cases h4 : f0 = 4; · simp [h4, Bool.and_assoc]
  by_cases h5 : f0 = 5; · simp [h5, Bool.and_assoc]
  by_cases h6 : f0 = 6; · simp [h6, Bool.and_assoc]
  by_cases h7 : f0 = 7
  · subst h7
    simp [Bool.and_assoc]
  by_cases h8 : f0 = 8; · simp [h8, Bool.and_assoc]
  simp [h1, h2, h3, h4, h5, h6, h7, h8]
theorem want_is (a : Int) : millraceref11_want.f a = some (wantN a) := by
  unfold millraceref11_want.f wantN
  split
  · rfl
  · split
    · rename_i h; simp [h]
    · split
      · rename_i h; simp [h]
      · rw [if_neg (by omega)]
theorem ref_l1 (n i : Int) (g : List Op) (f0 : Int) (f1 : List Int) (f2 f3 f4 f5 f6 : Int) (hl : f1.length ≤ 1000000000) (K : Nat) : ∀ (m j : Nat), j + m = f1.length → ∀ x7 : Bool,
    millraceref11_Check.l1 (K + 1 + m) n i x7 (j : Int) g f0 f1 f2 f3 f4 f5 f6 = if (x7 && (f1.drop j).all (fun x => decide (0 ≤ x ∧ x < i))) = true then millraceref11_Check.l0 K n (wrap64 (i + 1)) g else some (i, 13) := by
  intro m
  induction m with
  | zero =>
    intro j hj x7
    rw [Nat.add_zero, millraceref11_Check.l1, if_neg (by omega), List.drop_eq_nil_of_le (by omega)]
    simp
  | succ m ih =>
    intro j hj x7
    rw [show K + 1 + (m + 1) = (K + 1 + m) + 1 by omega, millraceref11_Check.l1, if_pos (by omega), IntWalk.wrap64_in ((j : Int) + 1) (by omega)]
    have h1 := ih (j + 1) (by omega)
    rw [show ((j + 1 : Nat) : Int) = (j : Int) + 1 by omega] at h1
    simp only [h1]
    have hd : f1.drop j = rd f1 (j : Int) :: f1.drop (j + 1) := by
      have hlt : j < f1.length := by omega
      rw [List.drop_eq_getElem_cons hlt]
      simp [rd, List.getD_eq_getElem?_getD, hlt]
    rw [hd, List.all_cons]
    cases x7
    · simp
    · by_cases h2 : 0 ≤ rd f1 (j : Int)
      · by_cases h3 : rd f1 (j : Int) < i <;> simp [h2, h3]
      · simp [h2]
theorem ref_l0 (g : List Op) (hg : g.length ≤ 16) (hil : ∀ o ∈ g, o.f1.length ≤ 1000000000) : ∀ (m j : Nat), j + m = g.length → ∃ k, millraceref11_Check.l0 k (g.length : Int) (j : Int) g = some (match firstBad g.length (g.drop j) j with
    | none => (0, 0)
    | some i => (i, 13)) := by
  intro m
  induction m with
  | zero =>
    intro j hj
    refine ⟨1, ?_⟩
    rw [millraceref11_Check.l0, if_neg (by omega), List.drop_eq_nil_of_le (by omega)]
    rfl
  | succ m ih =>
    intro j hj
    obtain ⟨K, hK⟩ := ih (j + 1) (by omega)
    have hlt : j < g.length := by omega
    have hd : g.drop j = rd_T95 g (j : Int) :: g.drop (j + 1) := by
      rw [List.drop_eq_getElem_cons hlt]
      simp [rd_T95, List.getD_eq_getElem?_getD, hlt]
    have hol : (rd_T95 g (j : Int)).f1.length ≤ 1000000000 := hil _ (by
      have : rd_T95 g (j : Int) ∈ g.drop j := by rw [hd]; exact List.mem_cons_self
      exact List.mem_of_mem_drop this)
    rw [hd, firstBad]
    have hj2 : ∀ x7, millraceref11_Check.j2 (K + (rd_T95 g (j : Int)).f1.length + 1 + 1) (g.length : Int) (j : Int) x7 g (rd_T95 g (j : Int)).f0 (rd_T95 g (j : Int)).f1 (rd_T95 g (j : Int)).f2 (rd_T95 g (j : Int)).f3 (rd_T95 g (j : Int)).f4 (rd_T95 g (j : Int)).f5 (rd_T95 g (j : Int)).f6 = if (x7 && (rd_T95 g (j : Int)).f1.all (fun x => decide (0 ≤ x ∧ x < (j : Int)))) = true then millraceref11_Check.l0 K (g.length : Int) ((j : Int) + 1) g else some ((j : Int), 13) := by
      intro x7
      have := ref_l1 (g.length : Int) (j : Int) g (rd_T95 g (j : Int)).f0 _ (rd_T95 g (j : Int)).f2 (rd_T95 g (j : Int)).f3 (rd_T95 g (j : Int)).f4 (rd_T95 g (j : Int)).f5 (rd_T95 g (j : Int)).f6 hol K _ 0 (Nat.zero_add _) x7
      rw [List.drop_zero, IntWalk.wrap64_in ((j : Int) + 1) (by omega), show K + 1 + (rd_T95 g (j : Int)).f1.length = K + (rd_T95 g (j : Int)).f1.length + 1 by omega] at this
      rw [millraceref11_Check.j2]
      exact this
    refine ⟨K + (rd_T95 g (j : Int)).f1.length + 1 + 1 + 1, ?_⟩
    rw [millraceref11_Check.l0, if_pos (by omega), if_pos (by omega), if_pos (by omega), refform_is]
    simp only [Option.bind_some, want_is, hj2, IntWalk.wrap64_in ((g.length : Int) - 1) (by omega)]
    rw [show ((j + 1 : Nat) : Int) = (j : Int) + 1 by omega] at hK
    rw [hK]
    unfold opOk
    cases hf : formB (rd_T95 g (j : Int))
    · simp
    · by_cases hw : ((rd_T95 g (j : Int)).f1.length : Int) = wantN (rd_T95 g (j : Int)).f0
      · simp only [hw, decide_true, Bool.true_and, if_true, Bool.and_eq_true]
        split <;> simp_all
      · simp [hw]
theorem ref_Check_is (g : List Op) (hil : ∀ o ∈ g, o.f1.length ≤ 1000000000) : ∃ k, millraceref11_Check.f k g = some ((chk g).1, (chk g).2) := by
  unfold millraceref11_Check.f chk
  by_cases h1 : (g.length : Int) < 1
  · refine ⟨1, ?_⟩
    rw [if_pos h1, millraceref11_Check.j0, if_pos rfl, if_pos (.inl h1)]
  · by_cases h2 : (g.length : Int) > 16
    · refine ⟨1, ?_⟩
      rw [if_neg h1, decide_eq_true h2, millraceref11_Check.j0, if_pos rfl, if_pos (.inr h2)]
    · obtain ⟨k, hk⟩ := ref_l0 g (by omega) hil g.length 0 (Nat.zero_add _)
      refine ⟨k + 1, ?_⟩
      rw [if_neg h1, decide_eq_false h2, millraceref11_Check.j0, if_neg Bool.false_ne_true, if_neg (by omega)]
      rw [show ((0 : Nat) : Int) = 0 from rfl, List.drop_zero] at hk
      rw [hk]
      exact rfl
end Go.Proofs.Ytiooalhfhnddjaa
end
section
set_option linter.unusedSimpArgs false
namespace Go.Proofs.Ytiooalhfhnddjaa
open Go.RowKit Go.Proofs.Ytiooalhfhnddjaa.MM Go.Proofs.Ytiooalhfhnddjaa.PX Go.Proofs.YtiooalhfhnddjaaW.PrintWords
set_option linter.unusedVariables false
theorem ref_Good_is (g : List Op) (hil : ∀ o ∈ g, o.f1.length ≤ 1000000000) (s : Stamp) : ∃ k, millraceref17_Good.f k g s.f0 s.f1.f0 s.f1.f1 = some (goodB g s) := by
  obtain ⟨k, hk⟩ := ref_Check_is g hil
  have hk1 := millraceref11_Check.mono g k _ hk
  refine ⟨k + 1, ?_⟩
  unfold millraceref17_Good.f millraceref16_Good.f
  rw [hk1]
  simp only [Option.bind_some, millraceref17_Good.j0, if_true]
  unfold goodB
  by_cases hc : (chk g).2 = 0
  · have hok : okg g = true := by simp [okg, hc]
    rw [if_pos hc, hok, Bool.true_and]
    by_cases h0 : s.f0 < 0
    · rw [if_pos h0, decide_eq_false (by omega)]
    · rw [if_neg h0]
      by_cases h1 : s.f0 ≥ (g.length : Int)
      · rw [if_pos h1, decide_eq_false (by omega)]
      · rw [if_neg h1]
        have hform := okg_form hok (i := s.f0) (by omega) (by omega)
        have hk7 : (opAt g s.f0).f0 = 7 → 1 ≤ (opAt g s.f0).f4 ∧ (opAt g s.f0).f4 ≤ 16 := by
          intro h7
          unfold formB at hform
          simp [h7] at hform
          omega
        rw [if_pos (by omega : 0 ≤ s.f0), if_pos (by omega : s.f0 < (g.length : Int))]
        change (Option.bind _ fun t145 => if (!t145) = true then some false else if (opAt g s.f0).f0 = 7 then some (decide (s.f1.f1 ≤ wrap64 ((opAt g s.f0).f4 - 1))) else some (decide (s.f1.f1 ≤ 0))) = _
        unfold most
        by_cases h2 : s.f1.f0 ≥ 0
        · rw [if_pos h2]
          simp only [Option.bind_some]
          by_cases h3 : s.f1.f1 ≥ 0
          · rw [decide_eq_true h3]
            by_cases h7 : (opAt g s.f0).f0 = 7
            · have := hk7 h7
              rw [if_pos h7, if_pos h7, IntWalk.wrap64_in _ (by omega)]
              simp only [Bool.not_true, Bool.false_eq_true, if_false]
              congr 1
              rw [decide_eq_decide]
              omega
            · rw [if_neg h7, if_neg h7]
              simp only [Bool.not_true, Bool.false_eq_true, if_false]
              congr 1
              rw [decide_eq_decide]
              omega
          · rw [decide_eq_false h3]
            simp only [Bool.not_false, if_true]
            congr 1
            rw [eq_comm, decide_eq_false_iff_not]
            omega
        · rw [if_neg h2]
          simp only [Option.bind_some, Bool.not_false, if_true]
          congr 1
          rw [eq_comm, decide_eq_false_iff_not]
          omega
  · have hok : okg g = false := by simp [okg, hc]
    rw [if_neg hc, hok, Bool.false_and]
theorem reach_up {g : List Op} {a b : Int} {r : Bool} : ∀ (d k : Nat), millraceref11_Reach.f k g a b = some r → millraceref11_Reach.f (k + d) g a b = some r
  | 0, _, h => h
  | d + 1, k, h => (millraceref11_Reach.mono_l (k + d)).1 _ _ _ r (reach_up d k h)
theorem reach_up0 {g : List Op} {a b j : Int} {r : Bool} : ∀ (d k : Nat), millraceref11_Reach.l0 k a b j g = some r → millraceref11_Reach.l0 (k + d) a b j g = some r
  | 0, _, h => h
  | d + 1, k, h => (millraceref11_Reach.mono_l (k + d)).2 _ _ _ _ r (reach_up0 d k h)
theorem ref_Reach_is {g : List Op} (h : okg g = true) (hil : ∀ o ∈ g, o.f1.length ≤ 1000000000) (a : Int) : ∀ b : Nat, b < g.length → ∃ k, millraceref11_Reach.f k g a (b : Int) = some (reachB g a (b : Int)) := by
  intro b
  induction b using Nat.strongRecOn with
  | _ b ih =>
    intro hb
    rw [reachB_step h a hb]
    have hgo : ∀ (m j : Nat), j + m = (opAt g (b : Int)).f1.length → ∃ k, millraceref11_Reach.l0 k a (b : Int) (j : Int) g = some (((opAt g (b : Int)).f1.drop j).any (fun x => reachB g a x)) := by
      have hin := okg_in h (opAt_get hb)
      have hol := hil _ (List.mem_of_getElem? (opAt_get hb))
      intro m
      induction m with
      | zero =>
        intro j hj
        refine ⟨1, ?_⟩
        rw [millraceref11_Reach.l0, if_pos (by omega), if_pos (by omega)]
        change (if (j : Int) < ((opAt g (b : Int)).f1.length : Int) then _ else some false) = _
        rw [if_neg (by omega), List.drop_eq_nil_of_le (by omega)]
        rfl
      | succ m ihm =>
        intro j hj
        have hd : (opAt g (b : Int)).f1.drop j = rd (opAt g (b : Int)).f1 (j : Int) :: (opAt g (b : Int)).f1.drop (j + 1) := by
          have hlt : j < (opAt g (b : Int)).f1.length := by omega
          rw [List.drop_eq_getElem_cons hlt]
          simp [rd, List.getD_eq_getElem?_getD, hlt]
        have hx := hin (rd (opAt g (b : Int)).f1 (j : Int)) (by
          have : rd (opAt g (b : Int)).f1 (j : Int) ∈ (opAt g (b : Int)).f1.drop j := by rw [hd]; exact List.mem_cons_self
          exact List.mem_of_mem_drop this)
        obtain ⟨y, hy⟩ := Int.eq_ofNat_of_zero_le hx.1
        obtain ⟨k1, hk1⟩ := ih y (by omega) (by omega)
        obtain ⟨k2, hk2⟩ := ihm (j + 1) (by omega)
        refine ⟨k1 + k2 + 1, ?_⟩
        rw [millraceref11_Reach.l0, if_pos (by omega), if_pos (by omega)]
        change (if (j : Int) < ((opAt g (b : Int)).f1.length : Int) then (if 0 ≤ (j : Int) then ((millraceref11_Reach.f (k1 + k2) g a (rd (opAt g (b : Int)).f1 (j : Int))).bind fun t152 => (if t152 = true then (some true) else (millraceref11_Reach.l0 (k1 + k2) a (b : Int) (wrap64 ((j : Int) + 1)) g))) else none) else some false) = _
        rw [if_pos (by omega), if_pos (by omega), IntWalk.wrap64_in ((j : Int) + 1) (by omega), hd, List.any_cons, hy, reach_up k2 k1 hk1]
        rw [show ((j + 1 : Nat) : Int) = (j : Int) + 1 by omega] at hk2
        rw [show k1 + k2 = k2 + k1 by omega, reach_up0 k1 k2 hk2]
        simp only [Option.bind_some]
        cases reachB g a (y : Int) <;> simp
    obtain ⟨k, hk⟩ := hgo _ 0 (Nat.zero_add _)
    refine ⟨k + 1, ?_⟩
    rw [millraceref11_Reach.f]
    by_cases h1 : a = (b : Int)
    · rw [if_pos h1, if_pos h1]
    · rw [if_neg h1, if_neg h1]
      by_cases h2 : (b : Int) < a
      · rw [if_pos h2, if_pos h2]
      · rw [if_neg h2, if_neg h2]
        rw [List.drop_zero] at hk
        exact hk
theorem goodB_loc2 {g : List Op} {s : Stamp} (h : goodB g s = true) : 0 ≤ s.f0 ∧ s.f0 < g.length := by
  unfold goodB at h
  simp only [Bool.and_eq_true, decide_eq_true_eq] at h
  exact ⟨h.2.1, h.2.2.1⟩
theorem ref_Could_is (g : List Op) (hil : ∀ o ∈ g, o.f1.length ≤ 1000000000) (a b : Stamp) : ∃ k, millraceref17_Could.f k g a.f0 a.f1.f0 a.f1.f1 b.f0 b.f1.f0 b.f1.f1 = some (couldB g a b) := by
  obtain ⟨k1, h1⟩ := ref_Good_is g hil a
  obtain ⟨k2, h2⟩ := ref_Good_is g hil b
  have up : ∀ (d k : Nat) (s : Stamp) (r : Bool), millraceref17_Good.f k g s.f0 s.f1.f0 s.f1.f1 = some r → millraceref17_Good.f (k + d) g s.f0 s.f1.f0 s.f1.f1 = some r := by
    intro d
    induction d with
    | zero => intro k s r h; exact h
    | succ d ih => intro k s r h; exact millraceref17_Good.mono _ _ _ _ _ r (ih k s r h)
  unfold couldB
  cases ha : goodB g a with
  | false =>
    rw [ha] at h1
    refine ⟨k1 + 1, ?_⟩
    unfold millraceref17_Could.f
    rw [up 1 k1 a _ h1]
    simp [millraceref17_Could.j0]
  | true =>
    rw [ha] at h1
    have hg : okg g = true := by unfold goodB at ha; simp at ha; exact ha.1
    have hbl := goodB_loc2 ha
    cases hb : goodB g b with
    | false =>
      rw [hb] at h2
      refine ⟨k1 + k2 + 1, ?_⟩
      unfold millraceref17_Could.f
      rw [show k1 + k2 + 1 = k1 + (k2 + 1) by omega, up (k2 + 1) k1 a _ h1, show k1 + (k2 + 1) = k2 + (k1 + 1) by omega, up (k1 + 1) k2 b _ h2]
      simp [millraceref17_Could.j0]
    | true =>
      rw [hb] at h2
      have hbl := goodB_loc2 hb
      obtain ⟨y, hy⟩ := Int.eq_ofNat_of_zero_le hbl.1
      obtain ⟨k3, h3⟩ := ref_Reach_is hg hil a.f0 y (by omega)
      refine ⟨k1 + k2 + k3 + 1, ?_⟩
      unfold millraceref17_Could.f
      rw [show k1 + k2 + k3 + 1 = k1 + (k2 + k3 + 1) by omega, up _ k1 a _ h1, show k1 + (k2 + k3 + 1) = k2 + (k1 + k3 + 1) by omega, up _ k2 b _ h2]
      rw [show k2 + (k1 + k3 + 1) = k3 + (k1 + k2) + 1 by omega]
      simp only [Option.bind_some, if_true, Bool.not_true, millraceref17_Could.j0, Bool.false_eq_true, if_false, Bool.true_and]
      rw [hy, reach_up _ k3 h3]
      unfold millraceref16_Le.f tle
      by_cases e : a.f0 = (y : Int)
      · rw [if_pos e, if_pos e]
        by_cases l1 : a.f1.f0 > b.f1.f0
        · rw [if_pos l1]; simp; omega
        · rw [if_neg l1]
          simp only [Option.bind_some, Option.some.injEq]
          by_cases l2 : a.f1.f1 > b.f1.f1
          · rw [decide_eq_true l2, decide_eq_false (by omega)]; rfl
          · rw [decide_eq_false l2, decide_eq_true (by omega)]; rfl
      · rw [if_neg e, if_neg e]
        simp only [Option.bind_some]
        cases reachB g a.f0 (y : Int) <;> simp
end Go.Proofs.Ytiooalhfhnddjaa
end
section
set_option linter.unusedVariables false
set_option linter.unusedSimpArgs false
namespace Go.Proofs.Ytiooalhfhnddjaa
open Go.RowKit Go.Proofs.Ytiooalhfhnddjaa.MM Go.Proofs.Ytiooalhfhnddjaa.PX Go.Proofs.YtiooalhfhnddjaaW.PrintWords
theorem r16_Good (a b : Int) : millraceref16_Good.f a b = some (tgood ⟨a, b⟩) := by
  unfold millraceref16_Good.f tgood
  by_cases h0 : 0 ≤ a <;> by_cases h1 : 0 ≤ b <;> simp [h0, h1]
theorem r16_Le (a b c d : Int) : millraceref16_Le.f a b c d = some (tle ⟨a, b⟩ ⟨c, d⟩) := by
  unfold millraceref16_Le.f tle
  by_cases h0 : a > c <;> by_cases h1 : b > d <;> simp [h0, h1] <;> omega
theorem drop_rdT {L : List Time} {j : Nat} (h : j < L.length) : L.drop j = rd_T43 L (j : Int) :: L.drop (j + 1) := by
  rw [List.drop_eq_getElem_cons h]
  simp [rd_T43, List.getD_eq_getElem?_getD, h]
theorem take_rdT {L : List Time} {j : Nat} (h : j < L.length) : L.take (j + 1) = L.take j ++ [rd_T43 L (j : Int)] := by
  rw [List.take_succ_eq_append_getElem h]
  simp [rd_T43, List.getD_eq_getElem?_getD, h]
theorem r16_Covers_l (F : List Time) (hF : F.length ≤ 2000000000) (a b : Int) : ∀ (m j : Nat), j + m = F.length → Ev (fun k => millraceref16_Covers.l0 k F (j : Int) a b) ((F.drop j).any (fun o => tgood o && tle o ⟨a, b⟩)) := by
  intro m
  induction m with
  | zero =>
    intro j hj
    refine Ev.step (f := fun _ => some false) (fun k => ?_) ?_
    · rw [millraceref16_Covers.l0, if_neg (by omega)]
    · rw [List.drop_eq_nil_of_le (by omega)]; exact Ev.now _
  | succ m ih =>
    intro j hj
    have h1 := ih (j + 1) (by omega)
    have hw : wrap64 ((j : Int) + 1) = ((j + 1 : Nat) : Int) := by rw [IntWalk.wrap64_in _ (by omega)]; omega
    rw [drop_rdT (by omega), List.any_cons]
    cases hc : tgood (rd_T43 F (j : Int)) && tle (rd_T43 F (j : Int)) ⟨a, b⟩ with
    | true =>
      rw [Bool.and_eq_true] at hc
      refine Ev.step (f := fun _ => some true) (fun k => ?_) (Ev.now _)
      rw [millraceref16_Covers.l0, if_pos (by omega), if_pos (by omega), r16_Good, Option.bind_some, hc.1, if_pos rfl, r16_Le, Option.bind_some, hc.2, if_pos rfl]
    | false =>
      refine Ev.step (fun k => ?_) h1
      rw [millraceref16_Covers.l0, if_pos (by omega), if_pos (by omega), r16_Good, Option.bind_some, hw]
      cases hg : tgood (rd_T43 F (j : Int)) with
      | false => rw [if_neg Bool.false_ne_true]
      | true =>
        rw [hg, Bool.true_and] at hc
        rw [if_pos rfl, r16_Le, Option.bind_some, hc, if_neg Bool.false_ne_true]
theorem r16_Covers (F : List Time) (hF : F.length ≤ 2000000000) (a b : Int) : Ev (fun k => millraceref16_Covers.f k F a b) (covB F ⟨a, b⟩) := by
  have := r16_Covers_l F hF a b F.length 0 (Nat.zero_add _)
  rw [List.drop_zero] at this
  exact this
theorem insT_len (t : Time) : ∀ (F : List Time) (d : Bool), (insT t F d).length ≤ F.length + 1
  | [], d => by cases d <;> simp [insT]
  | o :: r, d => by
    have h1 := insT_len t r d
    have h2 : (insT t r true).length ≤ r.length := by
      have : ∀ r : List Time, (insT t r true).length ≤ r.length := by
        intro r
        induction r with
        | nil => simp [insT]
        | cons o r ih =>
          unfold insT
          split
          · simp only [List.length_cons]; omega
          · simp only [Bool.not_true, Bool.false_and, Bool.false_eq_true, if_false, List.length_cons]; omega
      exact this r
    unfold insT
    split
    · simp only [List.length_cons]; omega
    · split
      · simp only [List.length_cons]; omega
      · simp only [List.length_cons]; omega
theorem frontT_len (L : List Time) : (frontT L).length ≤ L.length := by
  refine snoc_ind (P := fun L => (frontT L).length ≤ L.length) (Nat.le_refl _) (fun L t ih => ?_) L
  rw [frontT_snoc, List.length_append, List.length_singleton]
  unfold stepT
  split
  · omega
  · have := insT_len t (frontT L) false; omega
theorem r16_Same (a b : Time) : millraceref16_Same.f a.f0 a.f1 b.f0 b.f1 = some (decide (a = b)) := by
  unfold millraceref16_Same.f
  obtain ⟨a0, a1⟩ := a
  obtain ⟨b0, b1⟩ := b
  by_cases h0 : a0 = b0
  · by_cases h1 : a1 = b1 <;> simp [h0, h1]
  · simp [h0]
theorem r16_SameTimes_l (A B : List Time) (hA : A.length ≤ 2000000000) (hAB : A.length = B.length) : ∀ (m j : Nat), j + m = A.length → Ev (fun k => millraceref16_SameTimes.l0 k A B (j : Int)) (decide (A.drop j = B.drop j)) := by
  intro m
  induction m with
  | zero =>
    intro j hj
    refine Ev.step (f := fun _ => some true) (fun k => ?_) ?_
    · rw [millraceref16_SameTimes.l0, if_neg (by omega)]
    · rw [List.drop_eq_nil_of_le (by omega), List.drop_eq_nil_of_le (by omega)]; exact Ev.now _
  | succ m ih =>
    intro j hj
    have h1 := ih (j + 1) (by omega)
    have hw : wrap64 ((j : Int) + 1) = ((j + 1 : Nat) : Int) := by rw [IntWalk.wrap64_in _ (by omega)]; omega
    rw [drop_rdT (L := A) (by omega), drop_rdT (L := B) (by omega)]
    by_cases e : rd_T43 A (j : Int) = rd_T43 B (j : Int)
    · have h2 : decide (rd_T43 A (j : Int) :: A.drop (j + 1) = rd_T43 B (j : Int) :: B.drop (j + 1)) = decide (A.drop (j + 1) = B.drop (j + 1)) := by simp [e]
      rw [h2]
      refine Ev.step (fun k => ?_) h1
      rw [millraceref16_SameTimes.l0, if_pos (by omega), if_pos (by omega), if_pos (by omega), r16_Same, Option.bind_some, decide_eq_true e, if_pos rfl, hw]
    · have h2 : decide (rd_T43 A (j : Int) :: A.drop (j + 1) = rd_T43 B (j : Int) :: B.drop (j + 1)) = false := by simp [e]
      rw [h2]
      refine Ev.step (f := fun _ => some false) (fun k => ?_) (Ev.now _)
      rw [millraceref16_SameTimes.l0, if_pos (by omega), if_pos (by omega), if_pos (by omega), r16_Same, Option.bind_some, decide_eq_false e, if_neg Bool.false_ne_true]
theorem r16_SameTimes (A B : List Time) (hA : A.length ≤ 2000000000) : Ev (fun k => millraceref16_SameTimes.f k A B) (decide (A = B)) := by
  by_cases h : A.length = B.length
  · have := r16_SameTimes_l A B hA h A.length 0 (Nat.zero_add _)
    rw [List.drop_zero, List.drop_zero] at this
    refine Ev.congr (fun k => ?_) this
    unfold millraceref16_SameTimes.f
    rw [if_pos (by omega)]
    rfl
  · rw [decide_eq_false (fun e => h (by rw [e]))]
    refine Ev.congr (f := fun _ => some false) (fun k => ?_) (Ev.now _)
    unfold millraceref16_SameTimes.f
    rw [if_neg (by omega)]
end Go.Proofs.Ytiooalhfhnddjaa
end
section
set_option linter.unusedVariables false
set_option linter.unusedSimpArgs false
namespace Go.Proofs.Ytiooalhfhnddjaa
open Go.RowKit Go.Proofs.Ytiooalhfhnddjaa.MM Go.Proofs.Ytiooalhfhnddjaa.PX Go.Proofs.YtiooalhfhnddjaaW.PrintWords
def RTrkAt (w : World) (base m : Nat) (A : Option Addr) (c : Nat) (g : List Op) (cs : List Count) : Prop :=
  ∃ cv, base ≤ m ∧ w.heap[m]? = some (.cells #[.slice A g.length c, cv] 37 (0, 0)) ∧ Kd.R kCount 70 w base (fun _ => True) cv cs
section
variable {w w' : World} {base m : Nat} {A : Option Addr} {c : Nat} {g : List Op} {cs : List Count}
theorem RTrkAt.lt (h : RTrkAt w base m A c g cs) : m < w.heap.size := by
  obtain ⟨cv, _, h2, _⟩ := h
  exact (Array.getElem?_eq_some_iff.1 h2).1
theorem RTrkAt.below (h : RTrkAt w base m A c g cs) (hb : Below w.heap.size w w') : RTrkAt w' base m A c g cs := by
  have hl := h.lt
  obtain ⟨cv, h1, h2, h3⟩ := h
  exact ⟨cv, h1, (hb.block m hl).trans h2, Kd.R_below h3 hb⟩
end
theorem rd_get {L : List Count} {k : Nat} (h : k < L.length) : L[k]? = some (rd_T70 L (k : Int)) := by
  unfold rd_T70
  simp [List.getD_eq_getElem?_getD, h]
theorem upC_snoc_pos {L : List Count} {x : Count} (h : 0 < x.f1) : upC (L ++ [x]) = upC L ++ [x.f0] := by simp [upC, List.filter_append, h]
theorem upC_snoc_neg {L : List Count} {x : Count} (h : ¬ 0 < x.f1) : upC (L ++ [x]) = upC L := by simp [upC, List.filter_append, h]
theorem upC_len (L : List Count) : (upC L).length ≤ L.length := by
  unfold upC
  rw [List.length_map]
  exact List.length_filter_le _ _
set_option maxRecDepth 100000 in
set_option maxHeartbeats 1000000 in
theorem rAlive_calls (w : World) {base m : Nat} {A : Option Addr} {c : Nat} {g : List Op} {cs : List Count} (h : RTrkAt w base m A c g cs) (hsz : cs.length ≤ 1000000000) :
    Calls Try.prog 62 #[.pointer (some ⟨m, 0, none⟩)] w fun e w' => ∃ v, e = .returned v ∧ Kd.R kStamp 45 w' w.heap.size (fun _ => True) v (upC cs) ∧ Below w.heap.size w w' := by
  have hml := h.lt
  obtain ⟨cv, h1, h2, h3⟩ := h
  obtain ⟨cA, cc, rfl, hcc, hcr⟩ := Kd.R_reads h3
  have k1 : w.cell? ⟨m, 1, none⟩ = some (.slice cA cs.length cc) := by simp [World.cell?, h2]
  clear h2 h3
  go_enter Try.func62, Try.ntmps62
  go_wp2
  go_loopg [3, 4] cs.length (fun kq v3 v4 wr => ∃ i : Nat, v4 = .int .i64 i ∧ i + kq = cs.length ∧ Kd.R kStamp 45 wr w.heap.size (fun _ => True) v3 (upC (cs.take i)) ∧ Below w.heap.size w wr)
  case atStart => exact ⟨0, rfl, by simp, Kd.R_nil _ _ _ _ _, Below.refl _ _⟩
  case round =>
    obtain ⟨i, rfl, hk, hR, hb⟩ := hrel
    have HK := Aside0.mk hk
    have k1' := (hb.cell (World.block_lt_of_cell? w _ k1)).trans k1
    have hmr : m < wr.heap.size := Nat.lt_of_lt_of_le hml hb.size
    by_cases hlt : i < cs.length
    · obtain ⟨ad, e1, x0, x1, x2, x3⟩ := at_T70 hcr (i : Int) (by omega) (by omega)
      cases e1
      simp only [Int.toNat_natCast] at x0 x1 x2 x3
      have hx := rd_get hlt
      generalize rd_T70 cs i = x at x0 x1 x2 x3 hx
      have HX := Aside0.mk (take_snoc_of hx)
      replace x0 := (hb.cell (World.block_lt_of_cell? w _ x0)).trans x0
      replace x1 := (hb.cell (World.block_lt_of_cell? w _ x1)).trans x1
      replace x2 := (hb.cell (World.block_lt_of_cell? w _ x2)).trans x2
      replace x3 := (hb.cell (World.block_lt_of_cell? w _ x3)).trans x3
      have hul : (upC (cs.take i)).length ≤ i := Nat.le_trans (upC_len _) (List.length_take_le _ _)
      clear hk hx
      by_cases hpos : 0 < x.f1
      · have hd : decide (0 < x.f1) = true := decide_eq_true hpos
        go_wp2_with (at_builtin; refine app1 kStamp (w0 := w) w.heap.size rfl (.tmp 23) (.tmp 32) 26 45 (.agg #[.int .i64 0, .int .i64 0, .int .i64 0]) 24 rfl Try.underlying26 infoStamp rfl (by decide) (by omega) u3 (upC (cs.take i)) x.f0 [.int .i64 x.f0.f0, .int .i64 x.f0.f1.f0, .int .i64 x.f0.f1.f1] rfl rfl ?aN ?aP ?aO ?aB ?aS ?aL ?_; (case aN => simp); (case aP => exact k45_mkM _ _ _ x.f0); (case aO => exact hR); (case aB => exact hb); (case aS => exact hb.size); (case aL => omega); intro v1 w2 hR2 hb2 hg2 hat2)
        go_roundg (gk - 1)
        case measure => have := HK.out; omega
        case rel => exact ⟨i + 1, by go_num, by have := HK.out; omega, by rw [HX.out, upC_snoc_pos hpos]; exact hR2, hb2⟩
      · have hd : decide (0 < x.f1) = false := decide_eq_false hpos
        go_wp2
        go_roundg (gk - 1)
        case measure => have := HK.out; omega
        case rel => exact ⟨i + 1, by go_num, by have := HK.out; omega, by rw [HX.out, upC_snoc_neg (by omega)]; exact hR, hb⟩
    · obtain rfl : i = cs.length := by omega
      clear hk
      rw [List.take_length] at hR
      go_wp2
      go_ret
      exact ⟨_, rfl, hR, hb⟩
theorem r17_Same (a b : Stamp) : millraceref17_Same.f a.f0 a.f1.f0 a.f1.f1 b.f0 b.f1.f0 b.f1.f1 = some (decide (a = b)) := by
  unfold millraceref17_Same.f
  rw [r16_Same a.f1 b.f1]
  obtain ⟨a0, a1⟩ := a
  obtain ⟨b0, b1⟩ := b
  by_cases h0 : a0 = b0
  · by_cases h1 : a1 = b1 <;> simp [h0, h1]
  · simp [h0]
theorem r17_Same_calls2 (a b : Stamp) (r : Bool) (h : r = decide (a = b)) (w : World) : Calls Try.prog 35 #[.agg #[.int .i64 a.f0, .int .i64 a.f1.f0, .int .i64 a.f1.f1], .agg #[.int .i64 b.f0, .int .i64 b.f1.f0, .int .i64 b.f1.f1]] w fun e w' => e = .returned (.bool r) ∧ Below w.heap.size w w' :=
  millraceref17_Same.calls _ _ _ _ _ _ _ w (by rw [h]; exact r17_Same a b)
set_option maxRecDepth 100000 in
set_option maxHeartbeats 2000000 in
theorem rCount_calls (w : World) {base m : Nat} {A : Option Addr} {c : Nat} {g : List Op} {cs : List Count} (h : RTrkAt w base m A c g cs) (ha : Asc cs) (hsz : cs.length ≤ 1000000000) (s : Stamp) :
    Calls Try.prog 23 #[.pointer (some ⟨m, 0, none⟩), .agg #[.int .i64 s.f0, .int .i64 s.f1.f0, .int .i64 s.f1.f1]] w fun e w' => e = .returned (.int .i64 (tot cs s)) ∧ Below w.heap.size w w' := by
  have hml := h.lt
  obtain ⟨cv, h1, h2, h3⟩ := h
  obtain ⟨cA, cc, rfl, hcc, hcr⟩ := Kd.R_reads h3
  have k1 : w.cell? ⟨m, 1, none⟩ = some (.slice cA cs.length cc) := by simp [World.cell?, h2]
  have HAsc := Aside0.mk ha
  clear h2 h3 ha
  obtain ⟨r, hr⟩ : ∃ r, r = tot cs s := ⟨_, rfl⟩
  rw [← hr]
  have HR := Aside0.mk hr
  clear hr
  go_enter Try.func23, Try.ntmps23
  go_wp2
  obtain ⟨W1, hW1⟩ : ∃ W1, W1 = w.alloc (.cells #[.int .i64 s.f0, .int .i64 s.f1.f0, .int .i64 s.f1.f1] 45) := ⟨_, rfl⟩
  rw [← hW1]
  have hbW : Below w.heap.size w W1 := by rw [hW1]; exact below_alloc (Below.refl _ _) _
  have b0 : W1.cell? ⟨w.heap.size, 0, none⟩ = some (.int .i64 s.f0) := by rw [hW1]; simp
  have b1 : W1.cell? ⟨w.heap.size, 1, none⟩ = some (.int .i64 s.f1.f0) := by rw [hW1]; simp
  have b2 : W1.cell? ⟨w.heap.size, 2, none⟩ = some (.int .i64 s.f1.f1) := by rw [hW1]; simp
  have hsW : w.heap.size < W1.heap.size := by rw [hW1]; simp
  clear hW1
  go_loopg [5] cs.length (fun kq v5 wr => ∃ i : Nat, v5 = .int .i64 i ∧ i + kq = cs.length ∧ Below W1.heap.size W1 wr ∧ Aside0 (∀ x ∈ cs.take i, x.f0 ≠ s))
  case atStart => exact ⟨0, rfl, by simp, Below.refl _ _, ⟨by simp⟩⟩
  case round =>
    obtain ⟨i, rfl, hk, hb1, HN⟩ := hrel
    have HK := Aside0.mk hk
    have hb : Below w.heap.size w wr := below_then hbW hbW.size hb1
    have k1' := (hb.cell (World.block_lt_of_cell? w _ k1)).trans k1
    replace b0 := (hb1.cell (p := ⟨w.heap.size, 0, none⟩) hsW).trans b0
    replace b1 := (hb1.cell (p := ⟨w.heap.size, 1, none⟩) hsW).trans b1
    replace b2 := (hb1.cell (p := ⟨w.heap.size, 2, none⟩) hsW).trans b2
    have hsr : w.heap.size < wr.heap.size := Nat.lt_of_lt_of_le hsW hb1.size
    have hmr : m < wr.heap.size := Nat.lt_of_lt_of_le hml hb.size
    by_cases hlt : i < cs.length
    · obtain ⟨ad, e1, x0, x1, x2, x3⟩ := at_T70 hcr (i : Int) (by omega) (by omega)
      cases e1
      simp only [Int.toNat_natCast] at x0 x1 x2 x3
      have hx := rd_get hlt
      generalize rd_T70 cs i = x at x0 x1 x2 x3 hx
      have HX := Aside0.mk hx
      replace x0 := (hb.cell (World.block_lt_of_cell? w _ x0)).trans x0
      replace x1 := (hb.cell (World.block_lt_of_cell? w _ x1)).trans x1
      replace x2 := (hb.cell (World.block_lt_of_cell? w _ x2)).trans x2
      replace x3 := (hb.cell (World.block_lt_of_cell? w _ x3)).trans x3
      have hxl := World.block_lt_of_cell? _ _ x0
      clear hk hx k1
      obtain ⟨b, hbe⟩ : ∃ b, b = decide (x.f0 = s) := ⟨_, rfl⟩
      have HB := Aside0.mk hbe
      clear hbe
      cases b with
      | true =>
        go_wp2_with fail
        go_region_held3 (fun w' => w'.cell? ⟨w.heap.size, 0, none⟩ = some (.int .i64 s.f0) ∧ w'.cell? ⟨w.heap.size, 1, none⟩ = some (.int .i64 s.f1.f0) ∧ w'.cell? ⟨w.heap.size, 2, none⟩ = some (.int .i64 s.f1.f1) ∧ w'.cell? ⟨m, 1, none⟩ = some (.slice (some ad) cs.length cc) ∧ w'.cell? (ad.add (i * 4)) = some (.int .i64 x.f0.f0) ∧ w'.cell? ⟨(ad.add (i * 4)).block, (ad.add (i * 4)).off + 1, none⟩ = some (.int .i64 x.f0.f1.f0) ∧ w'.cell? ⟨(ad.add (i * 4)).block, (ad.add (i * 4)).off + 2, none⟩ = some (.int .i64 x.f0.f1.f1) ∧ w'.cell? ⟨(ad.add (i * 4)).block, (ad.add (i * 4)).off + 3, none⟩ = some (.int .i64 x.f1))
          (first
            | go_keep
            | (go_split_ands
               refine ⟨(hb2.cell (by simpa using hsr)).trans ‹_›, (hb2.cell (by simpa using hsr)).trans ‹_›, (hb2.cell (by simpa using hsr)).trans ‹_›, (hb2.cell (by simpa using hmr)).trans ‹_›, (hb2.cell (by simpa using hxl)).trans ‹_›, (hb2.cell (by simpa using hxl)).trans ‹_›, (hb2.cell (by simpa using hxl)).trans ‹_›, (hb2.cell (by simpa using hxl)).trans ‹_›⟩))
          ((go_at_call 35; refine (r17_Same_calls2 x.f0 s true HB.out _).mono ?_; rintro e w2 ⟨rfl, hb2⟩))
        have hb2' := hb2
        have hbx : Below w.heap.size w w2 := below_then (pw_below_drewN hb 1) hb.size hb2
        have HF : Aside0 (r = x.f1) := ⟨by
          have e : x.f0 = s := of_decide_eq_true HB.out.symm
          rw [HR.out, ← e]
          exact asc_tot HAsc.out (List.mem_of_getElem? HX.out)⟩
        clear hb2 hb2'
        go_wp2
        go_ret
        exact ⟨by rw [HF.out]; rfl, hbx⟩
      | false =>
        go_wp2_with fail
        go_region_held3 (fun w' => w'.cell? ⟨w.heap.size, 0, none⟩ = some (.int .i64 s.f0) ∧ w'.cell? ⟨w.heap.size, 1, none⟩ = some (.int .i64 s.f1.f0) ∧ w'.cell? ⟨w.heap.size, 2, none⟩ = some (.int .i64 s.f1.f1) ∧ w'.cell? ⟨m, 1, none⟩ = some (.slice (some ad) cs.length cc) ∧ w'.cell? (ad.add (i * 4)) = some (.int .i64 x.f0.f0) ∧ w'.cell? ⟨(ad.add (i * 4)).block, (ad.add (i * 4)).off + 1, none⟩ = some (.int .i64 x.f0.f1.f0) ∧ w'.cell? ⟨(ad.add (i * 4)).block, (ad.add (i * 4)).off + 2, none⟩ = some (.int .i64 x.f0.f1.f1) ∧ w'.cell? ⟨(ad.add (i * 4)).block, (ad.add (i * 4)).off + 3, none⟩ = some (.int .i64 x.f1))
          (first
            | go_keep
            | (go_split_ands
               refine ⟨(hb2.cell (by simpa using hsr)).trans ‹_›, (hb2.cell (by simpa using hsr)).trans ‹_›, (hb2.cell (by simpa using hsr)).trans ‹_›, (hb2.cell (by simpa using hmr)).trans ‹_›, (hb2.cell (by simpa using hxl)).trans ‹_›, (hb2.cell (by simpa using hxl)).trans ‹_›, (hb2.cell (by simpa using hxl)).trans ‹_›, (hb2.cell (by simpa using hxl)).trans ‹_›⟩))
          ((go_at_call 35; refine (r17_Same_calls2 x.f0 s false HB.out _).mono ?_; rintro e w2 ⟨rfl, hb2⟩))
        have hb2' := hb2
        have hbx : Below W1.heap.size W1 w2 := below_then (pw_below_drewN hb1 1) hb1.size hb2
        clear hb2 hb2'
        go_wp2
        go_roundg (gk - 1)
        case measure => have := HK.out; omega
        case rel => exact ⟨i + 1, by go_num, by have := HK.out; omega, hbx, ⟨by
          rw [take_snoc_of HX.out]
          intro y hy
          rcases List.mem_append.1 hy with hy | hy
          · exact HN.out y hy
          · rw [List.mem_singleton.1 hy]; exact of_decide_eq_false HB.out.symm⟩⟩
    · obtain rfl : i = cs.length := by omega
      have HF : Aside0 (r = 0) := ⟨by
        rw [HR.out]
        have := HN.out
        rw [List.take_length] at this
        exact tot_none this⟩
      clear hk
      go_wp2
      go_ret
      exact ⟨by rw [HF.out]; rfl, hb⟩
end Go.Proofs.Ytiooalhfhnddjaa
end
section
set_option linter.unusedVariables false
set_option linter.unusedSimpArgs false
namespace Go.Proofs.Ytiooalhfhnddjaa
open Go.RowKit Go.Proofs.Ytiooalhfhnddjaa.MM Go.Proofs.Ytiooalhfhnddjaa.PX Go.Proofs.YtiooalhfhnddjaaW.PrintWords
theorem rGood_calls (w : World) (A : Option Addr) (c : Nat) (g : List Op) (s : Stamp) (hr : Kd.C kOp w A g.length g) (hc : g.length ≤ c) (hil : ∀ o ∈ g, o.f1.length ≤ 1000000000) :
    Calls Try.prog 58 #[.agg #[.slice A g.length c], .agg #[.int .i64 s.f0, .int .i64 s.f1.f0, .int .i64 s.f1.f1]] w fun e w' => e = .returned (.bool (goodB g s)) ∧ Below w.heap.size w w' := by
  obtain ⟨k, hk⟩ := ref_Good_is g hil s
  exact millraceref17_Good.calls k A c g _ _ _ _ w hr hc hk
theorem rCould_calls (w : World) (A : Option Addr) (c : Nat) (g : List Op) (a b : Stamp) (r : Bool) (h : r = couldB g a b) (hr : Kd.C kOp w A g.length g) (hc : g.length ≤ c) (hil : ∀ o ∈ g, o.f1.length ≤ 1000000000) :
    Calls Try.prog 64 #[.agg #[.slice A g.length c], .agg #[.int .i64 a.f0, .int .i64 a.f1.f0, .int .i64 a.f1.f1], .agg #[.int .i64 b.f0, .int .i64 b.f1.f0, .int .i64 b.f1.f1]] w fun e w' => e = .returned (.bool r) ∧ Below w.heap.size w w' := by
  obtain ⟨k, hk⟩ := ref_Could_is g hil a b
  rw [h]
  exact millraceref17_Could.calls k A c g _ _ _ _ _ _ _ w hr hc hk
theorem rAlive_calls2 (w : World) {base m : Nat} {A : Option Addr} {c : Nat} {g : List Op} {cs : List Count} (h : RTrkAt w base m A c g cs) (hsz : cs.length ≤ 1000000000) :
    Calls Try.prog 62 #[.pointer (some ⟨m, 0, none⟩)] w fun e w' => ∃ (rA : Option Addr) (rc : Nat), e = .returned (.slice rA (upC cs).length rc) ∧ (upC cs).length ≤ rc ∧ Kd.C kStamp w' rA (upC cs).length (upC cs) ∧ Below w.heap.size w w' := by
  refine (rAlive_calls w h hsz).mono ?_
  rintro e w' ⟨v, rfl, hR, hb⟩
  obtain ⟨rA, rc, rfl, hrc, hrr⟩ := Kd.R_reads hR
  exact ⟨rA, rc, rfl, hrc, hrr, hb⟩
def rDoneB (g : List Op) (cs : List Count) (s : Stamp) : Bool := goodB g s && !(upC cs).any (fun a => couldB g a s)
set_option maxRecDepth 100000 in
set_option maxHeartbeats 4000000 in
theorem rDone_calls (w : World) {base m : Nat} {A : Option Addr} {c : Nat} {g : List Op} {cs : List Count} (h : RTrkAt w base m A c g cs) (hr : Kd.C kOp w A g.length g) (hc : g.length ≤ c) (hil : ∀ o ∈ g, o.f1.length ≤ 1000000000) (hsz : cs.length ≤ 1000000000) (s : Stamp) :
    Calls Try.prog 21 #[.pointer (some ⟨m, 0, none⟩), .agg #[.int .i64 s.f0, .int .i64 s.f1.f0, .int .i64 s.f1.f1]] w fun e w' => e = .returned (.bool (rDoneB g cs s)) ∧ Below w.heap.size w w' := by
  have hml := h.lt
  have HT := Aside0.mk h
  have HIL := Aside0.mk hil
  obtain ⟨cv, h1, h2, h3⟩ := h
  have k0 : w.cell? ⟨m, 0, none⟩ = some (.slice A g.length c) := by simp [World.cell?, h2]
  clear h2 h3 hil
  have hgW := Kd.C_below hr (below_alloc (Below.refl _ w) (.cells #[.int .i64 s.f0, .int .i64 s.f1.f0, .int .i64 s.f1.f1] 45))
  go_enter Try.func21, Try.ntmps21
  go_wp2_with fail
  go_region_held3 (fun w' => w'.cell? ⟨w.heap.size, 0, none⟩ = some (.int .i64 s.f0) ∧ w'.cell? ⟨w.heap.size, 1, none⟩ = some (.int .i64 s.f1.f0) ∧ w'.cell? ⟨w.heap.size, 2, none⟩ = some (.int .i64 s.f1.f1) ∧ w'.cell? ⟨m, 0, none⟩ = some (.slice A g.length c))
    (first
      | go_keep
      | (go_split_ands
         refine ⟨(hb2.cell (p := ⟨w.heap.size, 0, none⟩) (by simp)).trans ‹_›, (hb2.cell (p := ⟨w.heap.size, 1, none⟩) (by simp)).trans ‹_›, (hb2.cell (p := ⟨w.heap.size, 2, none⟩) (by simp)).trans ‹_›, (hb2.cell (p := ⟨m, 0, none⟩) (by simp; omega)).trans ‹_›⟩))
    ((go_at_call 58; refine (rGood_calls _ A c g s ?hr hc HIL.out).mono ?_; (case hr => exact Kd.C_below hgW (below_drew (Below.refl _ _))); rintro e w2 ⟨rfl, hb2⟩))
  have hbx : Below w.heap.size w w2 := below_then (below_drew (below_alloc (Below.refl _ w) _)) (by simp) hb2
  cases hg : goodB g s with
  | false =>
    clear hb2
    have hd : Aside0 (rDoneB g cs s = false) := ⟨by simp [rDoneB, hg]⟩
    go_wp2
    go_ret
    exact ⟨by rw [hd.out]; rfl, hbx⟩
  | true =>
    have b0 : w2.cell? ⟨w.heap.size, 0, none⟩ = some (.int .i64 s.f0) := by simp_all
    have b1 : w2.cell? ⟨w.heap.size, 1, none⟩ = some (.int .i64 s.f1.f0) := by simp_all
    have b2 : w2.cell? ⟨w.heap.size, 2, none⟩ = some (.int .i64 s.f1.f1) := by simp_all
    have hszw : w.heap.size < w2.heap.size := by have := hb2.size; simp at this; omega
    have hd : Aside0 (rDoneB g cs s = !(upC cs).any (fun a => couldB g a s)) := ⟨by simp [rDoneB, hg]⟩
    clear hb2 hgW
    have hT2 := HT.out.below hbx
    obtain ⟨r, hr'⟩ : ∃ r, r = upC cs := ⟨_, rfl⟩
    have hul : (upC cs).length ≤ 1000000000 := Nat.le_trans (upC_len cs) hsz
    have hAC := rAlive_calls2 w2 hT2 hsz
    rw [← hr'] at hul hAC
    have HR := Aside0.mk hr'
    clear hr'
    go_wp2_with (go_at_call 62; refine hAC.mono ?_; rintro e w3 ⟨rA, rc, rfl, hrc, hrr, hb3⟩)
    have hb30 := below_then hbx hbx.size hb3
    replace b0 := (hb3.cell (p := ⟨w.heap.size, 0, none⟩) hszw).trans b0
    replace b1 := (hb3.cell (p := ⟨w.heap.size, 1, none⟩) hszw).trans b1
    replace b2 := (hb3.cell (p := ⟨w.heap.size, 2, none⟩) hszw).trans b2
    have hsz3 : w.heap.size < w3.heap.size := Nat.lt_of_lt_of_le hszw hb3.size
    clear hb3 hszw hT2 hAC
    go_loopg [6] r.length (fun kq v6 w4 => ∃ i : Nat, v6 = .int .i64 i ∧ i + kq = r.length ∧ Below w3.heap.size w3 w4 ∧ Aside0 (∀ a ∈ r.take i, couldB g a s = false))
    case atStart => exact ⟨0, rfl, by simp, Below.refl _ _, ⟨by simp⟩⟩
    case round =>
      obtain ⟨i, rfl, hk, hb4, HN⟩ := hrel
      have HK := Aside0.mk hk
      have hb40 := below_then hb30 hb30.size hb4
      by_cases hlt : i < r.length
      · obtain ⟨ad, e1, x0, x1, x2⟩ := at_T45 hrr (i : Int) (by omega) (by omega)
        cases e1
        simp only [Int.toNat_natCast] at x0 x1 x2
        have hx : r[i]? = some (rd_T45 r i) := by
          unfold rd_T45
          simp [List.getD_eq_getElem?_getD, hlt]
        generalize rd_T45 r i = x at x0 x1 x2 hx
        have HX := Aside0.mk hx
        replace x0 := (hb4.cell (World.block_lt_of_cell? w3 _ x0)).trans x0
        replace x1 := (hb4.cell (World.block_lt_of_cell? w3 _ x1)).trans x1
        replace x2 := (hb4.cell (World.block_lt_of_cell? w3 _ x2)).trans x2
        replace b0 := (hb4.cell (p := ⟨w.heap.size, 0, none⟩) hsz3).trans b0
        replace b1 := (hb4.cell (p := ⟨w.heap.size, 1, none⟩) hsz3).trans b1
        replace b2 := (hb4.cell (p := ⟨w.heap.size, 2, none⟩) hsz3).trans b2
        have k0' := (hb40.cell (World.block_lt_of_cell? w _ k0)).trans k0
        have hszr : w.heap.size < wr.heap.size := Nat.lt_of_lt_of_le hsz3 hb4.size
        have hmr : m < wr.heap.size := by omega
        have hxl := World.block_lt_of_cell? _ _ x0
        have hgr := Kd.C_below hr hb40
        obtain ⟨b, hbe⟩ : ∃ b, b = couldB g x s := ⟨_, rfl⟩
        have HB := Aside0.mk hbe
        clear hk hx hbe k0
        cases b with
        | true =>
          go_wp2_with fail
          go_region_held3 (fun w' => w'.cell? ⟨w.heap.size, 0, none⟩ = some (.int .i64 s.f0) ∧ w'.cell? ⟨w.heap.size, 1, none⟩ = some (.int .i64 s.f1.f0) ∧ w'.cell? ⟨w.heap.size, 2, none⟩ = some (.int .i64 s.f1.f1) ∧ w'.cell? ⟨m, 0, none⟩ = some (.slice A g.length c) ∧ w'.cell? (ad.add (i * 3)) = some (.int .i64 x.f0) ∧ w'.cell? ⟨(ad.add (i * 3)).block, (ad.add (i * 3)).off + 1, none⟩ = some (.int .i64 x.f1.f0) ∧ w'.cell? ⟨(ad.add (i * 3)).block, (ad.add (i * 3)).off + 2, none⟩ = some (.int .i64 x.f1.f1))
            (first
              | go_keep
              | (go_split_ands
                 refine ⟨(hb5.cell (by simpa using hszr)).trans ‹_›, (hb5.cell (by simpa using hszr)).trans ‹_›, (hb5.cell (by simpa using hszr)).trans ‹_›, (hb5.cell (by simpa using hmr)).trans ‹_›, (hb5.cell (by simpa using hxl)).trans ‹_›, (hb5.cell (by simpa using hxl)).trans ‹_›, (hb5.cell (by simpa using hxl)).trans ‹_›⟩))
            ((go_at_call 64; refine (rCould_calls _ A c g x s true HB.out ?hr hc HIL.out).mono ?_; (case hr => exact Kd.C_below hgr (below_drew (Below.refl _ _))); rintro e w5 ⟨rfl, hb5⟩))
          have hb5' : Below w.heap.size w w5 := below_then (pw_below_drewN hb40 1) hb40.size hb5
          have HF : Aside0 (rDoneB g cs s = false) := ⟨by
            rw [hd.out, Bool.not_eq_false', List.any_eq_true]
            exact ⟨x, by rw [← HR.out]; exact List.mem_of_getElem? HX.out, HB.out.symm⟩⟩
          clear hb5
          go_wp2
          go_ret
          exact ⟨by rw [HF.out]; rfl, hb5'⟩
        | false =>
          go_wp2_with fail
          go_region_held3 (fun w' => w'.cell? ⟨w.heap.size, 0, none⟩ = some (.int .i64 s.f0) ∧ w'.cell? ⟨w.heap.size, 1, none⟩ = some (.int .i64 s.f1.f0) ∧ w'.cell? ⟨w.heap.size, 2, none⟩ = some (.int .i64 s.f1.f1) ∧ w'.cell? ⟨m, 0, none⟩ = some (.slice A g.length c) ∧ w'.cell? (ad.add (i * 3)) = some (.int .i64 x.f0) ∧ w'.cell? ⟨(ad.add (i * 3)).block, (ad.add (i * 3)).off + 1, none⟩ = some (.int .i64 x.f1.f0) ∧ w'.cell? ⟨(ad.add (i * 3)).block, (ad.add (i * 3)).off + 2, none⟩ = some (.int .i64 x.f1.f1))
            (first
              | go_keep
              | (go_split_ands
                 refine ⟨(hb5.cell (by simpa using hszr)).trans ‹_›, (hb5.cell (by simpa using hszr)).trans ‹_›, (hb5.cell (by simpa using hszr)).trans ‹_›, (hb5.cell (by simpa using hmr)).trans ‹_›, (hb5.cell (by simpa using hxl)).trans ‹_›, (hb5.cell (by simpa using hxl)).trans ‹_›, (hb5.cell (by simpa using hxl)).trans ‹_›⟩))
            ((go_at_call 64; refine (rCould_calls _ A c g x s false HB.out ?hr hc HIL.out).mono ?_; (case hr => exact Kd.C_below hgr (below_drew (Below.refl _ _))); rintro e w5 ⟨rfl, hb5⟩))
          have hb5' : Below w3.heap.size w3 w5 := below_then (pw_below_drewN hb4 1) hb4.size hb5
          clear hb5
          go_wp2
          go_roundg (gk - 1)
          case measure => have := HK.out; omega
          case rel => exact ⟨i + 1, by go_num, by have := HK.out; omega, hb5', ⟨by
            rw [take_snoc_of HX.out]
            intro y hy
            rcases List.mem_append.1 hy with hy | hy
            · exact HN.out y hy
            · rw [List.mem_singleton.1 hy]; exact HB.out.symm⟩⟩
      · obtain rfl : i = r.length := by omega
        have HF : Aside0 (rDoneB g cs s = true) := ⟨by
          have h := HN.out
          rw [List.take_length] at h
          rw [hd.out, Bool.not_eq_true', List.any_eq_false, ← HR.out]
          intro y hy
          rw [h y hy]
          exact Bool.false_ne_true⟩
        clear hk
        go_wp2
        go_ret
        exact ⟨by rw [HF.out]; rfl, hb40⟩
end Go.Proofs.Ytiooalhfhnddjaa
end
section
set_option linter.unusedVariables false
set_option linter.unusedSimpArgs false
namespace Go.Proofs.Ytiooalhfhnddjaa
open Go.RowKit Go.Proofs.Ytiooalhfhnddjaa.MM Go.Proofs.Ytiooalhfhnddjaa.PX Go.Proofs.YtiooalhfhnddjaaW.PrintWords
theorem infoCountA : (Try.prog.info? 70).map (fun i => (i.zero, i.size, i.bytes)) = some (some (.agg #[(.int .i64 0), (.int .i64 0), (.int .i64 0), (.int .i64 0)]), 4, 32) := by kernel_rfl
theorem before_calls (a b : Stamp) (r : Bool) (h : r = decide (sLt a b)) (w : World) : Calls Try.prog 94 #[.agg #[.int .i64 a.f0, .int .i64 a.f1.f0, .int .i64 a.f1.f1], .agg #[.int .i64 b.f0, .int .i64 b.f1.f0, .int .i64 b.f1.f1]] w fun e w' => e = .returned (.bool r) ∧ Below w.heap.size w w' := by
  refine millraceref18_before.calls _ _ _ _ _ _ _ w ?_
  rw [h]
  unfold millraceref18_before.f sLt
  by_cases h0 : a.f0 = b.f0
  · by_cases h1 : a.f1.f0 = b.f1.f0
    · simp [h0, h1]
    · simp [h0, h1]
  · simp [h0]
theorem same0_calls (a b : Stamp) (r : Bool) (h : r = decide (a = b)) (w : World) : Calls Try.prog 35 #[.agg #[.int .i64 a.f0, .int .i64 a.f1.f0, .int .i64 a.f1.f1], .agg #[.int .i64 b.f0, .int .i64 b.f1.f0, .int .i64 b.f1.f1]] w fun e w' => e = .returned (.bool r) ∧ Below w.heap.size w w' := by
  refine millraceref17_Same.calls _ _ _ _ _ _ _ w ?_
  rw [h]
  unfold millraceref17_Same.f millraceref16_Same.f
  obtain ⟨a0, ⟨a1, a2⟩⟩ := a
  obtain ⟨b0, ⟨b1, b2⟩⟩ := b
  by_cases h0 : a0 = b0
  · by_cases h1 : a1 = b1
    · by_cases h2 : a2 = b2 <;> simp [h0, h1, h2]
    · simp [h0, h1]
  · simp [h0]
theorem R_box {α : Type} {d : Kd α} {e : Nat} {W : World} {base : Nat} {v : Value} {xs : List α} (h : Kd.R d e W base (fun _ => True) v xs) {b i : Nat} (hb : b < base) (u : Value) : Kd.R d e (W.setCell ⟨b, i, none⟩ u) base (fun _ => True) v xs :=
  Kd.R_mono (Kd.R_far (p := ⟨b, i, none⟩) (Kd.R_bound h) (fun k hk => by have := hk.2.1; simp only; omega) u) (fun _ _ => trivial)
theorem drop_rdC {L : List Count} {j : Nat} (h : j < L.length) : L.drop j = rd_T70 L (j : Int) :: L.drop (j + 1) := by
  rw [List.drop_eq_getElem_cons h]
  simp [rd_T70, List.getD_eq_getElem?_getD, h]
def restC (s : Stamp) (n : Int) (d : Bool) (l : List Count) : List Count := if d then l else insC ⟨s, n⟩ l
set_option maxRecDepth 100000 in
set_option maxHeartbeats 8000000 in
theorem rAdd_calls (w : World) (A : Option Addr) (k : Nat) (cs : List Count) (hr : Kd.C kCount w A cs.length cs) (hk : cs.length ≤ k) (ha : Asc cs) (hl : cs.length ≤ 3000000000) (c : Count) (hb : ∀ x ∈ cs, -9000000000000000000 ≤ c.f1 + x.f1 ∧ c.f1 + x.f1 ≤ 9000000000000000000) :
    Calls Try.prog 59 #[.slice A cs.length k, .agg #[.int .i64 c.f0.f0, .int .i64 c.f0.f1.f0, .int .i64 c.f0.f1.f1, .int .i64 c.f1]] w fun e w' => ∃ v, e = .returned v ∧ Kd.R kCount 70 w' w.heap.size (fun _ => True) v (insC c cs) ∧ Below w.heap.size w w' := by
  have HA := Aside0.mk ha
  have HBB := Aside0.mk hb
  clear ha hb
  go_enter Try.func59, Try.ntmps59
  go_wp2
  obtain ⟨W1, hW1⟩ : ∃ W1, W1 = w.alloc (.cells #[.int .i64 c.f0.f0, .int .i64 c.f0.f1.f0, .int .i64 c.f0.f1.f1, .int .i64 c.f1] 70) := ⟨_, rfl⟩
  rw [← hW1]
  have hbW : Below w.heap.size w W1 := by rw [hW1]; exact below_alloc (Below.refl _ _) _
  have hB0 : W1.heap[w.heap.size]? = some (.cells #[.int .i64 c.f0.f0, .int .i64 c.f0.f1.f0, .int .i64 c.f0.f1.f1, .int .i64 c.f1] 70 (0, 0)) := by rw [hW1]; exact heap_alloc_new w _
  have hsW : W1.heap.size = w.heap.size + 1 := by rw [hW1]; simp
  have HSW := Aside0.mk hsW
  have hsz : w.heap.size < W1.heap.size := by omega
  clear hW1 hsW
  go_loopg [5, 6, 7] cs.length (fun kq v5 v6 v7 W => ∃ (j : Nat) (out : List Count) (d : Bool) (n : Int), v6 = .bool d ∧ v7 = .int .i64 j ∧ j + kq = cs.length ∧ W.heap[w.heap.size]? = some (.cells #[.int .i64 c.f0.f0, .int .i64 c.f0.f1.f0, .int .i64 c.f0.f1.f1, .int .i64 n] 70 (0, 0)) ∧ Kd.R kCount 70 W W1.heap.size (fun _ => True) v5 out ∧ Aside0 (out ++ restC c.f0 n d (cs.drop j) = insC c cs) ∧ out.length ≤ j + 1 ∧ Aside0 (d = false → out.length ≤ j ∧ n = c.f1) ∧ Aside0 (d = true → ∀ x ∈ cs.drop j, x.f0 ≠ c.f0) ∧ Below w.heap.size w W ∧ W1.heap.size ≤ W.heap.size)
  case atStart => exact ⟨0, [], false, c.f1, rfl, rfl, by simp, hB0, Kd.R_nil _ _ _ _ _, ⟨rfl⟩, by simp, ⟨fun _ => ⟨by simp, rfl⟩⟩, ⟨fun e => by cases e⟩, hbW, Nat.le_refl _⟩
  case round =>
    obtain ⟨j, out, d, n, rfl, rfl, hj, hBx, hR, HE, hol, HD0, HD1, hbX, hsX⟩ := hrel
    have HJ := Aside0.mk hj
    have b0 : wr.cell? ⟨w.heap.size, 0, none⟩ = some (.int .i64 c.f0.f0) := (blk_cell hBx 0).trans rfl
    have b1 : wr.cell? ⟨w.heap.size, 1, none⟩ = some (.int .i64 c.f0.f1.f0) := (blk_cell hBx 1).trans rfl
    have b2 : wr.cell? ⟨w.heap.size, 2, none⟩ = some (.int .i64 c.f0.f1.f1) := (blk_cell hBx 2).trans rfl
    have b3 : wr.cell? ⟨w.heap.size, 3, none⟩ = some (.int .i64 n) := (blk_cell hBx 3).trans rfl
    have hzB : w.heap.size < wr.heap.size := blk_lt hBx
    have HBX := Aside0.mk hBx
    clear hBx
    by_cases hlt : j < cs.length
    · obtain ⟨ad, e1, x0, x1, x2, x3⟩ := at_T70 hr (j : Int) (by omega) (by omega)
      cases e1
      simp only [Int.toNat_natCast] at x0 x1 x2 x3
      have hd := drop_rdC hlt
      generalize rd_T70 cs j = x at x0 x1 x2 x3 hd
      have hxw := World.block_lt_of_cell? w _ x0
      replace x0 := (hbX.cell (p := ad.add (j * 4)) (by exact hxw)).trans x0
      replace x1 := (hbX.cell (p := ⟨(ad.add (j * 4)).block, (ad.add (j * 4)).off + 1, none⟩) (by exact hxw)).trans x1
      replace x2 := (hbX.cell (p := ⟨(ad.add (j * 4)).block, (ad.add (j * 4)).off + 2, none⟩) (by exact hxw)).trans x2
      replace x3 := (hbX.cell (p := ⟨(ad.add (j * 4)).block, (ad.add (j * 4)).off + 3, none⟩) (by exact hxw)).trans x3
      have hzx := World.block_lt_of_cell? _ _ x0
      have hxW : (ad.add (j * 4)).block < W1.heap.size := Nat.lt_trans hxw hsz
      have HX := Aside0.mk (And.intro x0 (And.intro x1 (And.intro x2 x3)))
      have hAs : Asc (cs.drop j) := List.Pairwise.sublist (List.drop_sublist _ _) HA.out
      have hxm : x ∈ cs := List.mem_of_mem_drop (by rw [hd]; exact List.mem_cons_self)
      have hxb := HBB.out x hxm
      have HD := Aside0.mk hd
      rw [hd] at hAs
      have HA1 := Aside0.mk (asc_cons hAs).1
      have hwb : Below w.heap.size wr wr := Below.refl _ _
      clear hj hd hAs hxm
      cases d with
      | true =>
        have HSM : Aside0 (false = decide (x.f0 = c.f0)) := ⟨(decide_eq_false (HD1.out rfl x (by rw [HD.out]; exact List.mem_cons_self))).symm⟩
        have HR1 : Aside0 (∀ y ∈ cs.drop (j + 1), y.f0 ≠ c.f0) := ⟨fun y hy => HD1.out rfl y (by rw [HD.out]; exact List.mem_cons_of_mem _ hy)⟩
        have HF : Aside0 ((out ++ [x]) ++ cs.drop (j + 1) = insC c cs) := ⟨by have h := HE.out; unfold restC at h; rw [if_pos rfl, HD.out] at h; simpa using h⟩
        clear HD0 HD1 HE
        go_wp2_with fail
        go_quiet (fail)
        go_wp2_with fail
        go_region_held3 (fun w' => w'.cell? ⟨w.heap.size, 0, none⟩ = some (.int .i64 c.f0.f0) ∧ w'.cell? ⟨w.heap.size, 1, none⟩ = some (.int .i64 c.f0.f1.f0) ∧ w'.cell? ⟨w.heap.size, 2, none⟩ = some (.int .i64 c.f0.f1.f1) ∧ w'.cell? (ad.add (j * 4)) = some (.int .i64 x.f0.f0) ∧ w'.cell? ⟨(ad.add (j * 4)).block, (ad.add (j * 4)).off + 1, none⟩ = some (.int .i64 x.f0.f1.f0) ∧ w'.cell? ⟨(ad.add (j * 4)).block, (ad.add (j * 4)).off + 2, none⟩ = some (.int .i64 x.f0.f1.f1))
          (first
            | go_keep
            | (go_split_ands
               refine ⟨(hb5.cell (by exact hzB)).trans ‹_›, (hb5.cell (by exact hzB)).trans ‹_›, (hb5.cell (by exact hzB)).trans ‹_›, (hb5.cell (by exact hzx)).trans ‹_›, (hb5.cell (by exact hzx)).trans ‹_›, (hb5.cell (by exact hzx)).trans ‹_›⟩))
          ((go_at_call 35; refine (same0_calls x.f0 c.f0 false HSM.out _).mono ?_; rintro e w5 ⟨rfl, hb5⟩))
        have hbx : Below wr.heap.size wr w5 := below_then (pw_below_drewN (Below.refl _ _) (nq + 1)) (by simp) hb5
        replace b0 := (hbx.cell (p := ⟨w.heap.size, 0, none⟩) (by exact hzB)).trans b0
        replace b1 := (hbx.cell (p := ⟨w.heap.size, 1, none⟩) (by exact hzB)).trans b1
        replace b2 := (hbx.cell (p := ⟨w.heap.size, 2, none⟩) (by exact hzB)).trans b2
        replace b3 := (hbx.cell (p := ⟨w.heap.size, 3, none⟩) (by exact hzB)).trans b3
        replace x0 := (hbx.cell (p := ad.add (j * 4)) (by exact hzx)).trans x0
        replace x1 := (hbx.cell (p := ⟨(ad.add (j * 4)).block, (ad.add (j * 4)).off + 1, none⟩) (by exact hzx)).trans x1
        replace x2 := (hbx.cell (p := ⟨(ad.add (j * 4)).block, (ad.add (j * 4)).off + 2, none⟩) (by exact hzx)).trans x2
        replace x3 := (hbx.cell (p := ⟨(ad.add (j * 4)).block, (ad.add (j * 4)).off + 3, none⟩) (by exact hzx)).trans x3
        have hR5 := Kd.R_below hR hbx
        have hbW5 := hbx.mono hsX
        have hs5 := hbx.size
        clear hb5
        go_wp2_with (at_builtin; refine app1 kCount (w0 := wr) W1.heap.size rfl (.tmp 51) (.tmp 56) 35 70 (.agg #[.int .i64 0, .int .i64 0, .int .i64 0, .int .i64 0]) 32 rfl Try.underlying35 infoCountA rfl (by decide) (by omega) u5 out x [.int .i64 x.f0.f0, .int .i64 x.f0.f1.f0, .int .i64 x.f0.f1.f1, .int .i64 x.f1] rfl rfl ?aN ?aP ?aO ?aB ?aS ?aL ?_; (case aN => simp); (case aP => exact k70_mkM _ _ _ x); (case aO => exact hR5); (case aB => exact hbW5); (case aS => omega); (case aL => (try simp only [List.length_append, List.length_singleton]); omega); intro v6 w6 hR6 hb6 hg6 hat6; obtain ⟨A6, c6, rfl, h6c, h6r⟩ := Kd.R_reads hR6; clear h6c h6r hg6 hat6)
        go_roundg (gk - 1)
        case measure => have := HJ.out; omega
        case rel => exact ⟨j + 1, out ++ [x], true, n, rfl, by go_num, by have := HJ.out; omega, (hb6.block _ hsz).trans HBX.out, by simpa using hR6, ⟨HF.out⟩, by simp; omega, ⟨fun e => by cases e⟩, ⟨fun _ => HR1.out⟩, hbX.trans (hb6.mono (by omega)), Nat.le_trans hsX hb6.size⟩
      | false =>
        obtain ⟨hol2, rfl⟩ := HD0.out rfl
        by_cases hlo : sLt c.f0 x.f0
        · have HBF : Aside0 (true = decide (sLt c.f0 x.f0)) := ⟨(decide_eq_true hlo).symm⟩
          have hne : x.f0 ≠ c.f0 := fun e => sLt_irrefl c.f0 (by rw [e] at hlo; exact hlo)
          have HSM : Aside0 (false = decide (x.f0 = c.f0)) := ⟨(decide_eq_false hne).symm⟩
          have HR1 : Aside0 (∀ y ∈ cs.drop (j + 1), y.f0 ≠ c.f0) := ⟨fun y hy e => by have h := HA1.out y hy; rw [e] at h; exact sLt_asymm hlo h⟩
          have HF : Aside0 ((out ++ [c] ++ [x]) ++ cs.drop (j + 1) = insC c cs) := ⟨by have h := HE.out; unfold restC at h; rw [if_neg Bool.false_ne_true, HD.out, insC, if_neg hne, if_pos hlo] at h; simpa using h⟩
          clear HD0 HD1 HE hlo hne
          go_wp2_with fail
          go_region_held3 (fun w' => w'.cell? ⟨w.heap.size, 0, none⟩ = some (.int .i64 c.f0.f0) ∧ w'.cell? ⟨w.heap.size, 1, none⟩ = some (.int .i64 c.f0.f1.f0) ∧ w'.cell? ⟨w.heap.size, 2, none⟩ = some (.int .i64 c.f0.f1.f1) ∧ w'.cell? (ad.add (j * 4)) = some (.int .i64 x.f0.f0) ∧ w'.cell? ⟨(ad.add (j * 4)).block, (ad.add (j * 4)).off + 1, none⟩ = some (.int .i64 x.f0.f1.f0) ∧ w'.cell? ⟨(ad.add (j * 4)).block, (ad.add (j * 4)).off + 2, none⟩ = some (.int .i64 x.f0.f1.f1))
            (first
              | go_keep
              | (go_split_ands
                 refine ⟨(hb5.cell (by exact hzB)).trans ‹_›, (hb5.cell (by exact hzB)).trans ‹_›, (hb5.cell (by exact hzB)).trans ‹_›, (hb5.cell (by exact hzx)).trans ‹_›, (hb5.cell (by exact hzx)).trans ‹_›, (hb5.cell (by exact hzx)).trans ‹_›⟩))
            ((go_at_call 94; refine (before_calls c.f0 x.f0 true HBF.out _).mono ?_; rintro e w5 ⟨rfl, hb5⟩))
          have hbx : Below wr.heap.size wr w5 := below_then (pw_below_drewN (Below.refl _ _) 1) (by simp) hb5
          replace b0 := (hbx.cell (p := ⟨w.heap.size, 0, none⟩) (by exact hzB)).trans b0
          replace b1 := (hbx.cell (p := ⟨w.heap.size, 1, none⟩) (by exact hzB)).trans b1
          replace b2 := (hbx.cell (p := ⟨w.heap.size, 2, none⟩) (by exact hzB)).trans b2
          replace b3 := (hbx.cell (p := ⟨w.heap.size, 3, none⟩) (by exact hzB)).trans b3
          replace x0 := (hbx.cell (p := ad.add (j * 4)) (by exact hzx)).trans x0
          replace x1 := (hbx.cell (p := ⟨(ad.add (j * 4)).block, (ad.add (j * 4)).off + 1, none⟩) (by exact hzx)).trans x1
          replace x2 := (hbx.cell (p := ⟨(ad.add (j * 4)).block, (ad.add (j * 4)).off + 2, none⟩) (by exact hzx)).trans x2
          replace x3 := (hbx.cell (p := ⟨(ad.add (j * 4)).block, (ad.add (j * 4)).off + 3, none⟩) (by exact hzx)).trans x3
          have hR5 := Kd.R_below hR hbx
          have hbW5 := hbx.mono hsX
          have hs5 := hbx.size
          clear hb5
          go_wp2_with (at_builtin; refine app1 kCount (w0 := wr) W1.heap.size rfl (.tmp 26) (.tmp 28) 35 70 (.agg #[.int .i64 0, .int .i64 0, .int .i64 0, .int .i64 0]) 32 rfl Try.underlying35 infoCountA rfl (by decide) (by omega) u5 out c [.int .i64 c.f0.f0, .int .i64 c.f0.f1.f0, .int .i64 c.f0.f1.f1, .int .i64 c.f1] rfl rfl ?aN ?aP ?aO ?aB ?aS ?aL ?_; (case aN => simp); (case aP => exact k70_mkM _ _ _ c); (case aO => exact hR5); (case aB => exact hbW5); (case aS => omega); (case aL => (try simp only [List.length_append, List.length_singleton]); omega); intro v6 w6 hR6 hb6 hg6 hat6; obtain ⟨A6, c6, rfl, h6c, h6r⟩ := Kd.R_reads hR6; clear h6c h6r hg6 hat6)
          have hs6 := hb6.size
          have hz6 : w.heap.size < w6.heap.size := by omega
          have hx6 : (ad.add (j * 4)).block < w6.heap.size := by omega
          replace b0 := (hb6.cell (p := ⟨w.heap.size, 0, none⟩) (by exact hsz)).trans ((blk_cell HBX.out 0).trans rfl)
          replace b1 := (hb6.cell (p := ⟨w.heap.size, 1, none⟩) (by exact hsz)).trans ((blk_cell HBX.out 1).trans rfl)
          replace b2 := (hb6.cell (p := ⟨w.heap.size, 2, none⟩) (by exact hsz)).trans ((blk_cell HBX.out 2).trans rfl)
          replace b3 := (hb6.cell (p := ⟨w.heap.size, 3, none⟩) (by exact hsz)).trans ((blk_cell HBX.out 3).trans rfl)
          replace x0 := (hb6.cell (p := ad.add (j * 4)) (by exact hxW)).trans HX.out.1
          replace x1 := (hb6.cell (p := ⟨(ad.add (j * 4)).block, (ad.add (j * 4)).off + 1, none⟩) (by exact hxW)).trans HX.out.2.1
          replace x2 := (hb6.cell (p := ⟨(ad.add (j * 4)).block, (ad.add (j * 4)).off + 2, none⟩) (by exact hxW)).trans HX.out.2.2.1
          replace x3 := (hb6.cell (p := ⟨(ad.add (j * 4)).block, (ad.add (j * 4)).off + 3, none⟩) (by exact hxW)).trans HX.out.2.2.2
          go_wp2_with fail
          go_region_held3 (fun w' => w'.cell? ⟨w.heap.size, 0, none⟩ = some (.int .i64 c.f0.f0) ∧ w'.cell? ⟨w.heap.size, 1, none⟩ = some (.int .i64 c.f0.f1.f0) ∧ w'.cell? ⟨w.heap.size, 2, none⟩ = some (.int .i64 c.f0.f1.f1) ∧ w'.cell? (ad.add (j * 4)) = some (.int .i64 x.f0.f0) ∧ w'.cell? ⟨(ad.add (j * 4)).block, (ad.add (j * 4)).off + 1, none⟩ = some (.int .i64 x.f0.f1.f0) ∧ w'.cell? ⟨(ad.add (j * 4)).block, (ad.add (j * 4)).off + 2, none⟩ = some (.int .i64 x.f0.f1.f1))
            (first
              | go_keep
              | (go_split_ands
                 refine ⟨(hb7.cell (by exact hz6)).trans ‹_›, (hb7.cell (by exact hz6)).trans ‹_›, (hb7.cell (by exact hz6)).trans ‹_›, (hb7.cell (by exact hx6)).trans ‹_›, (hb7.cell (by exact hx6)).trans ‹_›, (hb7.cell (by exact hx6)).trans ‹_›⟩))
            ((go_at_call 35; refine (same0_calls x.f0 c.f0 false HSM.out _).mono ?_; rintro e w7 ⟨rfl, hb7⟩))
          have hbx7 : Below w6.heap.size w6 w7 := below_then (pw_below_drewN (Below.refl _ _) 1) (by simp) hb7
          replace b0 := (hbx7.cell (p := ⟨w.heap.size, 0, none⟩) (by exact hz6)).trans b0
          replace b1 := (hbx7.cell (p := ⟨w.heap.size, 1, none⟩) (by exact hz6)).trans b1
          replace b2 := (hbx7.cell (p := ⟨w.heap.size, 2, none⟩) (by exact hz6)).trans b2
          replace b3 := (hbx7.cell (p := ⟨w.heap.size, 3, none⟩) (by exact hz6)).trans b3
          replace x0 := (hbx7.cell (p := ad.add (j * 4)) (by exact hx6)).trans x0
          replace x1 := (hbx7.cell (p := ⟨(ad.add (j * 4)).block, (ad.add (j * 4)).off + 1, none⟩) (by exact hx6)).trans x1
          replace x2 := (hbx7.cell (p := ⟨(ad.add (j * 4)).block, (ad.add (j * 4)).off + 2, none⟩) (by exact hx6)).trans x2
          replace x3 := (hbx7.cell (p := ⟨(ad.add (j * 4)).block, (ad.add (j * 4)).off + 3, none⟩) (by exact hx6)).trans x3
          have hR7 := Kd.R_below hR6 hbx7
          have hb67 : Below W1.heap.size wr w7 := hb6.trans (hbx7.mono (by omega))
          have hs7 := hbx7.size
          clear hb7
          go_wp2_with (at_builtin; refine app1 kCount (w0 := wr) W1.heap.size rfl (.tmp 51) (.tmp 56) 35 70 (.agg #[.int .i64 0, .int .i64 0, .int .i64 0, .int .i64 0]) 32 rfl Try.underlying35 infoCountA rfl (by decide) (by omega) (.slice A6 (out.length + 1) c6) (out ++ [c]) x [.int .i64 x.f0.f0, .int .i64 x.f0.f1.f0, .int .i64 x.f0.f1.f1, .int .i64 x.f1] rfl rfl ?aN ?aP ?aO ?aB ?aS ?aL ?_; (case aN => simp); (case aP => exact k70_mkM _ _ _ x); (case aO => simpa using hR7); (case aB => exact hb67); (case aS => omega); (case aL => (try simp only [List.length_append, List.length_singleton]); omega); intro v8 w8 hR8 hb8 hg8 hat8; obtain ⟨A8, c8, rfl, h8c, h8r⟩ := Kd.R_reads hR8; clear h8c h8r hg8 hat8)
          go_roundg (gk - 1)
          case measure => have := HJ.out; omega
          case rel => exact ⟨j + 1, out ++ [c] ++ [x], true, c.f1, rfl, by go_num, by have := HJ.out; omega, (hb8.block _ hsz).trans HBX.out, by simpa using hR8, ⟨HF.out⟩, by simp; omega, ⟨fun e => by cases e⟩, ⟨fun _ => HR1.out⟩, hbX.trans (hb8.mono (by omega)), Nat.le_trans hsX hb8.size⟩
        · have HBF : Aside0 (false = decide (sLt c.f0 x.f0)) := ⟨(decide_eq_false hlo).symm⟩
          by_cases he : x.f0 = c.f0
          · have HSM : Aside0 (true = decide (x.f0 = c.f0)) := ⟨(decide_eq_true he).symm⟩
            have HR1 : Aside0 (∀ y ∈ cs.drop (j + 1), y.f0 ≠ c.f0) := ⟨fun y hy e => by have h := HA1.out y hy; rw [e, he] at h; exact sLt_irrefl _ h⟩
            have HF : Aside0 ((out ++ [⟨c.f0, c.f1 + x.f1⟩]) ++ cs.drop (j + 1) = insC c cs) := ⟨by have h := HE.out; unfold restC at h; rw [if_neg Bool.false_ne_true, HD.out, insC, if_pos he] at h; simpa using h⟩
            have hx1' : -9000000000000000000 ≤ c.f1 + x.f1 := hxb.1
            have hx2' : c.f1 + x.f1 ≤ 9000000000000000000 := hxb.2
            clear HD0 HD1 HE hlo he
            go_wp2_with fail
            go_region_held3 (fun w' => w'.cell? ⟨w.heap.size, 0, none⟩ = some (.int .i64 c.f0.f0) ∧ w'.cell? ⟨w.heap.size, 1, none⟩ = some (.int .i64 c.f0.f1.f0) ∧ w'.cell? ⟨w.heap.size, 2, none⟩ = some (.int .i64 c.f0.f1.f1) ∧ w'.cell? (ad.add (j * 4)) = some (.int .i64 x.f0.f0) ∧ w'.cell? ⟨(ad.add (j * 4)).block, (ad.add (j * 4)).off + 1, none⟩ = some (.int .i64 x.f0.f1.f0) ∧ w'.cell? ⟨(ad.add (j * 4)).block, (ad.add (j * 4)).off + 2, none⟩ = some (.int .i64 x.f0.f1.f1))
              (first
                | go_keep
                | (go_split_ands
                   refine ⟨(hb5.cell (by exact hzB)).trans ‹_›, (hb5.cell (by exact hzB)).trans ‹_›, (hb5.cell (by exact hzB)).trans ‹_›, (hb5.cell (by exact hzx)).trans ‹_›, (hb5.cell (by exact hzx)).trans ‹_›, (hb5.cell (by exact hzx)).trans ‹_›⟩))
              ((go_at_call 94; refine (before_calls c.f0 x.f0 false HBF.out _).mono ?_; rintro e w5 ⟨rfl, hb5⟩))
            have hbx : Below wr.heap.size wr w5 := below_then (pw_below_drewN (Below.refl _ _) 1) (by simp) hb5
            replace b0 := (hbx.cell (p := ⟨w.heap.size, 0, none⟩) (by exact hzB)).trans b0
            replace b1 := (hbx.cell (p := ⟨w.heap.size, 1, none⟩) (by exact hzB)).trans b1
            replace b2 := (hbx.cell (p := ⟨w.heap.size, 2, none⟩) (by exact hzB)).trans b2
            replace b3 := (hbx.cell (p := ⟨w.heap.size, 3, none⟩) (by exact hzB)).trans b3
            replace x0 := (hbx.cell (p := ad.add (j * 4)) (by exact hzx)).trans x0
            replace x1 := (hbx.cell (p := ⟨(ad.add (j * 4)).block, (ad.add (j * 4)).off + 1, none⟩) (by exact hzx)).trans x1
            replace x2 := (hbx.cell (p := ⟨(ad.add (j * 4)).block, (ad.add (j * 4)).off + 2, none⟩) (by exact hzx)).trans x2
            replace x3 := (hbx.cell (p := ⟨(ad.add (j * 4)).block, (ad.add (j * 4)).off + 3, none⟩) (by exact hzx)).trans x3
            have hz5 : w.heap.size < w5.heap.size := Nat.lt_of_lt_of_le hzB hbx.size
            have hx5 : (ad.add (j * 4)).block < w5.heap.size := Nat.lt_of_lt_of_le hzx hbx.size
            clear hb5
            go_wp2_with fail
            go_region_held3 (fun w' => w'.cell? ⟨w.heap.size, 0, none⟩ = some (.int .i64 c.f0.f0) ∧ w'.cell? ⟨w.heap.size, 1, none⟩ = some (.int .i64 c.f0.f1.f0) ∧ w'.cell? ⟨w.heap.size, 2, none⟩ = some (.int .i64 c.f0.f1.f1) ∧ w'.cell? (ad.add (j * 4)) = some (.int .i64 x.f0.f0) ∧ w'.cell? ⟨(ad.add (j * 4)).block, (ad.add (j * 4)).off + 1, none⟩ = some (.int .i64 x.f0.f1.f0) ∧ w'.cell? ⟨(ad.add (j * 4)).block, (ad.add (j * 4)).off + 2, none⟩ = some (.int .i64 x.f0.f1.f1))
              (first
                | go_keep
                | (go_split_ands
                   refine ⟨(hb6.cell (by exact hz5)).trans ‹_›, (hb6.cell (by exact hz5)).trans ‹_›, (hb6.cell (by exact hz5)).trans ‹_›, (hb6.cell (by exact hx5)).trans ‹_›, (hb6.cell (by exact hx5)).trans ‹_›, (hb6.cell (by exact hx5)).trans ‹_›⟩))
              ((go_at_call 35; refine (same0_calls x.f0 c.f0 true HSM.out _).mono ?_; rintro e w6 ⟨rfl, hb6⟩))
            have hbx6 : Below w5.heap.size w5 w6 := below_then (pw_below_drewN (Below.refl _ _) 1) (by simp) hb6
            replace b0 := (hbx6.cell (p := ⟨w.heap.size, 0, none⟩) (by exact hz5)).trans b0
            replace b1 := (hbx6.cell (p := ⟨w.heap.size, 1, none⟩) (by exact hz5)).trans b1
            replace b2 := (hbx6.cell (p := ⟨w.heap.size, 2, none⟩) (by exact hz5)).trans b2
            replace b3 := (hbx6.cell (p := ⟨w.heap.size, 3, none⟩) (by exact hz5)).trans b3
            replace x0 := (hbx6.cell (p := ad.add (j * 4)) (by exact hx5)).trans x0
            replace x1 := (hbx6.cell (p := ⟨(ad.add (j * 4)).block, (ad.add (j * 4)).off + 1, none⟩) (by exact hx5)).trans x1
            replace x2 := (hbx6.cell (p := ⟨(ad.add (j * 4)).block, (ad.add (j * 4)).off + 2, none⟩) (by exact hx5)).trans x2
            replace x3 := (hbx6.cell (p := ⟨(ad.add (j * 4)).block, (ad.add (j * 4)).off + 3, none⟩) (by exact hx5)).trans x3
            have hbr6 : Below wr.heap.size wr w6 := hbx.trans (hbx6.mono hbx.size)
            have hR6 := Kd.R_below hR hbr6
            have hB6 := blk_below HBX.out hbr6
            have bf : w6.frozen? ⟨w.heap.size, 3, none⟩ = false := blk_frozen hB6 3
            have hs6 := hbr6.size
            have hz6 : w.heap.size < w6.heap.size := by omega
            have hne : (ad.add (j * 4)).block ≠ w.heap.size := by omega
            have HB6 := Aside0.mk hB6
            clear hb6 hB6
            go_wp2_with fail
            go_region
            obtain ⟨W9, hW9⟩ : ∃ W9, W9 = (w6.setCell ⟨w.heap.size, 3, none⟩ (.int .i64 (c.f1 + x.f1))).drew := ⟨_, rfl⟩
            rw [← hW9]
            have hB9 : W9.heap[w.heap.size]? = some (.cells #[.int .i64 c.f0.f0, .int .i64 c.f0.f1.f0, .int .i64 c.f0.f1.f1, .int .i64 (c.f1 + x.f1)] 70 (0, 0)) := by rw [hW9]; exact blk_set HB6.out 3 _
            have hR9 : Kd.R kCount 70 W9 W1.heap.size (fun _ => True) u5 out := by rw [hW9]; exact Kd.R_drew (R_box hR6 hsz _)
            have hs9 : W9.heap.size = w6.heap.size := by rw [hW9]; simp [World.setCell]
            have hbX9 : Below w.heap.size w W9 := by rw [hW9]; exact below_drew ((hbX.trans (hbr6.mono (by omega))).setCell (p := ⟨w.heap.size, 3, none⟩) (Nat.le_refl _) _)
            clear hW9 b0 b1 b2 b3 x0 x1 x2 x3
            have b0 : W9.cell? ⟨w.heap.size, 0, none⟩ = some (.int .i64 c.f0.f0) := (blk_cell hB9 0).trans rfl
            have b1 : W9.cell? ⟨w.heap.size, 1, none⟩ = some (.int .i64 c.f0.f1.f0) := (blk_cell hB9 1).trans rfl
            have b2 : W9.cell? ⟨w.heap.size, 2, none⟩ = some (.int .i64 c.f0.f1.f1) := (blk_cell hB9 2).trans rfl
            have b3 : W9.cell? ⟨w.heap.size, 3, none⟩ = some (.int .i64 (c.f1 + x.f1)) := (blk_cell hB9 3).trans rfl
            have HB9 := Aside0.mk hB9
            have HS9 := Aside0.mk hs9
            have hs9' : W1.heap.size ≤ W9.heap.size := by omega
            clear hB9 hs9
            go_wp2_with (at_builtin; refine app1 kCount (w0 := W9) W1.heap.size rfl (.tmp 47) (.tmp 49) 35 70 (.agg #[.int .i64 0, .int .i64 0, .int .i64 0, .int .i64 0]) 32 rfl Try.underlying35 infoCountA rfl (by decide) (by omega) u5 out (⟨c.f0, c.f1 + x.f1⟩ : Count) [.int .i64 c.f0.f0, .int .i64 c.f0.f1.f0, .int .i64 c.f0.f1.f1, .int .i64 (c.f1 + x.f1)] rfl rfl ?aN ?aP ?aO ?aB ?aS ?aL ?_; (case aN => simp); (case aP => exact k70_mkM _ _ _ (⟨c.f0, c.f1 + x.f1⟩ : Count)); (case aO => exact hR9); (case aB => exact Below.refl _ _); (case aS => omega); (case aL => (try simp only [List.length_append, List.length_singleton]); omega); intro v7 w7 hR7 hb7 hg7 hat7; obtain ⟨A7, c7, rfl, h7c, h7r⟩ := Kd.R_reads hR7; clear h7c h7r hg7 hat7)
            go_roundg (gk - 1)
            case measure => have := HJ.out; omega
            case rel => exact ⟨j + 1, out ++ [⟨c.f0, c.f1 + x.f1⟩], true, c.f1 + x.f1, rfl, by go_num, by have := HJ.out; omega, (hb7.block _ hsz).trans HB9.out, by simpa using hR7, ⟨HF.out⟩, by simp; omega, ⟨fun e => by cases e⟩, ⟨fun _ => HR1.out⟩, hbX9.trans (hb7.mono (by omega)), Nat.le_trans hs9' hb7.size⟩
          · have HSM : Aside0 (false = decide (x.f0 = c.f0)) := ⟨(decide_eq_false he).symm⟩
            have HF : Aside0 ((out ++ [x]) ++ restC c.f0 c.f1 false (cs.drop (j + 1)) = insC c cs) := ⟨by have h := HE.out; unfold restC at h ⊢; rw [if_neg Bool.false_ne_true, HD.out, insC, if_neg he, if_neg hlo] at h; simpa using h⟩
            clear HD0 HD1 HE hlo he
            go_wp2_with fail
            go_region_held3 (fun w' => w'.cell? ⟨w.heap.size, 0, none⟩ = some (.int .i64 c.f0.f0) ∧ w'.cell? ⟨w.heap.size, 1, none⟩ = some (.int .i64 c.f0.f1.f0) ∧ w'.cell? ⟨w.heap.size, 2, none⟩ = some (.int .i64 c.f0.f1.f1) ∧ w'.cell? (ad.add (j * 4)) = some (.int .i64 x.f0.f0) ∧ w'.cell? ⟨(ad.add (j * 4)).block, (ad.add (j * 4)).off + 1, none⟩ = some (.int .i64 x.f0.f1.f0) ∧ w'.cell? ⟨(ad.add (j * 4)).block, (ad.add (j * 4)).off + 2, none⟩ = some (.int .i64 x.f0.f1.f1))
              (first
                | go_keep
                | (go_split_ands
                   refine ⟨(hb5.cell (by exact hzB)).trans ‹_›, (hb5.cell (by exact hzB)).trans ‹_›, (hb5.cell (by exact hzB)).trans ‹_›, (hb5.cell (by exact hzx)).trans ‹_›, (hb5.cell (by exact hzx)).trans ‹_›, (hb5.cell (by exact hzx)).trans ‹_›⟩))
              ((go_at_call 94; refine (before_calls c.f0 x.f0 false HBF.out _).mono ?_; rintro e w5 ⟨rfl, hb5⟩))
            have hbx : Below wr.heap.size wr w5 := below_then (pw_below_drewN (Below.refl _ _) 1) (by simp) hb5
            replace b0 := (hbx.cell (p := ⟨w.heap.size, 0, none⟩) (by exact hzB)).trans b0
            replace b1 := (hbx.cell (p := ⟨w.heap.size, 1, none⟩) (by exact hzB)).trans b1
            replace b2 := (hbx.cell (p := ⟨w.heap.size, 2, none⟩) (by exact hzB)).trans b2
            replace b3 := (hbx.cell (p := ⟨w.heap.size, 3, none⟩) (by exact hzB)).trans b3
            replace x0 := (hbx.cell (p := ad.add (j * 4)) (by exact hzx)).trans x0
            replace x1 := (hbx.cell (p := ⟨(ad.add (j * 4)).block, (ad.add (j * 4)).off + 1, none⟩) (by exact hzx)).trans x1
            replace x2 := (hbx.cell (p := ⟨(ad.add (j * 4)).block, (ad.add (j * 4)).off + 2, none⟩) (by exact hzx)).trans x2
            replace x3 := (hbx.cell (p := ⟨(ad.add (j * 4)).block, (ad.add (j * 4)).off + 3, none⟩) (by exact hzx)).trans x3
            have hz5 : w.heap.size < w5.heap.size := Nat.lt_of_lt_of_le hzB hbx.size
            have hx5 : (ad.add (j * 4)).block < w5.heap.size := Nat.lt_of_lt_of_le hzx hbx.size
            clear hb5
            go_wp2_with fail
            go_region_held3 (fun w' => w'.cell? ⟨w.heap.size, 0, none⟩ = some (.int .i64 c.f0.f0) ∧ w'.cell? ⟨w.heap.size, 1, none⟩ = some (.int .i64 c.f0.f1.f0) ∧ w'.cell? ⟨w.heap.size, 2, none⟩ = some (.int .i64 c.f0.f1.f1) ∧ w'.cell? (ad.add (j * 4)) = some (.int .i64 x.f0.f0) ∧ w'.cell? ⟨(ad.add (j * 4)).block, (ad.add (j * 4)).off + 1, none⟩ = some (.int .i64 x.f0.f1.f0) ∧ w'.cell? ⟨(ad.add (j * 4)).block, (ad.add (j * 4)).off + 2, none⟩ = some (.int .i64 x.f0.f1.f1))
              (first
                | go_keep
                | (go_split_ands
                   refine ⟨(hb6.cell (by exact hz5)).trans ‹_›, (hb6.cell (by exact hz5)).trans ‹_›, (hb6.cell (by exact hz5)).trans ‹_›, (hb6.cell (by exact hx5)).trans ‹_›, (hb6.cell (by exact hx5)).trans ‹_›, (hb6.cell (by exact hx5)).trans ‹_›⟩))
              ((go_at_call 35; refine (same0_calls x.f0 c.f0 false HSM.out _).mono ?_; rintro e w6 ⟨rfl, hb6⟩))
            have hbx6 : Below w5.heap.size w5 w6 := below_then (pw_below_drewN (Below.refl _ _) 1) (by simp) hb6
            replace b0 := (hbx6.cell (p := ⟨w.heap.size, 0, none⟩) (by exact hz5)).trans b0
            replace b1 := (hbx6.cell (p := ⟨w.heap.size, 1, none⟩) (by exact hz5)).trans b1
            replace b2 := (hbx6.cell (p := ⟨w.heap.size, 2, none⟩) (by exact hz5)).trans b2
            replace b3 := (hbx6.cell (p := ⟨w.heap.size, 3, none⟩) (by exact hz5)).trans b3
            replace x0 := (hbx6.cell (p := ad.add (j * 4)) (by exact hx5)).trans x0
            replace x1 := (hbx6.cell (p := ⟨(ad.add (j * 4)).block, (ad.add (j * 4)).off + 1, none⟩) (by exact hx5)).trans x1
            replace x2 := (hbx6.cell (p := ⟨(ad.add (j * 4)).block, (ad.add (j * 4)).off + 2, none⟩) (by exact hx5)).trans x2
            replace x3 := (hbx6.cell (p := ⟨(ad.add (j * 4)).block, (ad.add (j * 4)).off + 3, none⟩) (by exact hx5)).trans x3
            have hbr6 : Below wr.heap.size wr w6 := hbx.trans (hbx6.mono hbx.size)
            have hR6 := Kd.R_below hR hbr6
            have hbW6 := hbr6.mono hsX
            have hs6 := hbr6.size
            clear hb6
            go_wp2_with (at_builtin; refine app1 kCount (w0 := wr) W1.heap.size rfl (.tmp 51) (.tmp 56) 35 70 (.agg #[.int .i64 0, .int .i64 0, .int .i64 0, .int .i64 0]) 32 rfl Try.underlying35 infoCountA rfl (by decide) (by omega) u5 out x [.int .i64 x.f0.f0, .int .i64 x.f0.f1.f0, .int .i64 x.f0.f1.f1, .int .i64 x.f1] rfl rfl ?aN ?aP ?aO ?aB ?aS ?aL ?_; (case aN => simp); (case aP => exact k70_mkM _ _ _ x); (case aO => exact hR6); (case aB => exact hbW6); (case aS => omega); (case aL => (try simp only [List.length_append, List.length_singleton]); omega); intro v7 w7 hR7 hb7 hg7 hat7; obtain ⟨A7, c7, rfl, h7c, h7r⟩ := Kd.R_reads hR7; clear h7c h7r hg7 hat7)
            go_roundg (gk - 1)
            case measure => have := HJ.out; omega
            case rel => exact ⟨j + 1, out ++ [x], false, c.f1, rfl, by go_num, by have := HJ.out; omega, (hb7.block _ hsz).trans HBX.out, by simpa using hR7, ⟨HF.out⟩, by simp; omega, ⟨fun _ => ⟨by simp; omega, rfl⟩⟩, ⟨fun e => by cases e⟩, hbX.trans (hb7.mono (by omega)), Nat.le_trans hsX hb7.size⟩
    · obtain rfl : j = cs.length := by omega
      clear hj
      have hl2 : out.length ≤ cs.length + 1 := hol
      cases d with
      | true =>
        have HF : Aside0 (out = insC c cs) := ⟨by have h := HE.out; unfold restC at h; rw [if_pos rfl, List.drop_eq_nil_of_le (Nat.le_refl _)] at h; simpa using h⟩
        go_wp2
        go_ret
        exact ⟨_, rfl, by rw [← HF.out]; exact Kd.R_lower hR (by omega), hbX⟩
      | false =>
        obtain ⟨hol2, rfl⟩ := HD0.out rfl
        have HF : Aside0 (out ++ [c] = insC c cs) := ⟨by have h := HE.out; unfold restC at h; rw [if_neg Bool.false_ne_true, List.drop_eq_nil_of_le (Nat.le_refl _)] at h; exact h⟩
        clear HD0
        go_wp2_with (at_builtin; refine app1 kCount (w0 := wr) W1.heap.size rfl (.tmp 60) (.tmp 62) 35 70 (.agg #[.int .i64 0, .int .i64 0, .int .i64 0, .int .i64 0]) 32 rfl Try.underlying35 infoCountA rfl (by decide) (by omega) u5 out c [.int .i64 c.f0.f0, .int .i64 c.f0.f1.f0, .int .i64 c.f0.f1.f1, .int .i64 c.f1] rfl rfl ?aN ?aP ?aO ?aB ?aS ?aL ?_; (case aN => simp); (case aP => exact k70_mkM _ _ _ c); (case aO => exact hR); (case aB => exact Below.refl _ _); (case aS => exact hsX); (case aL => (try simp only [List.length_append, List.length_singleton]); omega); intro v6 w6 hR6 hb6 hg6 hat6; obtain ⟨A6, c6, rfl, h6c, h6r⟩ := Kd.R_reads hR6; clear h6c h6r hg6 hat6)
        go_ret
        exact ⟨_, rfl, by rw [← HF.out]; have := Kd.R_lower hR6 (base' := w.heap.size) (by omega); simpa using this, hbX.trans (hb6.mono (by omega))⟩
end Go.Proofs.Ytiooalhfhnddjaa
end
section
set_option linter.unusedVariables false
set_option linter.unusedSimpArgs false
namespace Go.Proofs.Ytiooalhfhnddjaa
open Go.RowKit Go.Proofs.Ytiooalhfhnddjaa.MM Go.Proofs.Ytiooalhfhnddjaa.PX Go.Proofs.YtiooalhfhnddjaaW.PrintWords
theorem infoCount : (Try.prog.info? 70).map (fun i => (i.zero, i.size, i.bytes)) = some (some (.agg #[(.int .i64 0), (.int .i64 0), (.int .i64 0), (.int .i64 0)]), 4, 32) := by kernel_rfl
def RUpdPost (w : World) (base m : Nat) (A : Option Addr) (c : Nat) (g : List Op) (cs L : List Count) (e : Ending) (w' : World) : Prop :=
  e = .returned (.int .i64 (rErr g cs L)) ∧ RTrkAt w' base m A c g (rNext g cs L) ∧ w.grownBy w' (some m)
theorem RUpdPost.bad {w w' : World} {base m : Nat} {A : Option Addr} {c : Nat} {g : List Op} {cs L : List Count} {n : Int} (h : RTrkAt w base m A c g cs) (hb : Below w.heap.size w w') (he : rErr g cs L = n) (hn : n ≠ 0) : RUpdPost w base m A c g cs L (.returned (.int .i64 n)) w' := by
  refine ⟨by rw [he], ?_, grown_below hb _⟩
  unfold rNext
  rw [if_neg (by rw [he]; exact hn)]
  exact h.below hb
theorem addsC_bd {cs L : List Count} (ha : Asc cs) (hbd : ∀ s, -4611686018427387904 ≤ tot cs s ∧ tot cs s ≤ 4611686018427387904) (hL : ∀ x ∈ L, -2147483648 ≤ x.f1 ∧ x.f1 ≤ 2147483648) (hl : L.length ≤ 1000000000) : ∀ x ∈ addsC cs L, -7000000000000000000 ≤ x.f1 ∧ x.f1 ≤ 7000000000000000000 := by
  intro x hx
  have h1 := asc_tot (addsC_asc ha L) hx
  rw [addsC_tot] at h1
  have h2 := hbd x.f0
  have h3 := tot_bd L x.f0 hL
  omega
def nzs (L : List Count) : List Count := L.filter (fun c => decide (c.f1 ≠ 0))
theorem left_snoc_pos {L : List Count} {x : Count} (h : x.f1 ≠ 0) : nzs (L ++ [x]) = nzs L ++ [x] := by simp [nzs, List.filter_append, h]
theorem left_snoc_neg {L : List Count} {x : Count} (h : x.f1 = 0) : nzs (L ++ [x]) = nzs L := by simp [nzs, List.filter_append, h]
set_option maxRecDepth 100000 in
set_option maxHeartbeats 4000000 in
theorem rUpdate_calls (w : World) {base m : Nat} {A : Option Addr} {c : Nat} {g : List Op} {cs : List Count} (h : RTrkAt w base m A c g cs) (hr : Kd.C kOp w A g.length g) (hc : g.length ≤ c) (hil : ∀ o ∈ g, o.f1.length ≤ 1000000000)
    (ha : Asc cs) (hbd : ∀ s, -4611686018427387904 ≤ tot cs s ∧ tot cs s ≤ 4611686018427387904) (hsz : cs.length ≤ 1000000000)
    (lA : Option Addr) (lc : Nat) (L : List Count) (hL : Kd.C kCount w lA L.length L) (hLn : L.length ≤ 1000000000) :
    Calls Try.prog 18 #[.pointer (some ⟨m, 0, none⟩), .slice lA L.length lc] w (RUpdPost w base m A c g cs L) := by
  have hml := h.lt
  have HT := Aside0.mk h
  have HIL := Aside0.mk hil
  have HASC := Aside0.mk ha
  have HBD := Aside0.mk hbd
  obtain ⟨cv, h1, h2, h3⟩ := h
  obtain ⟨cA, cc, rfl, hcc, hcr⟩ := Kd.R_reads h3
  have k0 : w.cell? ⟨m, 0, none⟩ = some (.slice A g.length c) := by simp [World.cell?, h2]
  have k1 : w.cell? ⟨m, 1, none⟩ = some (.slice cA cs.length cc) := by simp [World.cell?, h2]
  have H2 := Aside0.mk h2
  clear h2 hil ha hbd
  go_enter Try.func18, Try.ntmps18
  go_wp2
  go_loopg [5] L.length (fun kq v5 wr => ∃ k : Nat, v5 = .int .i64 k ∧ k + kq = L.length ∧ Below w.heap.size w wr ∧ Aside0 (∀ x ∈ L.take k, countBad g x = false))
  case atStart => exact ⟨0, rfl, by simp, Below.refl _ _, ⟨by simp⟩⟩
  case round =>
    obtain ⟨k, rfl, hk, hb, HG⟩ := hrel
    have HK := Aside0.mk hk
    by_cases hlt : k < L.length
    · obtain ⟨ad, e1, x0, x1, x2, x3⟩ := at_T70 hL (k : Int) (by omega) (by omega)
      cases e1
      simp only [Int.toNat_natCast] at x0 x1 x2 x3
      have hx := rd_get hlt
      generalize rd_T70 L k = x at x0 x1 x2 x3 hx
      have HX := Aside0.mk hx
      replace x0 := (hb.cell (World.block_lt_of_cell? w _ x0)).trans x0
      replace x1 := (hb.cell (World.block_lt_of_cell? w _ x1)).trans x1
      replace x2 := (hb.cell (World.block_lt_of_cell? w _ x2)).trans x2
      replace x3 := (hb.cell (World.block_lt_of_cell? w _ x3)).trans x3
      have k0' := (hb.cell (World.block_lt_of_cell? w _ k0)).trans k0
      have hmr : m < wr.heap.size := Nat.lt_of_lt_of_le hml hb.size
      have hxl := World.block_lt_of_cell? _ _ x0
      have HBAD : countBad g x = true → Aside0 (rErr g cs L = 1) := fun hbad => ⟨by
        unfold rErr
        rw [if_pos (List.any_eq_true.2 ⟨x, List.mem_of_getElem? hx, hbad⟩)]⟩
      clear hk hx k0 k1
      by_cases hlo : x.f1 < -2147483648
      · have d1 : decide (x.f1 < -2147483648) = true := decide_eq_true hlo
        have HB1 := HBAD (by simp [countBad, hlo])
        clear HBAD
        go_wp2_with fail
        go_quiet (fail)
        go_wp2
        go_ret
        exact RUpdPost.bad HT.out (pw_below_drewN hb _) HB1.out (by omega)
      · have d1 : decide (x.f1 < -2147483648) = false := decide_eq_false hlo
        by_cases hhi : 2147483648 < x.f1
        · have d2 : decide (2147483648 < x.f1) = true := decide_eq_true hhi
          have HB1 := HBAD (by simp [countBad, hhi])
          clear HBAD
          go_wp2_with fail
          go_quiet (fail)
          go_wp2
          go_ret
          exact RUpdPost.bad HT.out (pw_below_drewN hb _) HB1.out (by omega)
        · have d2 : decide (2147483648 < x.f1) = false := decide_eq_false hhi
          have hgr := Kd.C_below hr hb
          have HB1 : goodB g x.f0 = false → Aside0 (rErr g cs L = 1) := fun hg => HBAD (by simp [countBad, hg])
          have HB2 : goodB g x.f0 = true → Aside0 (countBad g x = false) := fun hg => ⟨by simp only [countBad, hg]; simp; omega⟩
          clear HBAD
          go_wp2_with fail
          go_region_held3 (fun w' => w'.cell? ⟨m, 0, none⟩ = some (.slice A g.length c) ∧ w'.cell? (ad.add (k * 4)) = some (.int .i64 x.f0.f0) ∧ w'.cell? ⟨(ad.add (k * 4)).block, (ad.add (k * 4)).off + 1, none⟩ = some (.int .i64 x.f0.f1.f0) ∧ w'.cell? ⟨(ad.add (k * 4)).block, (ad.add (k * 4)).off + 2, none⟩ = some (.int .i64 x.f0.f1.f1) ∧ w'.cell? ⟨(ad.add (k * 4)).block, (ad.add (k * 4)).off + 3, none⟩ = some (.int .i64 x.f1))
            (first
              | go_keep
              | (go_split_ands
                 refine ⟨(hb2.cell (by simpa using hmr)).trans ‹_›, (hb2.cell (by simpa using hxl)).trans ‹_›, (hb2.cell (by simpa using hxl)).trans ‹_›, (hb2.cell (by simpa using hxl)).trans ‹_›, (hb2.cell (by simpa using hxl)).trans ‹_›⟩))
            ((go_at_call 58; refine (rGood_calls _ A c g x.f0 ?hr hc HIL.out).mono ?_; (case hr => exact Kd.C_below hgr (below_drew (Below.refl _ _))); rintro e w2 ⟨rfl, hb2⟩))
          have hbx : Below w.heap.size w w2 := below_then (pw_below_drewN hb 1) hb.size hb2
          cases hg : goodB g x.f0 with
          | false =>
            have HB3 := HB1 hg
            clear HB1 HB2 hb2
            go_wp2
            go_ret
            exact RUpdPost.bad HT.out hbx HB3.out (by omega)
          | true =>
            have HB3 := HB2 hg
            clear HB1 HB2 hb2
            go_wp2
            go_roundg (gk - 1)
            case measure => have := HK.out; omega
            case rel => exact ⟨k + 1, by go_num, by have := HK.out; omega, hbx, ⟨by
              rw [take_snoc_of HX.out]
              intro y hy
              rcases List.mem_append.1 hy with hy | hy
              · exact HG.out y hy
              · rw [List.mem_singleton.1 hy]; exact HB3.out⟩⟩
    · obtain rfl : k = L.length := by omega
      obtain ⟨wo, rfl⟩ : ∃ wo : World, wo = wr := ⟨_, rfl⟩
      have HG1 : Aside0 (∀ x ∈ L, countBad g x = false) := ⟨by have := HG.out; rwa [List.take_length] at this⟩
      have HLB : Aside0 (∀ x ∈ L, -2147483648 ≤ x.f1 ∧ x.f1 ≤ 2147483648) := ⟨fun x hx => by have := countBad_false (HG1.out x hx); omega⟩
      clear hk HK HG hlt
      have k1' := (hb.cell (World.block_lt_of_cell? w _ k1)).trans k1
      have h3o := Kd.R_below h3 hb
      have hmo : m < wo.heap.size := Nat.lt_of_lt_of_le hml hb.size
      clear k1 k0
      go_wp2
      go_loopg [6, 7] L.length (fun kq v6 v7 w1 => ∃ k : Nat, v7 = .int .i64 k ∧ k + kq = L.length ∧ Below w.heap.size w w1 ∧ Kd.R kCount 70 w1 base (fun _ => True) v6 (addsC cs (L.take k)))
      case atStart => exact ⟨0, rfl, by simp, hb, by simpa [addsC] using h3o⟩
      case round =>
        obtain ⟨k, rfl, hk, hb1, hR⟩ := hrel
        have HK := Aside0.mk hk
        by_cases hlt : k < L.length
        · obtain ⟨ad, e1, x0, x1, x2, x3⟩ := at_T70 hL (k : Int) (by omega) (by omega)
          cases e1
          simp only [Int.toNat_natCast] at x0 x1 x2 x3
          have hx := rd_get hlt
          generalize rd_T70 L k = x at x0 x1 x2 x3 hx
          have HX := Aside0.mk hx
          replace x0 := (hb1.cell (World.block_lt_of_cell? w _ x0)).trans x0
          replace x1 := (hb1.cell (World.block_lt_of_cell? w _ x1)).trans x1
          replace x2 := (hb1.cell (World.block_lt_of_cell? w _ x2)).trans x2
          replace x3 := (hb1.cell (World.block_lt_of_cell? w _ x3)).trans x3
          have hxb := HLB.out x (List.mem_of_getElem? hx)
          obtain ⟨nx, hnx⟩ : ∃ nx, nx = addsC cs (L.take k) := ⟨_, rfl⟩
          rw [← hnx] at hR
          have hbds := addsC_bd HASC.out HBD.out (fun y hy => HLB.out y (List.mem_of_mem_take hy)) (Nat.le_trans (List.length_take_le _ _) (by omega : k ≤ 1000000000))
          have hasc := addsC_asc HASC.out (L.take k)
          have hlen := addsC_len cs (L.take k)
          rw [List.length_take] at hlen
          rw [← hnx] at hbds hasc hlen
          obtain ⟨nA, nc, rfl, hnc, hnr⟩ := Kd.R_reads hR
          have hAC := fun W hW => rAdd_calls W nA nc nx (hW) hnc hasc (by omega) x (fun y hy => by have := hbds y hy; omega)
          have HAC := Aside0.mk hAC
          have HNX := Aside0.mk hnx
          clear hk hx hnx hbds hasc hxb hAC
          go_wp2_with (go_at_call 59; refine (HAC.out _ ?hr).mono ?_; (case hr => exact hnr); rintro e w2 ⟨v, rfl, hR2, hb2⟩)
          go_roundg (gk - 1)
          case measure => have := HK.out; omega
          case rel => exact ⟨k + 1, by go_num, by have := HK.out; omega, below_then hb1 hb1.size hb2, by
            rw [take_snoc_of HX.out, addsC_snoc, ← HNX.out]
            exact Kd.R_lower hR2 (by have := hb1.size; omega)⟩
        · obtain rfl : k = L.length := by omega
          rw [List.take_length] at hR
          obtain ⟨w0, rfl⟩ : ∃ w0 : World, w0 = wr := ⟨_, rfl⟩
          obtain ⟨nx, hnx⟩ : ∃ nx, nx = addsC cs L := ⟨_, rfl⟩
          rw [← hnx] at hR
          have hbds := addsC_bd HASC.out HBD.out HLB.out hLn
          have hlen := addsC_len cs L
          rw [← hnx] at hbds hlen
          obtain ⟨nA, nc, rfl, hnc, hnr⟩ := Kd.R_reads hR
          have HNX := Aside0.mk hnx
          have HBS := Aside0.mk hbds
          have HOV : Aside0 (L.any (countBad g) = false) := ⟨by
            rw [List.any_eq_false]
            intro x hx
            rw [HG1.out x hx]
            exact Bool.false_ne_true⟩
          clear hk HK hlt hnx hbds HG1 HLB
          go_wp2
          go_loopg [8, 9] nx.length (fun kq v8 v9 w1 => ∃ k : Nat, v9 = .int .i64 k ∧ k + kq = nx.length ∧ Below w0.heap.size w0 w1 ∧ Kd.R kCount 70 w1 w0.heap.size (fun _ => True) v8 (nzs (nx.take k)) ∧ Aside0 (∀ x ∈ nx.take k, tooB x = false))
          case atStart => exact ⟨0, rfl, by simp, Below.refl _ _, Kd.R_nil _ _ _ _ _, ⟨by simp⟩⟩
          case round =>
            obtain ⟨k, rfl, hk, hb2, hR8, HS⟩ := hrel
            have HK := Aside0.mk hk
            have hb20 := below_then hb1 hb1.size hb2
            by_cases hlt : k < nx.length
            · obtain ⟨ad, e1, x0, x1, x2, x3⟩ := at_T70 hnr (k : Int) (by omega) (by omega)
              cases e1
              simp only [Int.toNat_natCast] at x0 x1 x2 x3
              have hx := rd_get hlt
              generalize rd_T70 nx k = x at x0 x1 x2 x3 hx
              have HX := Aside0.mk hx
              replace x0 := (hb2.cell (World.block_lt_of_cell? w0 _ x0)).trans x0
              replace x1 := (hb2.cell (World.block_lt_of_cell? w0 _ x1)).trans x1
              replace x2 := (hb2.cell (World.block_lt_of_cell? w0 _ x2)).trans x2
              replace x3 := (hb2.cell (World.block_lt_of_cell? w0 _ x3)).trans x3
              have hfl : (nzs (nx.take k)).length ≤ k := by unfold nzs; exact Nat.le_trans (List.length_filter_le _ _) (List.length_take_le _ _)
              have HBAD : tooB x = true → Aside0 (rErr g cs L = 14) := fun hbad => ⟨by
                unfold rErr
                rw [HOV.out, if_neg Bool.false_ne_true, if_pos (List.any_eq_true.2 ⟨x, by rw [← HNX.out]; exact List.mem_of_getElem? hx, hbad⟩)]⟩
              clear hk hx
              by_cases hhi : 4611686018427387904 < x.f1
              · have d1 : decide (4611686018427387904 < x.f1) = true := decide_eq_true hhi
                have HB1 := HBAD (by simp [tooB, hhi])
                clear HBAD
                go_wp2
                go_ret
                exact RUpdPost.bad HT.out hb20 HB1.out (by omega)
              · have d1 : decide (4611686018427387904 < x.f1) = false := decide_eq_false hhi
                by_cases hlo : x.f1 < -4611686018427387904
                · have d2 : decide (x.f1 < -4611686018427387904) = true := decide_eq_true hlo
                  have HB1 := HBAD (by simp [tooB, hlo])
                  clear HBAD
                  go_wp2
                  go_ret
                  exact RUpdPost.bad HT.out hb20 HB1.out (by omega)
                · have d2 : decide (x.f1 < -4611686018427387904) = false := decide_eq_false hlo
                  have HOK : Aside0 (tooB x = false) := ⟨by simp [tooB]; omega⟩
                  clear HBAD
                  have HS2 : Aside0 (∀ y ∈ nx.take (k + 1), tooB y = false) := ⟨by
                    rw [take_snoc_of HX.out]
                    intro y hy
                    rcases List.mem_append.1 hy with hy | hy
                    · exact HS.out y hy
                    · rw [List.mem_singleton.1 hy]; exact HOK.out⟩
                  by_cases hz : x.f1 = 0
                  · have d3 : (x.f1 != 0) = false := by simp [hz]
                    have HZ := Aside0.mk hz
                    clear hz
                    go_wp2
                    go_roundg (gk - 1)
                    case measure => have := HK.out; omega
                    case rel => exact ⟨k + 1, by go_num, by have := HK.out; omega, hb2, by rw [take_snoc_of HX.out, left_snoc_neg HZ.out]; exact hR8, HS2⟩
                  · have d3 : (x.f1 != 0) = true := bne_iff_ne.2 hz
                    have HZ := Aside0.mk hz
                    clear hz
                    go_wp2_with (at_builtin; refine app1 kCount (w0 := w0) w0.heap.size rfl (.tmp 85) (.tmp 90) 35 70 (.agg #[.int .i64 0, .int .i64 0, .int .i64 0, .int .i64 0]) 32 rfl Try.underlying35 infoCount rfl (by decide) (by omega) u8 (nzs (nx.take k)) x [.int .i64 x.f0.f0, .int .i64 x.f0.f1.f0, .int .i64 x.f0.f1.f1, .int .i64 x.f1] rfl rfl ?aN ?aP ?aO ?aB ?aS ?aL ?_; (case aN => simp); (case aP => exact k70_mkM _ _ _ x); (case aO => exact hR8); (case aB => exact hb2); (case aS => exact hb2.size); (case aL => omega); intro v1 w3 hR3 hb3 hg3 hat3)
                    go_roundg (gk - 1)
                    case measure => have := HK.out; omega
                    case rel => exact ⟨k + 1, by go_num, by have := HK.out; omega, hb3, by rw [take_snoc_of HX.out, left_snoc_pos HZ.out]; exact hR3, HS2⟩
            · obtain rfl : k = nx.length := by omega
              rw [List.take_length] at hR8 HS
              have HE : Aside0 (rErr g cs L = 0) := ⟨by
                unfold rErr
                rw [HOV.out, if_neg Bool.false_ne_true, if_neg]
                rw [Bool.not_eq_true, List.any_eq_false]
                intro y hy
                rw [HS.out y (by rw [HNX.out]; exact hy)]
                exact Bool.false_ne_true⟩
              have hB := Aside0.mk (blk_below H2.out hb20)
              have d0 : wr.frozen? ⟨m, 1, none⟩ = false := blk_frozen hB.out 1
              have d1 : wr.cell? ⟨m, 1, none⟩ = some (.slice cA cs.length cc) := (blk_cell hB.out 1).trans rfl
              obtain ⟨A8, c8, rfl, h8c, h8r⟩ := Kd.R_reads hR8
              clear hk k1' h8c h8r
              go_wp2
              go_ret
              refine ⟨by rw [HE.out]; rfl, ⟨_, h1, blk_set hB.out 1 _, ?_⟩, ?_⟩
              · unfold rNext
                rw [if_pos HE.out]
                unfold leftC
                rw [← HNX.out]
                have hbs : base ≤ w0.heap.size := by have := hb1.size; omega
                exact Kd.R_set (Kd.R_lower hR8 hbs) hB.out (by decide) 1 _
              · have hg := grown_below hb20 (some m)
                exact ⟨hg.os, hg.tape, hg.output, by simp [World.setCell]; exact hb20.size, fun j hj hne => (Below.heap_setCell wr ⟨m, 1, none⟩ _ j (fun e => hne (by rw [e]))).trans (hg.block j hj hne)⟩
end Go.Proofs.Ytiooalhfhnddjaa
end
section
set_option linter.unusedVariables false
set_option linter.unusedSimpArgs false
namespace Go.Proofs.Ytiooalhfhnddjaa
open Go.RowKit Go.Proofs.Ytiooalhfhnddjaa.MM Go.Proofs.Ytiooalhfhnddjaa.PX Go.Proofs.YtiooalhfhnddjaaW.PrintWords
theorem infoTimeT : (Try.prog.info? 43).map (fun i => (i.zero, i.size, i.bytes)) = some (some (.agg #[(.int .i64 0), (.int .i64 0)]), 2, 16) := by kernel_rfl
theorem rtGood_calls (t : Time) (r : Bool) (h : r = tgood t) (w : World) : Calls Try.prog 93 #[.agg #[.int .i64 t.f0, .int .i64 t.f1]] w fun e w' => e = .returned (.bool r) ∧ Below w.heap.size w w' :=
  millraceref16_Good.calls _ _ _ w (by rw [h]; exact r16_Good _ _)
theorem rtLe_calls (a b : Time) (r : Bool) (h : r = tle a b) (w : World) : Calls Try.prog 102 #[.agg #[.int .i64 a.f0, .int .i64 a.f1], .agg #[.int .i64 b.f0, .int .i64 b.f1]] w fun e w' => e = .returned (.bool r) ∧ Below w.heap.size w w' :=
  millraceref16_Le.calls _ _ _ _ _ w (by rw [h]; exact r16_Le _ _ _ _)
theorem rtCov_calls (w : World) (A : Option Addr) (c : Nat) (F : List Time) (hF : Kd.C kTime w A F.length F) (hc : F.length ≤ c) (hl : F.length ≤ 2000000000) (t : Time) (r : Bool) (h : r = covB F t) : Calls Try.prog 131 #[.slice A F.length c, .agg #[.int .i64 t.f0, .int .i64 t.f1]] w fun e w' => e = .returned (.bool r) ∧ Below w.heap.size w w' := by
  obtain ⟨k, hk⟩ := (r16_Covers F hl t.f0 t.f1).rounds
  rw [h]
  exact millraceref16_Covers.calls k A c F _ _ _ w hF hc hk
theorem insT_step {t o : Time} {r : List Time} {d : Bool} : insT t (o :: r) d = if tle t o then insT t r d else if !d && decide (t.f0 < o.f0) then t :: o :: insT t r true else o :: insT t r d := rfl
set_option maxRecDepth 100000 in
set_option maxHeartbeats 4000000 in
theorem rFrT_calls (w : World) (A : Option Addr) (c : Nat) (L : List Time) (hr : Kd.C kTime w A L.length L) (hc : L.length ≤ c) (hln : L.length ≤ 1000000000) :
    Calls Try.prog 101 #[.slice A L.length c] w fun e w' => ∃ v, e = .returned v ∧ Kd.R kTime 43 w' w.heap.size (fun _ => True) v (frontT L) ∧ Below w.heap.size w w' := by
  go_enter Try.func101, Try.ntmps101
  go_wp2
  go_loopg [3, 4] L.length (fun kq v3 v4 wr => ∃ i : Nat, v4 = .int .i64 i ∧ i + kq = L.length ∧ Kd.R kTime 43 wr w.heap.size (fun _ => True) v3 (frontT (L.take i)) ∧ Below w.heap.size w wr)
  case atStart => exact ⟨0, rfl, by simp, Kd.R_nil _ _ _ _ _, Below.refl _ _⟩
  case round =>
    obtain ⟨i, rfl, hk, hR, hb⟩ := hrel
    have HK := Aside0.mk hk
    by_cases hlt : i < L.length
    · obtain ⟨ad, e1, x0, x1⟩ := at_T43 hr (i : Int) (by omega) (by omega)
      cases e1
      simp only [Int.toNat_natCast] at x0 x1
      have HTK := Aside0.mk (take_rdT hlt)
      generalize rd_T43 L (i : Int) = t at x0 x1 HTK
      replace x0 := (hb.cell (World.block_lt_of_cell? w _ x0)).trans x0
      replace x1 := (hb.cell (World.block_lt_of_cell? w _ x1)).trans x1
      have hxb := World.block_lt_of_cell? _ _ x0
      have hFl := frontT_len (L.take i)
      rw [List.length_take] at hFl
      obtain ⟨F, hF⟩ : ∃ F, F = frontT (L.take i) := ⟨_, rfl⟩
      rw [← hF] at hR hFl
      have HST : Aside0 (frontT (L.take (i + 1)) = stepT F t) := ⟨by rw [HTK.out, frontT_snoc, ← hF]⟩
      have HRo := Aside0.mk hR
      obtain ⟨fA, fc, rfl, hfc, hfr⟩ := Kd.R_reads hR
      clear hk hF HTK hR
      obtain ⟨g, hg⟩ : ∃ g, g = tgood t := ⟨_, rfl⟩
      obtain ⟨b, hbv⟩ : ∃ b, b = covB F t := ⟨_, rfl⟩
      have HG := Aside0.mk hg
      have HB := Aside0.mk hbv
      have HS2 : Aside0 (stepT F t = if !g || b then F else insT t F false) := ⟨by rw [hg, hbv]; rfl⟩
      clear hg hbv
      cases g with
      | false =>
        go_wp2_with (go_at_call 93; refine (rtGood_calls t false HG.out _).mono ?_; rintro e w1 ⟨rfl, hb1⟩)
        go_roundg (gk - 1)
        case measure => have := HK.out; omega
        case rel => exact ⟨i + 1, by go_num, by have := HK.out; omega, by rw [HST.out, HS2.out]; exact Kd.R_below HRo.out hb1, below_then hb hb.size hb1⟩
      | true =>
        cases b with
        | true =>
          go_wp2_with (first | (go_at_call 93; refine (rtGood_calls t true HG.out _).mono ?_; rintro e w1 ⟨rfl, hb1⟩; have z0 := (hb1.cell (by exact hxb)).trans x0; have z1 := (hb1.cell (by exact hxb)).trans x1) | (go_at_call 131; refine (rtCov_calls w1 fA fc F (Kd.C_below hfr hb1) hfc (by omega) t true HB.out).mono ?_; rintro e w2 ⟨rfl, hb2⟩))
          go_roundg (gk - 1)
          case measure => have := HK.out; omega
          case rel => exact ⟨i + 1, by go_num, by have := HK.out; omega, by rw [HST.out, HS2.out]; exact Kd.R_below (Kd.R_below HRo.out hb1) hb2, below_then (below_then hb hb.size hb1) (Nat.le_trans hb.size hb1.size) hb2⟩
        | false =>
          go_wp2_with (first | (go_at_call 93; refine (rtGood_calls t true HG.out _).mono ?_; rintro e w1 ⟨rfl, hb1⟩; have z0 := (hb1.cell (by exact hxb)).trans x0; have z1 := (hb1.cell (by exact hxb)).trans x1) | (go_at_call 131; refine (rtCov_calls w1 fA fc F (Kd.C_below hfr hb1) hfc (by omega) t false HB.out).mono ?_; rintro e w2 ⟨rfl, hb2⟩))
          have hxb1 := Nat.lt_of_lt_of_le hxb hb1.size
          replace z0 := (hb2.cell (by exact hxb1)).trans z0
          replace z1 := (hb2.cell (by exact hxb1)).trans z1
          have hxb2 := Nat.lt_of_lt_of_le hxb1 hb2.size
          have hb20 := below_then (below_then hb hb.size hb1) (Nat.le_trans hb.size hb1.size) hb2
          have hfr2 := Kd.C_below (Kd.C_below hfr hb1) hb2
          clear x0 x1 hb1 hb2 hfr hb hxb hxb1
          obtain ⟨go, rfl⟩ : ∃ go, go = gk := ⟨_, rfl⟩
          go_loopg [5, 6, 7] F.length (fun kq v5 v6 v7 W => ∃ (j : Nat) (left : List Time) (d : Bool), v6 = .bool d ∧ v7 = .int .i64 j ∧ j + kq = F.length ∧ Kd.R kTime 43 W w2.heap.size (fun _ => True) v5 left ∧ Aside0 (left ++ insT t (F.drop j) d = insT t F false) ∧ left.length ≤ j + 1 ∧ (d = false → left.length ≤ j) ∧ Below w2.heap.size w2 W)
          case atStart => exact ⟨0, [], false, rfl, rfl, by simp, Kd.R_nil _ _ _ _ _, ⟨by simp⟩, by simp, (fun _ => by simp), Below.refl _ _⟩
          case round =>
            obtain ⟨j, left, d, rfl, rfl, hj, hRl, HE, hl1, hl2, hbW⟩ := hrel
            have HJ := Aside0.mk hj
            have HL2 := Aside0.mk hl2
            clear hl2
            by_cases hlj : j < F.length
            · obtain ⟨fd, e2, y0, y1⟩ := at_T43 hfr2 (j : Int) (by omega) (by omega)
              cases e2
              simp only [Int.toNat_natCast] at y0 y1
              have HD := Aside0.mk (drop_rdT hlj)
              generalize rd_T43 F (j : Int) = o at y0 y1 HD
              have Y0 := Aside0.mk y0
              have Y1 := Aside0.mk y1
              have hyw := World.block_lt_of_cell? _ _ y0
              have Z0 := Aside0.mk z0
              have Z1 := Aside0.mk z1
              replace y0 := (hbW.cell (World.block_lt_of_cell? w2 _ y0)).trans y0
              replace y1 := (hbW.cell (World.block_lt_of_cell? w2 _ y1)).trans y1
              replace z0 := (hbW.cell (by exact hxb2)).trans z0
              replace z1 := (hbW.cell (by exact hxb2)).trans z1
              have hyb := World.block_lt_of_cell? _ _ y0
              have hzb := World.block_lt_of_cell? _ _ z0
              obtain ⟨le, hle⟩ : ∃ le, le = tle t o := ⟨_, rfl⟩
              have HLE := Aside0.mk hle
              have HIN : Aside0 (insT t (F.drop j) d = if le then insT t (F.drop (j + 1)) d else if !d && decide (t.f0 < o.f0) then t :: o :: insT t (F.drop (j + 1)) true else o :: insT t (F.drop (j + 1)) d) := ⟨by rw [HD.out, insT_step, hle]⟩
              clear hj hle
              cases le with
              | true =>
                go_wp2_with fail
                go_region_held3 (fun w' => w'.cell? (ad.add (i * 2)) = some (.int .i64 t.f0) ∧ w'.cell? ⟨(ad.add (i * 2)).block, (ad.add (i * 2)).off + 1, none⟩ = some (.int .i64 t.f1) ∧ w'.cell? (fd.add (j * 2)) = some (.int .i64 o.f0) ∧ w'.cell? ⟨(fd.add (j * 2)).block, (fd.add (j * 2)).off + 1, none⟩ = some (.int .i64 o.f1))
                  (first
                    | go_keep
                    | (go_split_ands
                       refine ⟨(hb5.cell (by exact hzb)).trans ‹_›, (hb5.cell (by exact hzb)).trans ‹_›, (hb5.cell (by exact hyb)).trans ‹_›, (hb5.cell (by exact hyb)).trans ‹_›⟩))
                  ((go_at_call 102; refine (rtLe_calls t o true HLE.out _).mono ?_; rintro e w5 ⟨rfl, hb5⟩))
                have hbx : Below wr.heap.size wr w5 := below_then (pw_below_drewN (Below.refl _ _) 1) (by simp) hb5
                clear hb5
                go_wp2
                go_roundg (gk - 1)
                case measure => have := HJ.out; omega
                case rel => exact ⟨j + 1, left, d, rfl, by go_num, by have := HJ.out; omega, Kd.R_below hRl hbx, ⟨by have h := HE.out; rw [HIN.out] at h; exact h⟩, by omega, (fun e => by have := HL2.out e; omega), below_then hbW hbW.size hbx⟩
              | false =>
                go_wp2_with fail
                go_region_held3 (fun w' => w'.cell? (ad.add (i * 2)) = some (.int .i64 t.f0) ∧ w'.cell? ⟨(ad.add (i * 2)).block, (ad.add (i * 2)).off + 1, none⟩ = some (.int .i64 t.f1) ∧ w'.cell? (fd.add (j * 2)) = some (.int .i64 o.f0) ∧ w'.cell? ⟨(fd.add (j * 2)).block, (fd.add (j * 2)).off + 1, none⟩ = some (.int .i64 o.f1))
                  (first
                    | go_keep
                    | (go_split_ands
                       refine ⟨(hb5.cell (by exact hzb)).trans ‹_›, (hb5.cell (by exact hzb)).trans ‹_›, (hb5.cell (by exact hyb)).trans ‹_›, (hb5.cell (by exact hyb)).trans ‹_›⟩))
                  ((go_at_call 102; refine (rtLe_calls t o false HLE.out _).mono ?_; rintro e w5 ⟨rfl, hb5⟩; have q0 := (hb5.cell (p := ad.add (i * 2)) (by exact hzb)).trans z0; have q1 := (hb5.cell (p := ⟨(ad.add (i * 2)).block, (ad.add (i * 2)).off + 1, none⟩) (by exact hzb)).trans z1; have r0 := (hb5.cell (p := fd.add (j * 2)) (by exact hyb)).trans y0; have r1 := (hb5.cell (p := ⟨(fd.add (j * 2)).block, (fd.add (j * 2)).off + 1, none⟩) (by exact hyb)).trans y1))
                have hbx : Below wr.heap.size wr w5 := below_then (pw_below_drewN (Below.refl _ _) 1) (by simp) hb5
                have hb50 := below_then hbW hbW.size hbx
                have hR5 := Kd.R_below hRl hbx
                clear hb5 y0 y1 z0 z1 hRl
                have HL3 : Aside0 (d = false → left.length ≤ j) := HL2
                cases d with
                | true =>
                  go_wp2_with fail
                  go_quiet (fail)
                  go_wp2_with (at_builtin; refine app1 kTime (w0 := w2) w2.heap.size rfl (.tmp 65) (.tmp 70) 64 43 (.agg #[.int .i64 0, .int .i64 0]) 16 rfl Try.underlying64 infoTimeT rfl (by decide) (by omega) u5 left o [.int .i64 o.f0, .int .i64 o.f1] rfl rfl ?aN ?aP ?aO ?aB ?aS ?aL ?_; (case aN => simp); (case aP => exact k43_mkM _ _ _ o); (case aO => exact Kd.R_drewN hR5 _); (case aB => exact pw_below_drewN hb50 _); (case aS => exact hb50.size); (case aL => (try simp only [List.length_append, List.length_singleton]); omega); intro v6 w6 hR6 hb6 hg6 hat6; obtain ⟨A6, c6, rfl, h6c, h6r⟩ := Kd.R_reads hR6; clear h6c h6r hg6 hat6)
                  go_roundg (gk - 1)
                  case measure => have := HJ.out; omega
                  case rel => exact ⟨j + 1, left ++ [o], true, rfl, by go_num, by have := HJ.out; omega, by simpa using hR6, ⟨by have h := HE.out; rw [HIN.out] at h; simpa using h⟩, by simp; omega, (fun e => by cases e), hb6⟩
                | false =>
                  by_cases hlo : t.f0 < o.f0
                  · have hd : decide (t.f0 < o.f0) = true := decide_eq_true hlo
                    go_wp2_with fail
                    go_quiet (fail)
                    go_wp2_with (first | (at_builtin; refine app1 kTime (w0 := w2) w2.heap.size rfl (.tmp 58) (.tmp 63) 64 43 (.agg #[.int .i64 0, .int .i64 0]) 16 rfl Try.underlying64 infoTimeT rfl (by decide) (by omega) u5 left t [.int .i64 t.f0, .int .i64 t.f1] rfl rfl ?aN ?aP ?aO ?aB ?aS ?aL ?_; (case aN => simp); (case aP => exact k43_mkM _ _ _ t); (case aO => exact Kd.R_drewN hR5 _); (case aB => exact pw_below_drewN hb50 _); (case aS => exact hb50.size); (case aL => (try simp only [List.length_append, List.length_singleton]); omega); intro v6 w6 hR6 hb6 hg6 hat6; obtain ⟨A6, c6, rfl, h6c, h6r⟩ := Kd.R_reads hR6; clear h6c h6r hg6 hat6; have s0 := (hb6.cell (p := fd.add (j * 2)) (by exact hyw)).trans Y0.out; have s1 := (hb6.cell (p := ⟨(fd.add (j * 2)).block, (fd.add (j * 2)).off + 1, none⟩) (by exact hyw)).trans Y1.out) | (at_builtin; refine app1 kTime (w0 := w2) w2.heap.size rfl (.tmp 65) (.tmp 70) 64 43 (.agg #[.int .i64 0, .int .i64 0]) 16 rfl Try.underlying64 infoTimeT rfl (by decide) (by omega) (.slice A6 (left.length + 1) c6) (left ++ [t]) o [.int .i64 o.f0, .int .i64 o.f1] rfl rfl ?aN ?aP ?aO ?aB ?aS ?aL ?_; (case aN => simp); (case aP => exact k43_mkM _ _ _ o); (case aO => simpa using hR6); (case aB => exact hb6); (case aS => exact hb6.size); (case aL => (try simp only [List.length_append, List.length_singleton]); omega); intro v7 w7 hR7 hb7 hg7 hat7; obtain ⟨A7, c7, rfl, h7c, h7r⟩ := Kd.R_reads hR7; clear h7c h7r hg7 hat7))
                    go_roundg (gk - 1)
                    case measure => have := HJ.out; omega
                    case rel => exact ⟨j + 1, left ++ [t] ++ [o], true, rfl, by go_num, by have := HJ.out; omega, by simpa using hR7, ⟨by have h := HE.out; rw [HIN.out] at h; simpa [hlo] using h⟩, by have := HL2.out (by trivial); simp; omega, (fun e => by cases e), hb7⟩
                  · have hd : decide (t.f0 < o.f0) = false := decide_eq_false hlo
                    go_wp2_with fail
                    go_quiet (fail)
                    go_wp2_with (at_builtin; refine app1 kTime (w0 := w2) w2.heap.size rfl (.tmp 65) (.tmp 70) 64 43 (.agg #[.int .i64 0, .int .i64 0]) 16 rfl Try.underlying64 infoTimeT rfl (by decide) (by omega) u5 left o [.int .i64 o.f0, .int .i64 o.f1] rfl rfl ?aN ?aP ?aO ?aB ?aS ?aL ?_; (case aN => simp); (case aP => exact k43_mkM _ _ _ o); (case aO => exact Kd.R_drewN hR5 _); (case aB => exact pw_below_drewN hb50 _); (case aS => exact hb50.size); (case aL => (try simp only [List.length_append, List.length_singleton]); omega); intro v6 w6 hR6 hb6 hg6 hat6; obtain ⟨A6, c6, rfl, h6c, h6r⟩ := Kd.R_reads hR6; clear h6c h6r hg6 hat6)
                    go_roundg (gk - 1)
                    case measure => have := HJ.out; omega
                    case rel => exact ⟨j + 1, left ++ [o], false, rfl, by go_num, by have := HJ.out; omega, by simpa using hR6, ⟨by have h := HE.out; rw [HIN.out] at h; simpa [show ¬ t.f0 < o.f0 by omega] using h⟩, by simp; omega, (fun _ => by have := HL2.out (by trivial); simp; omega), hb6⟩
            · obtain rfl : j = F.length := by omega
              have HX : Aside0 (left ++ (if d then [] else [t]) = insT t F false) := ⟨by
                have h := HE.out
                rw [List.drop_eq_nil_of_le (Nat.le_refl _)] at h
                exact h⟩
              replace z0 := (hbW.cell (by exact hxb2)).trans z0
              replace z1 := (hbW.cell (by exact hxb2)).trans z1
              have hzb := World.block_lt_of_cell? _ _ z0
              have hl3 : left.length ≤ F.length + 1 := hl1
              have hsl : w.heap.size ≤ w2.heap.size := hb20.size
              clear hj
              cases d with
              | true =>
                go_wp2
                go_roundg (go - 1)
                case measure => have := HK.out; omega
                case rel => exact ⟨i + 1, by go_num, by have := HK.out; omega, by rw [HST.out, HS2.out]; have h := HX.out; simp at h; simp; rw [← h]; exact Kd.R_lower hRl hsl, below_then hb20 hsl hbW⟩
              | false =>
                go_wp2_with (at_builtin; refine app1 kTime (w0 := w2) w2.heap.size rfl (.tmp 74) (.tmp 79) 64 43 (.agg #[.int .i64 0, .int .i64 0]) 16 rfl Try.underlying64 infoTimeT rfl (by decide) (by omega) u5 left t [.int .i64 t.f0, .int .i64 t.f1] rfl rfl ?aN ?aP ?aO ?aB ?aS ?aL ?_; (case aN => simp); (case aP => exact k43_mkM _ _ _ t); (case aO => exact hRl); (case aB => exact hbW); (case aS => exact hbW.size); (case aL => (try simp only [List.length_append, List.length_singleton]); omega); intro v6 w6 hR6 hb6 hg6 hat6; obtain ⟨A6, c6, rfl, h6c, h6r⟩ := Kd.R_reads hR6; clear h6c h6r hg6 hat6)
                go_roundg (go - 1)
                case measure => have := HK.out; omega
                case rel => exact ⟨i + 1, by go_num, by have := HK.out; omega, by rw [HST.out, HS2.out]; have h := HX.out; simp at h; simp; rw [← h]; have := Kd.R_lower hR6 hsl; simpa using this, below_then hb20 hsl hb6⟩
    · obtain rfl : i = L.length := by omega
      clear hk
      rw [List.take_length] at hR
      go_wp2
      go_ret
      exact ⟨_, rfl, hR, hb⟩
end Go.Proofs.Ytiooalhfhnddjaa
end
section
set_option linter.unusedVariables false
set_option linter.unusedSimpArgs false
namespace Go.Proofs.Ytiooalhfhnddjaa
open Go.RowKit Go.Proofs.Ytiooalhfhnddjaa.MM Go.Proofs.Ytiooalhfhnddjaa.PX Go.Proofs.YtiooalhfhnddjaaW.PrintWords
def rFrontL (g : List Op) (loc : Int) (S : List Stamp) : List Time := if frontOk g loc then frontT (timesOf g loc S) else []
theorem timesOf_len (g : List Op) (loc : Int) (S : List Stamp) : (timesOf g loc S).length ≤ S.length := List.length_filterMap_le _ _
theorem timesOf_snoc (g : List Op) (loc : Int) (L : List Stamp) (x : Stamp) : timesOf g loc (L ++ [x]) = timesOf g loc L ++ (timeOf g loc x).toList := by
  unfold timesOf
  rw [List.filterMap_append]
  congr 1
theorem rReach_calls (w : World) (A : Option Addr) (c : Nat) (g : List Op) (hr : Kd.C kOp w A g.length g) (hc : g.length ≤ c) (hok : okg g = true) (hil : ∀ o ∈ g, o.f1.length ≤ 1000000000) (a b : Int) (h0 : 0 ≤ b) (h1 : b < g.length) (r : Bool) (h : r = reachB g a b) :
    Calls Try.prog 100 #[.agg #[.slice A g.length c], .int .i64 a, .int .i64 b] w fun e w' => e = .returned (.bool r) ∧ Below w.heap.size w w' := by
  obtain ⟨y, rfl⟩ := Int.eq_ofNat_of_zero_le h0
  obtain ⟨k, hk⟩ := ref_Reach_is hok hil a y (by omega)
  rw [h]
  exact millraceref11_Reach.calls k A c g _ _ _ w hr hc hk
theorem rGood_calls2 (w : World) (A : Option Addr) (c : Nat) (g : List Op) (s : Stamp) (r : Bool) (h : r = goodB g s) (hr : Kd.C kOp w A g.length g) (hc : g.length ≤ c) (hil : ∀ o ∈ g, o.f1.length ≤ 1000000000) :
    Calls Try.prog 58 #[.agg #[.slice A g.length c], .agg #[.int .i64 s.f0, .int .i64 s.f1.f0, .int .i64 s.f1.f1]] w fun e w' => e = .returned (.bool r) ∧ Below w.heap.size w w' := by
  rw [h]
  exact rGood_calls w A c g s hr hc hil
set_option maxRecDepth 100000 in
set_option maxHeartbeats 8000000 in
theorem rFront_calls (w : World) (A : Option Addr) (c : Nat) (g : List Op) (hr : Kd.C kOp w A g.length g) (hc : g.length ≤ c) (hil : ∀ o ∈ g, o.f1.length ≤ 1000000000)
    (sA : Option Addr) (sc : Nat) (S : List Stamp) (hS : Kd.C kStamp w sA S.length S) (hsc : S.length ≤ sc) (hSl : S.length ≤ 1000000000) (loc : Int) :
    Calls Try.prog 61 #[.agg #[.slice A g.length c], .slice sA S.length sc, .int .i64 loc] w fun e w' => ∃ v, e = .returned v ∧ Kd.R kTime 43 w' w.heap.size (fun _ => True) v (rFrontL g loc S) ∧ Below w.heap.size w w' := by
  obtain ⟨k11, hk11⟩ := ref_Check_is g hil
  have hbA := below_alloc (Below.refl w.heap.size w) (.cells #[.slice A g.length c] 24)
  have hCK := millraceref11_Check.calls k11 A c g (chk g).1 (chk g).2 (w.alloc (.cells #[.slice A g.length c] 24)) (Kd.C_below hr hbA) hc hk11
  have HIL := Aside0.mk hil
  obtain ⟨c1, hc1⟩ : ∃ c1, c1 = (chk g).1 := ⟨_, rfl⟩
  obtain ⟨c2, hc2⟩ : ∃ c2, c2 = (chk g).2 := ⟨_, rfl⟩
  rw [← hc1, ← hc2] at hCK
  have hok : okg g = (c2 == 0) := by rw [hc2]; rfl
  have HFO : Aside0 (frontOk g loc = ((c2 == 0) && decide (0 ≤ loc ∧ loc < g.length))) := ⟨by unfold frontOk; rw [hok]⟩
  have HOK := Aside0.mk hok
  clear hc1 hc2 hok hil hk11
  go_enter Try.func61, Try.ntmps61
  by_cases hz : c2 = 0
  · have hzb : (c2 != 0) = false := by simp [hz]
    by_cases hl0 : loc < 0
    · have hd0 : decide (loc < 0) = true := decide_eq_true hl0
      have HN : Aside0 (rFrontL g loc S = []) := ⟨by unfold rFrontL; rw [HFO.out, decide_eq_false (p := 0 ≤ loc ∧ loc < (g.length : Int)) (by omega)]; simp⟩
      clear hz
      go_wp2_with (go_at_call 16; refine hCK.mono ?_; rintro e w1 ⟨rfl, hb1⟩)
      go_ret
      exact ⟨_, rfl, by rw [HN.out]; exact Kd.R_nil _ _ _ _ _, below_then hbA hbA.size hb1⟩
    · have hd0 : decide (loc < 0) = false := decide_eq_false hl0
      by_cases hl1 : loc < g.length
      · have hd1 : decide ((g.length : Int) ≤ loc) = false := decide_eq_false (by omega)
        have HN : Aside0 (rFrontL g loc S = frontT (timesOf g loc S)) := ⟨by unfold rFrontL; rw [HFO.out, decide_eq_true (p := 0 ≤ loc ∧ loc < (g.length : Int)) (by omega)]; simp [hz]⟩
        have HO : Aside0 (okg g = true) := ⟨by rw [HOK.out]; simp [hz]⟩
        have h0 : 0 ≤ loc := by omega
        clear hz
        go_wp2_with (go_at_call 16; refine hCK.mono ?_; rintro e w1 ⟨rfl, hb1⟩; have kb : w1.cell? ⟨w.heap.size, 0, none⟩ = some (.slice A g.length c) := (hb1.cell (p := ⟨w.heap.size, 0, none⟩) (by simp)).trans (by simp))
        have hb10 := below_then hbA hbA.size hb1
        have hw1 : w.heap.size < w1.heap.size := World.block_lt_of_cell? _ _ kb
        clear hb1 hCK
        go_loopg [9, 10] S.length (fun kq v9 v10 W => ∃ i : Nat, v10 = .int .i64 i ∧ i + kq = S.length ∧ Kd.R kTime 43 W w1.heap.size (fun _ => True) v9 (timesOf g loc (S.take i)) ∧ Below w1.heap.size w1 W)
        case atStart => exact ⟨0, rfl, by simp, Kd.R_nil _ _ _ _ _, Below.refl _ _⟩
        case round =>
          obtain ⟨i, rfl, hk, hR, hb⟩ := hrel
          have HK := Aside0.mk hk
          have hbw := below_then hb10 hb10.size hb
          by_cases hlt : i < S.length
          · obtain ⟨ad, e1, x0, x1, x2⟩ := at_T45 hS (i : Int) (by omega) (by omega)
            cases e1
            simp only [Int.toNat_natCast] at x0 x1 x2
            have hx : S[i]? = some (rd_T45 S i) := by
              unfold rd_T45
              simp [List.getD_eq_getElem?_getD, hlt]
            generalize rd_T45 S i = x at x0 x1 x2 hx
            have HT : Aside0 (timesOf g loc (S.take (i + 1)) = timesOf g loc (S.take i) ++ (timeOf g loc x).toList) := ⟨by rw [take_snoc_of hx, timesOf_snoc]⟩
            replace x0 := (hbw.cell (World.block_lt_of_cell? w _ x0)).trans x0
            replace x1 := (hbw.cell (World.block_lt_of_cell? w _ x1)).trans x1
            replace x2 := (hbw.cell (World.block_lt_of_cell? w _ x2)).trans x2
            have hxb := World.block_lt_of_cell? _ _ x0
            have kb2 := (hb.cell (p := ⟨w.heap.size, 0, none⟩) (by exact hw1)).trans kb
            have hkb := World.block_lt_of_cell? _ _ kb2
            have htl : (timesOf g loc (S.take i)).length ≤ i := Nat.le_trans (timesOf_len _ _ _) (List.length_take_le _ _)
            have hgr := Aside0.mk (Kd.C_below hr hbw)
            clear hk hx
            obtain ⟨gd, hgd⟩ : ∃ gd, gd = goodB g x := ⟨_, rfl⟩
            have HG := Aside0.mk hgd
            have HTO : Aside0 (timeOf g loc x = if gd then if x.f0 = loc then some x.f1 else if reachB g x.f0 loc then some ⟨x.f1.f0, 0⟩ else none else none) := ⟨by rw [hgd]; rfl⟩
            clear hgd
            cases gd with
            | false =>
              go_wp2_with fail
              go_region_held3 (fun w' => w'.cell? ⟨w.heap.size, 0, none⟩ = some (.slice A g.length c) ∧ w'.cell? (ad.add (i * 3)) = some (.int .i64 x.f0) ∧ w'.cell? ⟨(ad.add (i * 3)).block, (ad.add (i * 3)).off + 1, none⟩ = some (.int .i64 x.f1.f0) ∧ w'.cell? ⟨(ad.add (i * 3)).block, (ad.add (i * 3)).off + 2, none⟩ = some (.int .i64 x.f1.f1))
                (first
                  | go_keep
                  | (go_split_ands
                     refine ⟨(hb5.cell (by exact hkb)).trans ‹_›, (hb5.cell (by exact hxb)).trans ‹_›, (hb5.cell (by exact hxb)).trans ‹_›, (hb5.cell (by exact hxb)).trans ‹_›⟩))
                ((go_at_call 58; refine (rGood_calls2 _ A c g x false HG.out ?hr hc HIL.out).mono ?_; (case hr => exact Kd.C_below hgr.out (below_drew (Below.refl _ _))); rintro e w5 ⟨rfl, hb5⟩))
              have hbx : Below wr.heap.size wr w5 := below_then (pw_below_drewN (Below.refl _ _) 1) (by simp) hb5
              clear hb5
              go_wp2
              go_roundg (gk - 1)
              case measure => have := HK.out; omega
              case rel => exact ⟨i + 1, by go_num, by have := HK.out; omega, by rw [HT.out, HTO.out]; simpa using Kd.R_below hR hbx, below_then hb hb.size hbx⟩
            | true =>
              go_wp2_with fail
              go_region_held3 (fun w' => w'.cell? ⟨w.heap.size, 0, none⟩ = some (.slice A g.length c) ∧ w'.cell? (ad.add (i * 3)) = some (.int .i64 x.f0) ∧ w'.cell? ⟨(ad.add (i * 3)).block, (ad.add (i * 3)).off + 1, none⟩ = some (.int .i64 x.f1.f0) ∧ w'.cell? ⟨(ad.add (i * 3)).block, (ad.add (i * 3)).off + 2, none⟩ = some (.int .i64 x.f1.f1))
                (first
                  | go_keep
                  | (go_split_ands
                     refine ⟨(hb5.cell (by exact hkb)).trans ‹_›, (hb5.cell (by exact hxb)).trans ‹_›, (hb5.cell (by exact hxb)).trans ‹_›, (hb5.cell (by exact hxb)).trans ‹_›⟩))
                ((go_at_call 58; refine (rGood_calls2 _ A c g x true HG.out ?hr hc HIL.out).mono ?_; (case hr => exact Kd.C_below hgr.out (below_drew (Below.refl _ _))); rintro e w5 ⟨rfl, hb5⟩))
              have hbx : Below wr.heap.size wr w5 := below_then (pw_below_drewN (Below.refl _ _) 1) (by simp) hb5
              replace x0 := (hbx.cell (p := ad.add (i * 3)) (by exact hxb)).trans x0
              replace x1 := (hbx.cell (p := ⟨(ad.add (i * 3)).block, (ad.add (i * 3)).off + 1, none⟩) (by exact hxb)).trans x1
              replace x2 := (hbx.cell (p := ⟨(ad.add (i * 3)).block, (ad.add (i * 3)).off + 2, none⟩) (by exact hxb)).trans x2
              replace kb2 := (hbx.cell (p := ⟨w.heap.size, 0, none⟩) (by exact hkb)).trans kb2
              have hxb5 := World.block_lt_of_cell? _ _ x0
              have hkb5 := World.block_lt_of_cell? _ _ kb2
              have hR5 := Kd.R_below hR hbx
              have hb50 := below_then hb hb.size hbx
              have hgr5 := Aside0.mk (Kd.C_below hgr.out hbx)
              clear hb5
              by_cases hloc : x.f0 = loc
              · have hlb : (x.f0 == loc) = true := beq_iff_eq.2 hloc
                have HL : Aside0 (timeOf g loc x = some x.f1) := ⟨by rw [HTO.out]; simp [hloc]⟩
                clear hloc HTO
                go_wp2_with (at_builtin; refine app1 kTime (w0 := w1) w1.heap.size rfl (.tmp 49) (.tmp 55) 64 43 (.agg #[.int .i64 0, .int .i64 0]) 16 rfl Try.underlying64 infoTimeT rfl (by decide) (by omega) u9 (timesOf g loc (S.take i)) x.f1 [.int .i64 x.f1.f0, .int .i64 x.f1.f1] rfl rfl ?aN ?aP ?aO ?aB ?aS ?aL ?_; (case aN => simp); (case aP => exact k43_mkM _ _ _ x.f1); (case aO => exact hR5); (case aB => exact hb50); (case aS => exact hb50.size); (case aL => omega); intro v6 w6 hR6 hb6 hg6 hat6)
                go_roundg (gk - 1)
                case measure => have := HK.out; omega
                case rel => exact ⟨i + 1, by go_num, by have := HK.out; omega, by rw [HT.out, HL.out]; exact hR6, hb6⟩
              · have hlb : (x.f0 == loc) = false := beq_eq_false_iff_ne.2 hloc
                obtain ⟨re, hre⟩ : ∃ re, re = reachB g x.f0 loc := ⟨_, rfl⟩
                have HRE := Aside0.mk hre
                have HL : Aside0 (timeOf g loc x = if re then some ⟨x.f1.f0, 0⟩ else none) := ⟨by rw [HTO.out, hre]; simp [hloc]⟩
                clear hloc HTO hre
                cases re with
                | false =>
                  go_wp2_with fail
                  go_region_held3 (fun w' => w'.cell? ⟨w.heap.size, 0, none⟩ = some (.slice A g.length c) ∧ w'.cell? (ad.add (i * 3)) = some (.int .i64 x.f0))
                    (first
                      | go_keep
                      | (go_split_ands
                         refine ⟨(hb6.cell (by exact hkb5)).trans ‹_›, (hb6.cell (by exact hxb5)).trans ‹_›⟩))
                    ((go_at_call 100; refine (rReach_calls _ A c g ?hr hc HO.out HIL.out x.f0 loc h0 hl1 false HRE.out).mono ?_; (case hr => exact Kd.C_below hgr5.out (below_drew (Below.refl _ _))); rintro e w6 ⟨rfl, hb6⟩))
                  have hbx6 : Below w5.heap.size w5 w6 := below_then (pw_below_drewN (Below.refl _ _) 1) (by simp) hb6
                  clear hb6
                  go_wp2
                  go_roundg (gk - 1)
                  case measure => have := HK.out; omega
                  case rel => exact ⟨i + 1, by go_num, by have := HK.out; omega, by rw [HT.out, HL.out]; simpa using Kd.R_below hR5 hbx6, below_then hb50 hb50.size hbx6⟩
                | true =>
                  go_wp2_with fail
                  go_region_held3 (fun w' => w'.cell? ⟨w.heap.size, 0, none⟩ = some (.slice A g.length c) ∧ w'.cell? (ad.add (i * 3)) = some (.int .i64 x.f0))
                    (first
                      | go_keep
                      | (go_split_ands
                         refine ⟨(hb6.cell (by exact hkb5)).trans ‹_›, (hb6.cell (by exact hxb5)).trans ‹_›⟩))
                    ((go_at_call 100; refine (rReach_calls _ A c g ?hr hc HO.out HIL.out x.f0 loc h0 hl1 true HRE.out).mono ?_; (case hr => exact Kd.C_below hgr5.out (below_drew (Below.refl _ _))); rintro e w6 ⟨rfl, hb6⟩))
                  have hbx6 : Below w5.heap.size w5 w6 := below_then (pw_below_drewN (Below.refl _ _) 1) (by simp) hb6
                  replace x1 := (hbx6.cell (p := ⟨(ad.add (i * 3)).block, (ad.add (i * 3)).off + 1, none⟩) (by exact hxb5)).trans x1
                  have hR6 := Kd.R_below hR5 hbx6
                  have hb60 := below_then hb50 hb50.size hbx6
                  clear hb6 x0 x2
                  go_wp2_with (at_builtin; refine app1 kTime (w0 := w1) w1.heap.size rfl (.tmp 65) (.tmp 73) 64 43 (.agg #[.int .i64 0, .int .i64 0]) 16 rfl Try.underlying64 infoTimeT rfl (by decide) (by omega) u9 (timesOf g loc (S.take i)) (⟨x.f1.f0, 0⟩ : Time) [.int .i64 x.f1.f0, .int .i64 0] rfl rfl ?aN ?aP ?aO ?aB ?aS ?aL ?_; (case aN => simp); (case aP => exact k43_mkM _ _ _ (⟨x.f1.f0, 0⟩ : Time)); (case aO => exact hR6); (case aB => exact hb60); (case aS => exact hb60.size); (case aL => omega); intro v7 w7 hR7 hb7 hg7 hat7)
                  go_roundg (gk - 1)
                  case measure => have := HK.out; omega
                  case rel => exact ⟨i + 1, by go_num, by have := HK.out; omega, by rw [HT.out, HL.out]; exact hR7, hb7⟩
          · obtain rfl : i = S.length := by omega
            clear hk
            rw [List.take_length] at hR
            obtain ⟨T, hT⟩ : ∃ T, T = timesOf g loc S := ⟨_, rfl⟩
            have hTl : T.length ≤ 1000000000 := by rw [hT]; exact Nat.le_trans (timesOf_len _ _ _) hSl
            rw [← hT] at hR
            have HT := Aside0.mk hT
            obtain ⟨tA, tc, rfl, htc, htr⟩ := Kd.R_reads hR
            clear hT hR
            go_wp2_with (go_at_call 101; refine (rFrT_calls _ tA tc T htr htc hTl).mono ?_; rintro e w2 ⟨v, rfl, hF, hb2⟩)
            go_ret
            exact ⟨_, rfl, by rw [HN.out, ← HT.out]; exact Kd.R_lower hF hbw.size, below_then hbw hbw.size hb2⟩
      · have hd1 : decide ((g.length : Int) ≤ loc) = true := decide_eq_true (by omega)
        have HN : Aside0 (rFrontL g loc S = []) := ⟨by unfold rFrontL; rw [HFO.out, decide_eq_false (p := 0 ≤ loc ∧ loc < (g.length : Int)) (by omega)]; simp⟩
        clear hz
        go_wp2_with (go_at_call 16; refine hCK.mono ?_; rintro e w1 ⟨rfl, hb1⟩; have kb : w1.cell? ⟨w.heap.size, 0, none⟩ = some (.slice A g.length c) := (hb1.cell (p := ⟨w.heap.size, 0, none⟩) (by simp)).trans (by simp); have hw1 : w.heap.size < w1.heap.size := World.block_lt_of_cell? _ _ kb)
        go_ret
        exact ⟨_, rfl, by rw [HN.out]; exact Kd.R_nil _ _ _ _ _, below_then hbA hbA.size hb1⟩
  · have hzb : (c2 != 0) = true := by simp [hz]
    have HN : Aside0 (rFrontL g loc S = []) := ⟨by unfold rFrontL; rw [HFO.out]; simp [hz]⟩
    clear hz
    go_wp2_with (go_at_call 16; refine hCK.mono ?_; rintro e w1 ⟨rfl, hb1⟩)
    go_ret
    exact ⟨_, rfl, by rw [HN.out]; exact Kd.R_nil _ _ _ _ _, below_then hbA hbA.size hb1⟩
end Go.Proofs.Ytiooalhfhnddjaa
end
section
set_option linter.unusedSimpArgs false
namespace Go.Proofs.Ytiooalhfhnddjaa
open Go.RowKit Go.Proofs.Ytiooalhfhnddjaa.MM Go.Proofs.Ytiooalhfhnddjaa.PX Go.Proofs.YtiooalhfhnddjaaW.PrintWords
set_option linter.unusedVariables false
def frontL (g : List Op) (loc : Int) (r : List Stamp) : List Time := if frontOk g loc then outs (timesOf g loc r) (timesOf g loc r).length else []
set_option maxRecDepth 100000 in
set_option maxHeartbeats 4000000 in
theorem TFront_calls (w : World) {base p mb : Nat} {g : List Op} {ways : List (List Bool)} {l : List (Stamp × Int)} (h : TrkAt w base p mb g ways l) (hil : ∀ o ∈ g, o.f1.length ≤ 1000000000) (hsz : l.length ≤ 1000000000) (loc : Int) :
    Calls Try.prog 34 #[.pointer (some ⟨p, 0, none⟩), .int .i64 loc] w fun e w' => ∃ v F r, e = .returned v ∧ Kd.R kTime 43 w' w.heap.size (fun _ => True) v F ∧ Below w.heap.size w w' ∧
      F.Pairwise (fun a b => a.f0 ≤ b.f0) ∧ r.Perm (up l) ∧ F.Perm (frontL g loc r) := by
  have HT := Aside0.mk h
  obtain ⟨gv, wv, h1, h2, h3, h4, h5, h6⟩ := h
  have hpl := (Array.getElem?_eq_some_iff.1 h3).1
  obtain ⟨gA, gc, rfl, hgc, hgr⟩ := Kd.R_reads h4
  have hc0 : w.cell? ⟨p, 0, none⟩ = some (.slice gA g.length gc) := by simp [World.cell?, h3]
  clear h3 h4 h5
  go_enter Try.func34, Try.ntmps34
  go_wp2_with fail
  go_region_held3 (fun w' => w'.cell? ⟨p, 0, none⟩ = some (.slice gA g.length gc))
    (first
      | go_keep
      | exact (hb2.cell (p := ⟨p, 0, none⟩) (by simp; omega)).trans ‹_›
      | exact (hb4.cell (p := ⟨p, 0, none⟩) (by have := hb2.size; simp at this; simp; omega)).trans ‹_›)
    (first
      | (go_at_call 63; refine (alive_calls2 (w.drewN 1) (HT.out.below (pw_below_drewN (Below.refl _ _) 1)) hsz).mono ?_; rintro e w2 ⟨rA, rc, r, rfl, hrc, hrr, HP, hb2, hrl⟩)
      | (go_at_call 73; refine (RFront_calls w2 gA gc g (Kd.C_below hgr (below_then (pw_below_drewN (Below.refl _ w) 1) (by simp) hb2)) hgc hil rA rc r hrr hrl loc).mono ?_; rintro e w4 ⟨v, F, rfl, hF, hb4, hs, hp⟩))
  go_wp2
  go_ret
  have hb20 := below_then (pw_below_drewN (Below.refl w.heap.size w) 1) (by simp) hb2
  exact ⟨_, F, r, rfl, Kd.R_lower hF hb20.size, below_then hb20 hb20.size hb4, hs, HP.out, hp⟩
end Go.Proofs.Ytiooalhfhnddjaa
end
section
set_option linter.unusedVariables false
set_option linter.unusedSimpArgs false
namespace Go.Proofs.Ytiooalhfhnddjaa
open Go.RowKit Go.Proofs.Ytiooalhfhnddjaa.MM Go.Proofs.Ytiooalhfhnddjaa.PX Go.Proofs.YtiooalhfhnddjaaW.PrintWords
theorem rSame_calls (w : World) (A : Option Addr) (c : Nat) (a : List Time) (B : Option Addr) (d : Nat) (b : List Time) (ha : Kd.C kTime w A a.length a) (hc : a.length ≤ c) (hb : Kd.C kTime w B b.length b) (hd : b.length ≤ d) (hl : a.length ≤ 2000000000) (r : Bool) (hr : r = decide (a = b)) :
    Calls Try.prog 32 #[.slice A a.length c, .slice B b.length d] w fun e w' => e = .returned (.bool r) ∧ Below w.heap.size w w' := by
  obtain ⟨k, hk⟩ := (r16_SameTimes a b hl).rounds
  rw [hr]
  exact millraceref16_SameTimes.calls k A c a B d b _ w ha hc hb hd hk
theorem timesOf_mem {g : List Op} {loc : Int} {r S : List Stamp} (h : ∀ s, s ∈ r ↔ s ∈ S) (t : Time) : t ∈ timesOf g loc r ↔ t ∈ timesOf g loc S := by
  unfold timesOf
  rw [List.mem_filterMap, List.mem_filterMap]
  exact ⟨fun ⟨s, hs, e⟩ => ⟨s, (h s).1 hs, e⟩, fun ⟨s, hs, e⟩ => ⟨s, (h s).2 hs, e⟩⟩
theorem front_one {g : List Op} {loc : Int} {r S : List Stamp} {F : List Time} (h : ∀ s, s ∈ r ↔ s ∈ S) (hs : F.Pairwise (fun a b => a.f0 ≤ b.f0)) (hp : F.Perm (frontL g loc r)) : F = rFrontL g loc S := by
  unfold frontL at hp
  unfold rFrontL
  cases hf : frontOk g loc with
  | false =>
    rw [hf, if_neg Bool.false_ne_true] at hp
    rw [if_neg Bool.false_ne_true]
    exact hp.eq_nil
  | true =>
    rw [hf, if_pos rfl] at hp
    rw [if_pos rfl]
    exact (FrontOf.outs hs hp).one (frontT_is _) (timesOf_mem h)
theorem frontL_len (g : List Op) (loc : Int) (S : List Stamp) : (rFrontL g loc S).length ≤ S.length := by
  unfold rFrontL
  split
  · exact Nat.le_trans (frontT_len _) (timesOf_len _ _ _)
  · simp
end Go.Proofs.Ytiooalhfhnddjaa
end
section
set_option linter.unusedVariables false
set_option linter.unusedSimpArgs false
namespace Go
open Go.Sort Go.RowKit
section
variable {F : Fence} {n : Nat} {P : Program} {ops : Array Oper} {md : Region.Mode} {C : World → Prop}
theorem wpAnyIn_of_quiet2 {Q : Act → Prop} {Q' : Exit → Act → World → Prop} (hnd : ∀ (j : Nat) (o : Oper), ops[j]? = some o → ∀ c, o.op ≠ .defer c) (hQ : ∀ a w, C w → Q a → Q' .normal a w) : ∀ (fuel : Nat) (listed : Array Bool) (a : Act) (w : World), C w →
    wpAnyQIn F n P md ops C Q fuel listed a → wpAnyIn F n P md ops Q' fuel listed a w
  | 0, _, _, _, hw, h => ⟨h.1, hQ _ _ hw h.2⟩
  | fuel + 1, _, _, _, hw, h => ⟨fun h0 => hQ _ _ hw (h.1 h0), fun i hi => wpOpIn_of_qOpIn2 hnd hw (fun a' w' hw' => wpAnyIn_of_quiet2 hnd hQ fuel _ a' w' hw') (h.2 i hi)⟩
theorem wpIn_region_calm {id : Nat} {Q : Exit → Act → World → Prop} {a : Act} {w : World} (hm : P.follows .mixedOrders = true) (hnd : noDefer ops = true) (hB : Region.lexB .any ops = true) (hC : C { w with drawn := w.drawn + 1 })
    (h : wpQuietIn F n P ops C (fun a' => ∀ w', C w' → Q .normal a' w') ops.toList a) : (Code.region id ops true).wpIn F n P Q a w := by
  simp only [Region.lexB, Bool.and_eq_true] at hB
  refine wpIn_region_any hm (wpAnyIn_of_quiet2 (Q := fun a' => ∀ w', C w' → Q .normal a' w') (noDefer_spec hnd) (fun _ w' hw' h => h w' hw') _ _ _ _ hC ?_)
  have := wpAnyQIn_lex (F := F) (n := n) (C := C) (md := .any) hB.1 ops.toList 0 (Array.replicate ops.size false) a (by simp) (by simpa using hB.2) h
  simpa using this
theorem wpIn_region_calm_below {id : Nat} {Q : Exit → Act → World → Prop} {a : Act} {w : World} {l : List Oper} (hm : P.follows .mixedOrders = true) (hnd : noDefer l.toArray = true) (hB : Region.lexB .any l.toArray = true)
    (h : wpQuietIn F n P l.toArray (fun w' => ∃ p : Regrown, w' = grow (redrawn w p.d) p.os) (fun a' => ∀ w', (∃ p : Regrown, w' = grow (redrawn w p.d) p.os) → Q .normal a' w') l a) : (Code.region id l.toArray true).wpIn F n P Q a w :=
  wpIn_region_calm (C := fun w' => ∃ p : Regrown, w' = grow (redrawn w p.d) p.os) hm hnd hB ⟨⟨w.drawn + 1, #[]⟩, by rw [grow_empty]; rfl⟩ (by simpa using h)
end
end Go
end
section
set_option linter.unusedVariables false
set_option linter.unusedSimpArgs false
namespace Go.Proofs.Ytiooalhfhnddjaa
open Go.RowKit Go.Shelf Go.Sort Go.Proofs.Ytiooalhfhnddjaa.MM Go.Proofs.Ytiooalhfhnddjaa.PX Go.Proofs.YtiooalhfhnddjaaW.PrintWords
attribute [local go_sem] Oper.semAt_some
theorem sameC_len {l : List (Stamp × Int)} {cs : List Count} (h : SameC l cs) (ht : Tidy l) : l.length = cs.length := by
  have h1 : (cs.map fun c => c.f0).Nodup := List.pairwise_map.2 (h.asc.imp (fun {a b} h (e : a.f0 = b.f0) => sLt_irrefl a.f0 (by rw [← e] at h; exact h)))
  have h2 : (cs.map fun c => c.f0).Perm (l.map Prod.fst) := by
    refine (List.perm_ext_iff_of_nodup h1 ht.keys).2 (fun s => ?_)
    rw [mem_tidy ht, List.mem_map]
    constructor
    · rintro ⟨c, hc, rfl⟩
      obtain ⟨h3, h4⟩ := (mem_sameC h c).1 hc
      rw [h3]; exact h4
    · intro h0
      exact ⟨⟨s, cnt l s⟩, (mem_sameC h _).2 ⟨rfl, h0⟩, rfl⟩
  have := h2.length_eq
  simpa using this.symm
theorem keepC_below {B : Nat} {V V' : World} (h : Below V.heap.size V V') : KeepC B V V' :=
  ⟨⟨h.size, fun k o hk _ => (h.block k (Array.getElem?_eq_some_iff.1 hk).1).trans hk⟩, fun k cs t f _ hk => (h.block k (Array.getElem?_eq_some_iff.1 hk).1).trans hk⟩
theorem keepC_set {B b : Nat} (V : World) (hb : b < B) (i : Nat) (v : Value) : KeepC B V (V.setCell ⟨b, i, none⟩ v) :=
  ⟨KeepsWalks.setCell V _ _, fun k cs t f hk h => (Below.heap_setCell V ⟨b, i, none⟩ v k (by simp only; omega)).trans h⟩
theorem keepO_below {V V' : World} (h : Below V.heap.size V V') : KeepsOthers V V' := ⟨h.size, fun k o hk _ => (h.block k (Array.getElem?_eq_some_iff.1 hk).1).trans hk⟩
structure AInv (w V : World) (p m : Nat) (most : Int) (n : Nat) : Prop where
  below : Below w.heap.size w V
  b0 : V.heap[w.heap.size]? = some (.cells #[.pointer (some ⟨p, 0, none⟩)] 28 (0, 0))
  b1 : V.heap[w.heap.size + 1]? = some (.cells #[.pointer (some ⟨m, 0, none⟩)] 34 (0, 0))
  b2 : V.heap[w.heap.size + 1 + 1]? = some (.cells #[.int .i64 most] 3 (0, 0))
  b3 : V.heap[w.heap.size + 1 + 1 + 1]? = some (.cells #[.bool false] 4 (0, 0))
  b4 : V.heap[w.heap.size + 1 + 1 + 1 + 1]? = some (.cells #[.int .i64 (n : Int)] 3 (0, 0))
section
variable {w V V' : World} {p m : Nat} {most : Int} {n : Nat}
theorem AInv.grown (h : AInv w V p m most n) {row : Option Nat} (hg : V.grownBy V' row) (hr : ∀ r, row = some r → w.heap.size ≤ r ∧ ∃ o : Obj, V.heap[r]? = some o ∧ o.isCells = false) : AInv w V' p m most n := by
  have hne : ∀ b cs t f, V.heap[b]? = some (.cells cs t f) → some b ≠ row := fun b cs t f hb e => by
    obtain ⟨_, o, ho, hc⟩ := hr b e.symm
    rw [hb] at ho
    injection ho with ho
    subst ho
    cases hc
  exact ⟨h.below.grown hg h.below.size (fun k e => (hr k e).1), blk_grown h.b0 hg (hne _ _ _ _ h.b0), blk_grown h.b1 hg (hne _ _ _ _ h.b1), blk_grown h.b2 hg (hne _ _ _ _ h.b2), blk_grown h.b3 hg (hne _ _ _ _ h.b3), blk_grown h.b4 hg (hne _ _ _ _ h.b4)⟩
theorem AInv.step (h : AInv w V p m most n) (hb : Below V.heap.size V V') : AInv w V' p m most n :=
  ⟨below_then h.below h.below.size hb, blk_below h.b0 hb, blk_below h.b1 hb, blk_below h.b2 hb, blk_below h.b3 hb, blk_below h.b4 hb⟩
theorem AInv.put (h : AInv w V p m most n) : AInv w (V.setCell ⟨w.heap.size + 1 + 1 + 1 + 1, 0, none⟩ (.int .i64 ((n : Int) + 1))) p m most (n + 1) :=
  ⟨h.below.setCell (p := ⟨w.heap.size + 1 + 1 + 1 + 1, 0, none⟩) (by simp only; omega) _, blk_far h.b0 (by simp only; omega) _, blk_far h.b1 (by simp only; omega) _, blk_far h.b2 (by simp only; omega) _, blk_far h.b3 (by simp only; omega) _, blk_set h.b4 0 _⟩
theorem AInv.size (h : AInv w V p m most n) : w.heap.size + 1 + 1 + 1 + 1 < V.heap.size := (Array.getElem?_eq_some_iff.1 h.b4).1
end
theorem prefix_snoc {cs pre : List Count} {y : Count} (h : pre <+: cs) (hy : cs[pre.length]? = some y) (x : Count) : (pre ++ [x]) <+: cs ↔ x = y := by
  obtain ⟨t, rfl⟩ := h
  rw [List.getElem?_append_right (Nat.le_refl _), Nat.sub_self] at hy
  cases t with
  | nil => simp at hy
  | cons a t =>
    simp at hy
    subst hy
    rw [List.prefix_append_right_inj]
    simp
theorem inBlock_both {Q : Exit → Act → World → Prop} {e : Exit} {a : Act} {w : World} (he : e = .normal ∨ e = .exit 0) (h : Q .normal a w) : Exit.inBlock 0 Q e a w := by
  rcases he with rfl | rfl
  · exact h
  · simpa [Exit.inBlock] using h
theorem TFront_is (w : World) {base p mb : Nat} {g : List Op} {ways : List (List Bool)} {l : List (Stamp × Int)} {cs : List Count} (h : TrkAt w base p mb g ways l) (hil : ∀ o ∈ g, o.f1.length ≤ 1000000000) (hsz : l.length ≤ 1000000000) (hS : SameC l cs) (ht : Tidy l) (loc : Int) (G : List Time) (hG : G = rFrontL g loc (upC cs)) :
    Calls Try.prog 34 #[.pointer (some ⟨p, 0, none⟩), .int .i64 loc] w fun e w' => ∃ fA fc, e = .returned (.slice fA G.length fc) ∧ G.length ≤ fc ∧ Kd.C kTime w' fA G.length G ∧ Below w.heap.size w w' := by
  refine (TFront_calls w h hil hsz loc).mono ?_
  rintro e w' ⟨v, F, r, rfl, hF, hb, hs, hp, hq⟩
  have e1 : F = G := by
    rw [hG]
    exact front_one (fun s => (hp.mem_iff).trans (mem_upC hS ht s).symm) hs hq
  rw [e1] at hF
  obtain ⟨fA, fc, rfl, hfc, hfr⟩ := Kd.R_reads hF
  exact ⟨fA, fc, rfl, hfc, hfr, hb⟩
theorem rFront_is (w : World) (A : Option Addr) (c : Nat) (g : List Op) (hr : Kd.C kOp w A g.length g) (hc : g.length ≤ c) (hil : ∀ o ∈ g, o.f1.length ≤ 1000000000)
    (sA : Option Addr) (sc : Nat) (S : List Stamp) (hS : Kd.C kStamp w sA S.length S) (hsc : S.length ≤ sc) (hSl : S.length ≤ 1000000000) (loc : Int) (G : List Time) (hG : G = rFrontL g loc S) :
    Calls Try.prog 61 #[.agg #[.slice A g.length c], .slice sA S.length sc, .int .i64 loc] w fun e w' => ∃ fA fc, e = .returned (.slice fA G.length fc) ∧ G.length ≤ fc ∧ Kd.C kTime w' fA G.length G ∧ Below w.heap.size w w' := by
  refine (rFront_calls w A c g hr hc hil sA sc S hS hsc hSl loc).mono ?_
  rintro e w' ⟨v, rfl, hF, hb⟩
  rw [← hG] at hF
  obtain ⟨fA, fc, rfl, hfc, hfr⟩ := Kd.R_reads hF
  exact ⟨fA, fc, rfl, hfc, hfr, hb⟩
set_option maxRecDepth 100000 in
set_option maxHeartbeats 4000000 in
theorem alike_calls (w : World) {base p mb m : Nat} {A : Option Addr} {c : Nat} {g : List Op} {ways : List (List Bool)} {l : List (Stamp × Int)} {cs : List Count} (hT : TrkAt w base p mb g ways l) (hR : RTrkAt w base m A c g cs) (hr : Kd.C kOp w A g.length g) (hc : g.length ≤ c) (hil : ∀ o ∈ g, o.f1.length ≤ 1000000000)
    (hS : SameC l cs) (ht : Tidy l) (hgl : g.length ≤ 1000000000) (hsz : cs.length ≤ 1000000000) (most : Int) :
    Calls Try.prog 19 #[.pointer (some ⟨p, 0, none⟩), .pointer (some ⟨m, 0, none⟩), .int .i64 most] w fun e w' => e = .returned (.bool true) ∧ Below w.heap.size w w' := by
  refine (callsIn_wide (n := 6)).1 ?_
  refine callsIn_of_wp_marks Try.func19 rfl trivial ?_ rfl
  simp only [Try.ntmps19, List.size_toArray, List.length_cons, List.length_nil, Nat.reduceAdd, Nat.reduceSub, Array.replicate_succ, Array.replicate_zero, List.push_toArray, List.append_toArray, List.nil_append, List.cons_append]
  have tr1 : Fence.wide.fn 60 := trivial
  have tr2 : Fence.wide.fn 35 := trivial
  have tr3 : Fence.wide.fn 22 := trivial
  have hll := sameC_len hS ht
  have HLL := Aside0.mk hll
  have HS := Aside0.mk hS
  have HTY := Aside0.mk ht
  have HIL := Aside0.mk hil
  have HT := Aside0.mk hT
  have HR := Aside0.mk hR
  have hmlt := hR.lt
  have hsl : l.length ≤ 1000000000 := by omega
  clear hll hil
  gi_wp2_with (gi_at_call 60; refine (callsIn_wide.2 (All_calls _ p)).mono ?_; rintro e w1 ⟨rfl, rfl⟩)
  obtain ⟨W1, hW1⟩ : ∃ W1, W1 = ((((((w.alloc (.cells #[.pointer (some ⟨p, 0, none⟩)] 28)).alloc (.cells #[.pointer (some ⟨m, 0, none⟩)] 34)).alloc (.cells #[.int .i64 most] 3)).alloc (.cells #[.bool false] 4)).alloc (.cells #[.int .i64 0] 3)).alloc (.cells #[.pointer (some ⟨p, 0, none⟩)] 28)) := ⟨_, rfl⟩
  rw [← hW1]
  have hI0 : AInv w W1 p m most 0 := by
    have n1 := heap_alloc_new w (.cells #[.pointer (some ⟨p, 0, none⟩)] 28)
    have n2 := heap_alloc_new (w.alloc (.cells #[.pointer (some ⟨p, 0, none⟩)] 28)) (.cells #[.pointer (some ⟨m, 0, none⟩)] 34)
    have n3 := heap_alloc_new ((w.alloc (.cells #[.pointer (some ⟨p, 0, none⟩)] 28)).alloc (.cells #[.pointer (some ⟨m, 0, none⟩)] 34)) (.cells #[.int .i64 most] 3)
    have n4 := heap_alloc_new (((w.alloc (.cells #[.pointer (some ⟨p, 0, none⟩)] 28)).alloc (.cells #[.pointer (some ⟨m, 0, none⟩)] 34)).alloc (.cells #[.int .i64 most] 3)) (.cells #[.bool false] 4)
    have n5 := heap_alloc_new ((((w.alloc (.cells #[.pointer (some ⟨p, 0, none⟩)] 28)).alloc (.cells #[.pointer (some ⟨m, 0, none⟩)] 34)).alloc (.cells #[.int .i64 most] 3)).alloc (.cells #[.bool false] 4)) (.cells #[.int .i64 0] 3)
    simp only [World.size_alloc] at n1 n2 n3 n4 n5
    rw [hW1]
    exact ⟨below_alloc (below_alloc (below_alloc (below_alloc (below_alloc (below_alloc (Below.refl _ _) _) _) _) _) _) _, blk_alloc (blk_alloc (blk_alloc (blk_alloc (blk_alloc n1 _) _) _) _) _, blk_alloc (blk_alloc (blk_alloc (blk_alloc n2 _) _) _) _, blk_alloc (blk_alloc (blk_alloc n3 _) _) _, blk_alloc (blk_alloc n4 _) _, blk_alloc n5 _⟩
  have hsW1 : W1.heap.size = w.heap.size + 1 + 1 + 1 + 1 + 1 + 1 := by rw [hW1]; simp
  have hbt : W1.cell? ⟨w.heap.size + 1 + 1 + 1 + 1 + 1, 0, none⟩ = some (.pointer (some ⟨p, 0, none⟩)) := by
    have := heap_alloc_new (((((w.alloc (.cells #[.pointer (some ⟨p, 0, none⟩)] 28)).alloc (.cells #[.pointer (some ⟨m, 0, none⟩)] 34)).alloc (.cells #[.int .i64 most] 3)).alloc (.cells #[.bool false] 4)).alloc (.cells #[.int .i64 0] 3)) (.cells #[.pointer (some ⟨p, 0, none⟩)] 28)
    simp only [World.size_alloc] at this
    rw [hW1]
    exact (blk_cell this 0).trans rfl
  have hT1 := hT.below hI0.below
  obtain ⟨cv, _, hmb, hcv⟩ := hR
  obtain ⟨cA, cc, rfl, hcc, hcr⟩ := Kd.R_reads hcv
  have HSW := Aside0.mk hsW1
  clear hW1 hsW1 hcv hT
  refine wpIn_mono (Q := fun e a' V => (e = .normal ∨ e = .exit 0) ∧ ∃ D nn, a' = { tmps := #[.pointer (some ⟨p, 0, none⟩), .pointer (some ⟨m, 0, none⟩), .int .i64 most, .pointer (some ⟨w.heap.size, 0, none⟩), .pointer (some ⟨w.heap.size + 1, 0, none⟩), .pointer (some ⟨w.heap.size + 1 + 1, 0, none⟩), .pointer (some ⟨w.heap.size + 1 + 1 + 1, 0, none⟩), .pointer (some ⟨w.heap.size + 1 + 1 + 1 + 1, 0, none⟩), undef, undef, .pointer (some ⟨p, 0, none⟩), .func (.func 95) #[] #[.pointer (some ⟨w.heap.size + 1 + 1 + 1 + 1 + 1, 0, none⟩)], undef, undef, undef, undef, undef, undef, undef, undef, undef, undef, undef, undef, undef, undef, undef, undef, undef, undef, undef, undef, undef, undef, undef, undef, undef, undef, undef, undef, undef, undef, undef, undef, undef, undef, undef, undef, undef, undef, undef, undef, undef, undef, undef, undef, undef, undef, undef, undef, undef, undef, undef, undef, undef, undef, undef, undef, undef, undef, undef, undef, undef, undef, undef, undef, undef, undef, undef, undef, undef, undef, undef, undef, undef, undef, undef, undef, undef, undef, undef, undef, undef, undef, undef, undef], defers := [{ target := .collected D, args := #[] }] } ∧ w.heap.size ≤ D ∧ V.heap[D]? = some (.deferred (some [])) ∧ AInv w V p m most nn ∧ (nn = cs.length ∨ (nn : Int) = most)) ?_ ?_
  · refine wpIn_rangeFunc_ownH rfl (by omega) (gf := 95) (lb := #[.pointer (some ⟨w.heap.size + 1 + 1 + 1 + 1 + 1, 0, none⟩)]) rfl trivial (enters_of Try.func95 (by kernel_rfl) rfl)
      (All_stops _ (by omega) (w.heap.size + 1 + 1 + 1 + 1 + 1) W1 hT1 hsl hbt)
      (fun h1 h2 => h1.trans h2) (fun V lq o o' hl ho hcq hw => ⟨walksK_b (w := W1) V lq o o' hl ho hcq hw, fun k cs t f _ hk => (World.putObj_heap_other (fun e => by subst e; rw [ho] at hk; injection hk with hk; subst hk; cases hcq)).trans hk⟩) (Below.refl _ _) (fun _ => rfl)
      (fun pre V => AInv w V p m most pre.length ∧ pre <+: cs)
      (fun cd pre V => (cd = .exit 0 ∧ AInv w V p m most pre.length ∧ (pre.length : Int) = most) ∨ (cd = .ret ∧ ¬ pre <+: cs))
      ?_ ?_ ⟨hI0, List.nil_prefix⟩
      (fun x a' V => ∃ B5, a' = { tmps := #[.pointer (some ⟨p, 0, none⟩), .pointer (some ⟨m, 0, none⟩), .int .i64 most, .pointer (some ⟨w.heap.size, 0, none⟩), .pointer (some ⟨w.heap.size + 1, 0, none⟩), .pointer (some ⟨w.heap.size + 1 + 1, 0, none⟩), .pointer (some ⟨w.heap.size + 1 + 1 + 1, 0, none⟩), .pointer (some ⟨w.heap.size + 1 + 1 + 1 + 1, 0, none⟩), .pointer (some ⟨B5, 0, none⟩), undef, .pointer (some ⟨p, 0, none⟩), .func (.func 95) #[] #[.pointer (some ⟨w.heap.size + 1 + 1 + 1 + 1 + 1, 0, none⟩)], .agg #[.int .i64 x.f0.f0, .int .i64 x.f0.f1.f0, .int .i64 x.f0.f1.f1, .int .i64 x.f1], undef, undef, undef, undef, undef, undef, undef, undef, undef, undef, undef, undef, undef, undef, undef, undef, undef, undef, undef, undef, undef, undef, undef, undef, undef, undef, undef, undef, undef, undef, undef, undef, undef, undef, undef, undef, undef, undef, undef, undef, undef, undef, undef, undef, undef, undef, undef, undef, undef, undef, undef, undef, undef, undef, undef, undef, undef, undef, undef, undef, undef, undef, undef, undef, undef, undef, undef, undef, undef, undef, undef, undef, undef, undef, undef, undef, undef, undef, undef, undef, undef, undef, undef], defers := [] } ∧ V.heap[B5]? = some (.cells #[.int .i64 x.f0.f0, .int .i64 x.f0.f1.f0, .int .i64 x.f0.f1.f1, .int .i64 x.f1] 70 (0, 0))) ?_ ?assign ?body ?done ?stop
    · rintro pre V V' row ⟨h1, h2⟩ hg' hr'
      exact ⟨h1.grown hg' (fun r e => ⟨by have := (hr' r e).1; have := HSW.out; omega, (hr' r e).2⟩), h2⟩
    · rintro cd pre V V' row h hg' hr'
      rcases h with ⟨rfl, h1, h2⟩ | ⟨rfl, h1⟩
      · exact .inl ⟨rfl, h1.grown hg' (fun r e => ⟨by have := (hr' r e).1; have := HSW.out; omega, (hr' r e).2⟩), h2⟩
      · exact .inr ⟨rfl, h1⟩
    · rintro x a' _ V V' row ⟨B5, rfl, h5⟩ hg' hr'
      refine ⟨B5, rfl, blk_grown h5 hg' (fun e => ?_)⟩
      obtain ⟨_, o, ho, hcq⟩ := hr' B5 e.symm
      rw [h5] at ho
      injection ho with ho
      subst ho
      cases hcq
    case assign =>
      rintro lp pre x V K ⟨h1, h2⟩ hK'
      have hz : ∀ t : Array Value, ((#[12] : Array Nat).zip (encC x)).foldl (fun t (p, v) => t.setIfInBounds p v) t = (t.setIfInBounds 12 (.agg #[.int .i64 x.f0.f0, .int .i64 x.f0.f1.f0, .int .i64 x.f0.f1.f1, .int .i64 x.f1])) := fun t => by simp [encC]
      rw [hz]
      clear hz
      gi_wp2
      exact hK' _ _ ((KeepsOthers.alloc V _).from _) (keepC_below (below_alloc (Below.refl _ _) _)) ⟨h1.step (below_alloc (Below.refl _ _) _), h2⟩ ⟨V.heap.size, rfl, heap_alloc_new V _⟩
    case body =>
      rintro lp pre x a' V hwl hrec ⟨hA, hpre⟩ ⟨B5, rfl, h5⟩ hlen
      have hn : pre.length < cs.length := by rw [← HLL.out]; exact hlen
      have HLP : Aside0 (∀ y, cs[pre.length]? = some y → ((pre ++ [x]) <+: cs ↔ x = y)) := ⟨fun y hy => prefix_snoc hpre hy x⟩
      have hpl : (pre ++ [x]).length = pre.length + 1 := by simp
      have HPL := Aside0.mk hpl
      have hsW := HSW.out
      obtain ⟨ad, e1, x0, x1, x2, x3⟩ := at_T70 hcr (pre.length : Int) (by omega) (by omega)
      cases e1
      simp only [Int.toNat_natCast] at x0 x1 x2 x3
      have hy := rd_get hn
      generalize rd_T70 cs pre.length = y at x0 x1 x2 x3 hy
      have HY := Aside0.mk hy
      clear hy hpl hpre
      obtain ⟨n, hnn⟩ : ∃ n, n = pre.length := ⟨_, rfl⟩
      rw [← hnn] at hA hn x0 x1 x2 x3
      have HN := Aside0.mk hnn
      clear hnn
      have hmV := blk_below hmb hA.below
      replace x0 := fun d os => cell_regrown ((hA.below.cell (World.block_lt_of_cell? w _ x0)).trans x0) d os
      replace x1 := fun d os => cell_regrown ((hA.below.cell (World.block_lt_of_cell? w _ x1)).trans x1) d os
      replace x2 := fun d os => cell_regrown ((hA.below.cell (World.block_lt_of_cell? w _ x2)).trans x2) d os
      replace x3 := fun d os => cell_regrown ((hA.below.cell (World.block_lt_of_cell? w _ x3)).trans x3) d os
      have c0 := fun d os => cell_regrown ((blk_cell h5 0).trans rfl) d os
      have c1 := fun d os => cell_regrown ((blk_cell h5 1).trans rfl) d os
      have c2 := fun d os => cell_regrown ((blk_cell h5 2).trans rfl) d os
      have c3 := fun d os => cell_regrown ((blk_cell h5 3).trans rfl) d os
      have t0 := fun d os => cell_regrown ((blk_cell hA.b0 0).trans rfl) d os
      have t1 := fun d os => cell_regrown ((blk_cell hA.b1 0).trans rfl) d os
      have t4 := fun d os => cell_regrown ((blk_cell hA.b4 0).trans rfl) d os
      have m1 := fun d os => cell_regrown ((blk_cell hmV 1).trans rfl) d os
      have d1 : decide (cs.length ≤ n) = false := decide_eq_false (by omega)
      clear h5 hmV
      by_cases hs : x.f0 = y.f0
      · have HSA : Aside0 (true = decide (x.f0 = y.f0)) := ⟨(decide_eq_true hs).symm⟩
        by_cases hv : x.f1 = y.f1
        · have hxy : x = y := count_ext hs hv
          subst hxy
          clear hs hv
          have hSS := fun W => r17_Same_calls2 x.f0 x.f0 true (decide_eq_true rfl).symm W
          have HSS := Aside0.mk hSS
          clear hSS HSA
          have hTV := HT.out.below hA.below
          have hCT : ∀ q : Regrown, Calls Try.prog 22 #[.pointer (some ⟨p, 0, none⟩), .agg #[.int .i64 x.f0.f0, .int .i64 x.f0.f1.f0, .int .i64 x.f0.f1.f1]] (grow (redrawn V q.d) q.os) fun e w' => e = .returned (.int .i64 x.f1) ∧ Below (grow (redrawn V q.d) q.os).heap.size (grow (redrawn V q.d) q.os) w' := fun q => by
            have h := Count_calls (grow (redrawn V q.d) q.os) (hTV.below (below_regrown V q.d q.os)) x.f0
            have hcn : (l.lookup x.f0).getD 0 = x.f1 := ((mem_sameC HS.out x).1 (List.mem_of_getElem? HY.out)).1
            rw [hcn] at h
            exact h
          have HCT := Aside0.mk hCT
          clear hCT hTV
          gi_wp2
          refine wpIn_region_calm_below (by kernel_rfl) (by kernel_rfl) (by kernel_rfl) ?_
          repeat (gi_big_quiet_step (first | (with_reducible exact CallsIn.regrown_of (CallsIn.inRound _ (callsIn_wide.2 (HSS.out _)))) | exact CallsIn.regrown_of (CallsIn.inRound _ (callsIn_wide.2 (HCT.out _)))))
          refine wpQuietIn_nil ?_
          rintro w8 ⟨q8, rfl⟩
          obtain ⟨V8, hV8⟩ : ∃ V8, V8 = grow (redrawn V q8.d) q8.os := ⟨_, rfl⟩
          rw [← hV8]
          have hb8 : Below V.heap.size V V8 := by rw [hV8]; exact below_regrown V q8.d q8.os
          have hA8 := hA.step hb8
          have r2 : V8.cell? ⟨w.heap.size + 1 + 1, 0, none⟩ = some (.int .i64 most) := (blk_cell hA8.b2 0).trans rfl
          have r4 : V8.cell? ⟨w.heap.size + 1 + 1 + 1 + 1, 0, none⟩ = some (.int .i64 (n : Int)) := (blk_cell hA8.b4 0).trans rfl
          have r4f : V8.frozen? ⟨w.heap.size + 1 + 1 + 1 + 1, 0, none⟩ = false := blk_frozen hA8.b4 0
          have hpf := (HLP.out x HY.out).2 rfl
          have hA9 := hA8.put
          clear hV8 x0 x1 x2 x3 c0 c1 c2 c3 t0 t1 t4 m1
          by_cases hm : (n : Int) + 1 = most
          · have hmb : ((n : Int) + 1 == most) = true := beq_iff_eq.2 hm
            have HM := Aside0.mk hm
            clear hm
            gi_wp2
            refine ⟨((keepO_below hb8).trans (KeepsOthers.setCell V8 _ _)).from _, .inl ⟨rfl, ?_, ?_⟩⟩
            · rw [HPL.out, ← HN.out]; exact hA9
            · rw [HPL.out, ← HN.out]; have := HM.out; omega
          · have hmb : ((n : Int) + 1 == most) = false := beq_eq_false_iff_ne.2 hm
            clear hm
            gi_wp2
            refine ⟨((keepO_below hb8).trans (KeepsOthers.setCell V8 _ _)).from _, (keepC_below hb8).trans (keepC_set V8 (by omega) _ _), ?_, hpf⟩
            rw [HPL.out, ← HN.out]; exact hA9
        · have hvb : (x.f1 != y.f1) = true := bne_iff_ne.2 hv
          have HNE : Aside0 (x ≠ y) := ⟨fun e => hv (by rw [e])⟩
          clear hs hv
          gi_wp2
          refine wpIn_region_calm_below (by kernel_rfl) (by kernel_rfl) (by kernel_rfl) ?_
          repeat (gi_big_quiet_step ((with_reducible exact CallsIn.regrown_of (CallsIn.inRound _ (callsIn_wide.2 (r17_Same_calls2 x.f0 y.f0 true HSA.out _))))))
          refine wpQuietIn_nil ?_
          rintro w8 ⟨q8, rfl⟩
          obtain ⟨V8, hV8⟩ : ∃ V8, V8 = grow (redrawn V q8.d) q8.os := ⟨_, rfl⟩
          rw [← hV8]
          have hb8 : Below V.heap.size V V8 := by rw [hV8]; exact below_regrown V q8.d q8.os
          have hA8 := hA.step hb8
          have r3 : V8.cell? ⟨w.heap.size + 1 + 1 + 1, 0, none⟩ = some (.bool false) := (blk_cell hA8.b3 0).trans rfl
          have r3f : V8.frozen? ⟨w.heap.size + 1 + 1 + 1, 0, none⟩ = false := blk_frozen hA8.b3 0
          clear hV8 x0 x1 x2 x3 c0 c1 c2 c3 t0 t1 t4 m1
          gi_wp2
          exact ⟨((keepO_below hb8).trans (KeepsOthers.setCell V8 _ _)).from _, .inr ⟨rfl, fun h => HNE.out ((HLP.out y HY.out).1 h)⟩⟩
      · have HSA : Aside0 (false = decide (x.f0 = y.f0)) := ⟨(decide_eq_false hs).symm⟩
        have HNE : Aside0 (x ≠ y) := ⟨fun e => hs (by rw [e])⟩
        clear hs
        gi_wp2
        refine wpIn_region_calm_below (by kernel_rfl) (by kernel_rfl) (by kernel_rfl) ?_
        repeat (gi_big_quiet_step ((with_reducible exact CallsIn.regrown_of (CallsIn.inRound _ (callsIn_wide.2 (r17_Same_calls2 x.f0 y.f0 false HSA.out _))))))
        refine wpQuietIn_nil ?_
        rintro w8 ⟨q8, rfl⟩
        obtain ⟨V8, hV8⟩ : ∃ V8, V8 = grow (redrawn V q8.d) q8.os := ⟨_, rfl⟩
        rw [← hV8]
        have hb8 : Below V.heap.size V V8 := by rw [hV8]; exact below_regrown V q8.d q8.os
        have hA8 := hA.step hb8
        have r3 : V8.cell? ⟨w.heap.size + 1 + 1 + 1, 0, none⟩ = some (.bool false) := (blk_cell hA8.b3 0).trans rfl
        have r3f : V8.frozen? ⟨w.heap.size + 1 + 1 + 1, 0, none⟩ = false := blk_frozen hA8.b3 0
        clear hV8 x0 x1 x2 x3 c0 c1 c2 c3 t0 t1 t4 m1
        gi_wp2
        exact ⟨((keepO_below hb8).trans (KeepsOthers.setCell V8 _ _)).from _, .inr ⟨rfl, fun h => HNE.out ((HLP.out y HY.out).1 h)⟩⟩
    case done =>
      rintro D xs V hD hxs ⟨h1, h2⟩ hmk
      have e := listed_is HS.out HTY.out hxs
      refine ⟨.inl rfl, D, xs.length, rfl, by have := HSW.out; omega, hmk, h1, .inl (by rw [e])⟩
    case stop =>
      rintro D cd pre V hD ⟨rest, hl⟩ h hmk
      rcases h with ⟨rfl, h1, h2⟩ | ⟨rfl, h1⟩
      · refine wpIn_exit ?_
        exact ⟨.inr rfl, D, pre.length, rfl, by have := HSW.out; omega, hmk, h1, .inr h2⟩
      · have e := listed_is HS.out HTY.out hl
        exact absurd ⟨rest, e⟩ h1
  · rintro e a' V ⟨he, D, nn, rfl, hD, hmk, hA, hnn⟩
    have hsV := hA.size
    have hmV := blk_below hmb hA.below
    have y1 : V.cell? ⟨w.heap.size + 1, 0, none⟩ = some (.pointer (some ⟨m, 0, none⟩)) := (blk_cell hA.b1 0).trans rfl
    have y2 : V.cell? ⟨w.heap.size + 1 + 1, 0, none⟩ = some (.int .i64 most) := (blk_cell hA.b2 0).trans rfl
    have y4 : V.cell? ⟨w.heap.size + 1 + 1 + 1 + 1, 0, none⟩ = some (.int .i64 (nn : Int)) := (blk_cell hA.b4 0).trans rfl
    have ym : V.cell? ⟨m, 1, none⟩ = some (.slice cA cs.length cc) := (blk_cell hmV 1).trans rfl
    clear hmV hI0 hbt hT1
    refine inBlock_both he ?_
    by_cases hq : nn = cs.length
    · have hq1 : ((nn : Int) != (cs.length : Int)) = false := by simp [hq]
      clear hq hnn he
      gi_wp2
      gi_big_quiet_th (fail)
      gi_wp2
      gi_loopw [9] (fun v9 W => ∃ loc : Int, v9 = .int .i64 loc ∧ -1 ≤ loc ∧ loc ≤ (g.length : Int) + 1 ∧ AInv w W p m most nn ∧ W.heap[D]? = some (.deferred (some []))) (fun v _ => ((g.length : Int) + 1 - intOf v).toNat)
      case atStart => exact ⟨-1, rfl, by omega, by omega, hA.step (pw_below_drewN (Below.refl _ _) _), blk_drewN hmk _⟩
      case round =>
        obtain ⟨loc, rfl, hl1, hl2, hAW, hmW⟩ := hrel
        have hsW := hAW.size
        have hmW2 := blk_below hmb hAW.below
        have z0 : wr.cell? ⟨w.heap.size, 0, none⟩ = some (.pointer (some ⟨p, 0, none⟩)) := (blk_cell hAW.b0 0).trans rfl
        have z1 : wr.cell? ⟨w.heap.size + 1, 0, none⟩ = some (.pointer (some ⟨m, 0, none⟩)) := (blk_cell hAW.b1 0).trans rfl
        have zm : wr.cell? ⟨m, 0, none⟩ = some (.slice A g.length c) := (blk_cell hmW2 0).trans rfl
        have hms : m < wr.heap.size := blk_lt hmW2
        have hTW := Aside0.mk (HT.out.below hAW.below)
        obtain ⟨G, hG⟩ : ∃ G, G = rFrontL g loc (upC cs) := ⟨_, rfl⟩
        have HG := Aside0.mk hG
        have hGl : G.length ≤ 1000000000 := by rw [hG]; exact Nat.le_trans (frontL_len _ _ _) (Nat.le_trans (upC_len cs) hsz)
        have hul : (upC cs).length ≤ 1000000000 := Nat.le_trans (upC_len cs) hsz
        have hbW := Aside0.mk (pw_below_drewN hAW.below 1)
        have hAWs := Aside0.mk hAW
        have hmWs := Aside0.mk hmW
        clear hG hmW hmW2 hAW
        by_cases hlt : loc ≤ (g.length : Int)
        · have hd : decide (loc ≤ (g.length : Int)) = true := decide_eq_true hlt
          gi_wp2
          refine wpIn_wide.2 ?_
          go_region_held3 (fun w' => w'.cell? ⟨w.heap.size, 0, none⟩ = some (.pointer (some ⟨p, 0, none⟩)) ∧ w'.cell? ⟨w.heap.size + 1, 0, none⟩ = some (.pointer (some ⟨m, 0, none⟩)) ∧ w'.cell? ⟨m, 0, none⟩ = some (.slice A g.length c))
            (first
              | go_keep
              | (go_split_ands
                 refine ⟨(hb5.cell (by simp only; omega)).trans ‹_›, (hb5.cell (by simp only; omega)).trans ‹_›, (hb5.cell (by simp only; omega)).trans ‹_›⟩)
              | (go_split_ands
                 refine ⟨(hb4.cell (by simp only; omega)).trans ‹_›, (hb4.cell (by simp only; omega)).trans ‹_›, (hb4.cell (by simp only; omega)).trans ‹_›⟩)
              | (go_split_ands
                 refine ⟨(hb3.cell (by simp only; omega)).trans ‹_›, (hb3.cell (by simp only; omega)).trans ‹_›, (hb3.cell (by simp only; omega)).trans ‹_›⟩)
              | (go_split_ands
                 refine ⟨(hb2.cell (by simp; omega)).trans ‹_›, (hb2.cell (by simp; omega)).trans ‹_›, (hb2.cell (by simp; omega)).trans ‹_›⟩))
            (first
              | (go_at_call 34; refine (TFront_is (wr.drewN 1) (hTW.out.below (pw_below_drewN (Below.refl _ _) 1)) HIL.out hsl HS.out HTY.out loc G HG.out).mono ?_; rintro e w2 ⟨fA, fc, rfl, hfc, hfr, hb2⟩; have hz2 : wr.heap.size ≤ w2.heap.size := (by have := hb2.size; simpa using this); have hb20 := Aside0.mk (below_then hbW.out hbW.out.size hb2))
              | (go_at_call 62; refine (rAlive_calls2 w2 (HR.out.below hb20.out) hsz).mono ?_; rintro e w3 ⟨rA, rc, rfl, hrc, hrr, hb3⟩; have hz3 : w2.heap.size ≤ w3.heap.size := hb3.size; have hb30 := Aside0.mk (below_then hb20.out hb20.out.size hb3))
              | (go_at_call 61; refine (rFront_is w3 A c g (Kd.C_below hr hb30.out) hc HIL.out rA rc (upC cs) hrr hrc hul loc G HG.out).mono ?_; rintro e w4 ⟨gA, gc, rfl, hgc, hgr, hb4⟩; have hz4 : w3.heap.size ≤ w4.heap.size := hb4.size; have hb40 := Aside0.mk (below_then hb30.out hb30.out.size hb4))
              | (go_at_call 32; refine (rSame_calls w4 fA fc G gA gc G (Kd.C_below (Kd.C_below hfr hb3) hb4) hfc hgr hgc (by omega) true (decide_eq_true rfl).symm).mono ?_; rintro e w5 ⟨rfl, hb5⟩; have hz5 : w4.heap.size ≤ w5.heap.size := hb5.size))
          have hb50 := below_then hb40.out hb40.out.size hb5
          have hb5r : Below wr.heap.size wr w5 := below_then (below_then (below_then (below_then (pw_below_drewN (Below.refl _ _) 1) (by simp) hb2) (by omega) hb3) (by omega) hb4) (by omega) hb5
          clear hb2 hb3 hb4 hb5
          gi_wp2
          go_roundw
          case rel => exact ⟨loc + 1, by go_num, by omega, by omega, hAWs.out.step hb5r, blk_below hmWs.out hb5r⟩
          case measure => simp [intOf]; omega
        · have hd : decide (loc ≤ (g.length : Int)) = false := decide_eq_false hlt
          have z3 : wr.cell? ⟨w.heap.size + 1 + 1 + 1, 0, none⟩ = some (.bool false) := (blk_cell hAWs.out.b3 0).trans rfl
          have z3f : wr.frozen? ⟨w.heap.size + 1 + 1 + 1, 0, none⟩ = false := blk_frozen hAWs.out.b3 0
          gi_wp2
          have hne : D ≠ w.heap.size + 1 + 1 + 1 := by
            rintro rfl
            have h1 := hAWs.out.b3
            rw [hmWs.out] at h1
            cases h1
          refine leaves_marks (B := w.heap.size) [D] _ (by simp) (fun D' h => by obtain rfl : D' = D := (by simpa using h); exact ⟨hD, (Below.heap_setCell wr ⟨w.heap.size + 1 + 1 + 1, 0, none⟩ _ D' hne).trans hmWs.out⟩) ?_
          intro W' hs
          have hr3 : W'.cell? ⟨w.heap.size + 1 + 1 + 1, 0, none⟩ = some (.bool true) := by
            have h1 := blk_set hAWs.out.b3 0 (.bool true)
            have h2 := (hs.cells _ _ _ _ h1).trans h1
            exact (blk_cell h2 0).trans rfl
          refine ⟨.bool true, by simp [results, Try.results19, go_sem, hr3], rfl, hs.below (hAWs.out.below.setCell (p := ⟨w.heap.size + 1 + 1 + 1, 0, none⟩) (by simp only; omega) _)⟩
    · have hq1 : ((nn : Int) != (cs.length : Int)) = true := by simp; omega
      have hq2 : ((nn : Int) != most) = false := by
        rcases hnn with h | h
        · exact absurd h hq
        · simp [h]
      clear hq hnn he
      gi_wp2
      gi_big_quiet_th (fail)
      gi_wp2
      gi_loopw [9] (fun v9 W => ∃ loc : Int, v9 = .int .i64 loc ∧ -1 ≤ loc ∧ loc ≤ (g.length : Int) + 1 ∧ AInv w W p m most nn ∧ W.heap[D]? = some (.deferred (some []))) (fun v _ => ((g.length : Int) + 1 - intOf v).toNat)
      case atStart => exact ⟨-1, rfl, by omega, by omega, hA.step (pw_below_drewN (Below.refl _ _) _), blk_drewN hmk _⟩
      case round =>
        obtain ⟨loc, rfl, hl1, hl2, hAW, hmW⟩ := hrel
        have hsW := hAW.size
        have hmW2 := blk_below hmb hAW.below
        have z0 : wr.cell? ⟨w.heap.size, 0, none⟩ = some (.pointer (some ⟨p, 0, none⟩)) := (blk_cell hAW.b0 0).trans rfl
        have z1 : wr.cell? ⟨w.heap.size + 1, 0, none⟩ = some (.pointer (some ⟨m, 0, none⟩)) := (blk_cell hAW.b1 0).trans rfl
        have zm : wr.cell? ⟨m, 0, none⟩ = some (.slice A g.length c) := (blk_cell hmW2 0).trans rfl
        have hms : m < wr.heap.size := blk_lt hmW2
        have hTW := Aside0.mk (HT.out.below hAW.below)
        obtain ⟨G, hG⟩ : ∃ G, G = rFrontL g loc (upC cs) := ⟨_, rfl⟩
        have HG := Aside0.mk hG
        have hGl : G.length ≤ 1000000000 := by rw [hG]; exact Nat.le_trans (frontL_len _ _ _) (Nat.le_trans (upC_len cs) hsz)
        have hul : (upC cs).length ≤ 1000000000 := Nat.le_trans (upC_len cs) hsz
        have hbW := Aside0.mk (pw_below_drewN hAW.below 1)
        have hAWs := Aside0.mk hAW
        have hmWs := Aside0.mk hmW
        clear hG hmW hmW2 hAW
        by_cases hlt : loc ≤ (g.length : Int)
        · have hd : decide (loc ≤ (g.length : Int)) = true := decide_eq_true hlt
          gi_wp2
          refine wpIn_wide.2 ?_
          go_region_held3 (fun w' => w'.cell? ⟨w.heap.size, 0, none⟩ = some (.pointer (some ⟨p, 0, none⟩)) ∧ w'.cell? ⟨w.heap.size + 1, 0, none⟩ = some (.pointer (some ⟨m, 0, none⟩)) ∧ w'.cell? ⟨m, 0, none⟩ = some (.slice A g.length c))
            (first
              | go_keep
              | (go_split_ands
                 refine ⟨(hb5.cell (by simp only; omega)).trans ‹_›, (hb5.cell (by simp only; omega)).trans ‹_›, (hb5.cell (by simp only; omega)).trans ‹_›⟩)
              | (go_split_ands
                 refine ⟨(hb4.cell (by simp only; omega)).trans ‹_›, (hb4.cell (by simp only; omega)).trans ‹_›, (hb4.cell (by simp only; omega)).trans ‹_›⟩)
              | (go_split_ands
                 refine ⟨(hb3.cell (by simp only; omega)).trans ‹_›, (hb3.cell (by simp only; omega)).trans ‹_›, (hb3.cell (by simp only; omega)).trans ‹_›⟩)
              | (go_split_ands
                 refine ⟨(hb2.cell (by simp; omega)).trans ‹_›, (hb2.cell (by simp; omega)).trans ‹_›, (hb2.cell (by simp; omega)).trans ‹_›⟩))
            (first
              | (go_at_call 34; refine (TFront_is (wr.drewN 1) (hTW.out.below (pw_below_drewN (Below.refl _ _) 1)) HIL.out hsl HS.out HTY.out loc G HG.out).mono ?_; rintro e w2 ⟨fA, fc, rfl, hfc, hfr, hb2⟩; have hz2 : wr.heap.size ≤ w2.heap.size := (by have := hb2.size; simpa using this); have hb20 := Aside0.mk (below_then hbW.out hbW.out.size hb2))
              | (go_at_call 62; refine (rAlive_calls2 w2 (HR.out.below hb20.out) hsz).mono ?_; rintro e w3 ⟨rA, rc, rfl, hrc, hrr, hb3⟩; have hz3 : w2.heap.size ≤ w3.heap.size := hb3.size; have hb30 := Aside0.mk (below_then hb20.out hb20.out.size hb3))
              | (go_at_call 61; refine (rFront_is w3 A c g (Kd.C_below hr hb30.out) hc HIL.out rA rc (upC cs) hrr hrc hul loc G HG.out).mono ?_; rintro e w4 ⟨gA, gc, rfl, hgc, hgr, hb4⟩; have hz4 : w3.heap.size ≤ w4.heap.size := hb4.size; have hb40 := Aside0.mk (below_then hb30.out hb30.out.size hb4))
              | (go_at_call 32; refine (rSame_calls w4 fA fc G gA gc G (Kd.C_below (Kd.C_below hfr hb3) hb4) hfc hgr hgc (by omega) true (decide_eq_true rfl).symm).mono ?_; rintro e w5 ⟨rfl, hb5⟩; have hz5 : w4.heap.size ≤ w5.heap.size := hb5.size))
          have hb50 := below_then hb40.out hb40.out.size hb5
          have hb5r : Below wr.heap.size wr w5 := below_then (below_then (below_then (below_then (pw_below_drewN (Below.refl _ _) 1) (by simp) hb2) (by omega) hb3) (by omega) hb4) (by omega) hb5
          clear hb2 hb3 hb4 hb5
          gi_wp2
          go_roundw
          case rel => exact ⟨loc + 1, by go_num, by omega, by omega, hAWs.out.step hb5r, blk_below hmWs.out hb5r⟩
          case measure => simp [intOf]; omega
        · have hd : decide (loc ≤ (g.length : Int)) = false := decide_eq_false hlt
          have z3 : wr.cell? ⟨w.heap.size + 1 + 1 + 1, 0, none⟩ = some (.bool false) := (blk_cell hAWs.out.b3 0).trans rfl
          have z3f : wr.frozen? ⟨w.heap.size + 1 + 1 + 1, 0, none⟩ = false := blk_frozen hAWs.out.b3 0
          gi_wp2
          have hne : D ≠ w.heap.size + 1 + 1 + 1 := by
            rintro rfl
            have h1 := hAWs.out.b3
            rw [hmWs.out] at h1
            cases h1
          refine leaves_marks (B := w.heap.size) [D] _ (by simp) (fun D' h => by obtain rfl : D' = D := (by simpa using h); exact ⟨hD, (Below.heap_setCell wr ⟨w.heap.size + 1 + 1 + 1, 0, none⟩ _ D' hne).trans hmWs.out⟩) ?_
          intro W' hs
          have hr3 : W'.cell? ⟨w.heap.size + 1 + 1 + 1, 0, none⟩ = some (.bool true) := by
            have h1 := blk_set hAWs.out.b3 0 (.bool true)
            have h2 := (hs.cells _ _ _ _ h1).trans h1
            exact (blk_cell h2 0).trans rfl
          refine ⟨.bool true, by simp [results, Try.results19, go_sem, hr3], rfl, hs.below (hAWs.out.below.setCell (p := ⟨w.heap.size + 1 + 1 + 1, 0, none⟩) (by simp only; omega) _)⟩
end Go.Proofs.Ytiooalhfhnddjaa
end
section
set_option linter.unusedVariables false
set_option linter.unusedSimpArgs false
namespace Go.Proofs.Ytiooalhfhnddjaa
open Go.RowKit Go.Proofs.Ytiooalhfhnddjaa.MM Go.Proofs.Ytiooalhfhnddjaa.PX Go.Proofs.YtiooalhfhnddjaaW.PrintWords
def gKnown : List Op := [⟨1, [], 0, 0, 0, 0, 0⟩, ⟨8, [0], 0, 0, 0, 0, 0⟩]
theorem gKnown_ok : okg gKnown = true := by decide
theorem C_one {α : Type} {d : Kd α} {W : World} {b : Nat} {x : α} {cs : List Value} {t : TypeId} (hk : d.K W x cs) (hb : W.heap[b]? = some (.cells cs.toArray t (0, 0))) : Kd.C d W (some ⟨b, 0, none⟩) 1 [x] := by
  refine ⟨rfl, by omega, fun _ => ⟨_, rfl, fun j p hj => ?_⟩⟩
  cases j with
  | succ j => simp at hj
  | zero =>
    simp at hj
    subst hj
    refine ⟨cs, d.K_len hk, hk, fun i u hu => ?_⟩
    rw [Nat.zero_mul, Nat.zero_add, add_plain, blk_cell hb]
    simpa using hu
theorem C_two {α : Type} {d : Kd α} {W : World} {b : Nat} {x y : α} {cs ds : List Value} {t : TypeId} (hk : d.K W x cs) (hl : d.K W y ds) (hb : W.heap[b]? = some (.cells (cs ++ ds).toArray t (0, 0))) : Kd.C d W (some ⟨b, 0, none⟩) 2 [x, y] := by
  have h1 := d.K_len hk
  have h2 := d.K_len hl
  refine ⟨rfl, by omega, fun _ => ⟨_, rfl, fun j p hj => ?_⟩⟩
  match j, hj with
  | 0, hj =>
    simp at hj
    subst hj
    refine ⟨cs, h1, hk, fun i u hu => ?_⟩
    rw [Nat.zero_mul, Nat.zero_add, add_plain, blk_cell hb]
    have hlt := (List.getElem?_eq_some_iff.1 hu).1
    simp [List.getElem?_append_left hlt, hu]
  | 1, hj =>
    simp at hj
    subst hj
    refine ⟨ds, h2, hl, fun i u hu => ?_⟩
    rw [Nat.one_mul, add_plain, blk_cell hb]
    rw [← h1]
    simp [List.getElem?_append_right, hu]
  | n + 2, hj => simp at hj
def gCells (b : Nat) : Array Value := #[.int .i64 1, .slice none 0 0, .int .i64 0, .int .u32 0, .int .i64 0, .int .i64 0, .int .u32 0, .int .i64 8, .slice (some ⟨b, 0, none⟩) 1 1, .int .i64 0, .int .u32 0, .int .i64 0, .int .i64 0, .int .u32 0]
theorem C_gKnown {W : World} {b : Nat} (h0 : W.heap[b]? = some (.cells #[.int .i64 0] 3 (0, 0))) (h1 : W.heap[b + 1]? = some (.cells (gCells b) 95 (0, 0))) : Kd.C kOp W (some ⟨b + 1, 0, none⟩) 2 gKnown := by
  have k1 := k95_mk W (⟨1, [], 0, 0, 0, 0, 0⟩ : Op) (A1 := none) (c1 := 0) (Nat.le_refl _) ⟨rfl, by decide, fun h => absurd h (by decide)⟩
  have k2 := k95_mk W (⟨8, [0], 0, 0, 0, 0, 0⟩ : Op) (A1 := some ⟨b, 0, none⟩) (c1 := 1) (Nat.le_refl _) (C_one (d := Kd.int .i64) (cs := [.int .i64 0]) rfl h0)
  exact C_two k1 k2 h1
def newKnown (B : Nat) (e : Ending) (W w' : World) : Prop := ∃ p mb, e = .returned (.tuple #[.pointer (some ⟨p, 0, none⟩), .int .i64 0]) ∧ TrkAt w' B p mb gKnown (waysOf gKnown) [] ∧ Below B W w'
theorem New_known (W : World) {b : Nat} (h0 : W.heap[b]? = some (.cells #[.int .i64 0] 3 (0, 0))) (h1 : W.heap[b + 1]? = some (.cells (gCells b) 95 (0, 0))) :
    Calls Try.prog 15 #[.agg #[.slice (some ⟨b + 1, 0, none⟩) 2 2]] W (fun e w' => newKnown W.heap.size e W w') := by
  refine (New_calls W (some ⟨b + 1, 0, none⟩) 2 gKnown (C_gKnown h0 h1) (by decide) (by decide)).mono ?_
  rintro e w' ⟨hb, h⟩
  rw [gKnown_ok, if_pos rfl] at h
  obtain ⟨p, mb, rfl, hT⟩ := h
  exact ⟨p, mb, rfl, hT, hb⟩
def sKnown : Stamp := ⟨0, ⟨3, 0⟩⟩
theorem updKnown : updErr gKnown [] [⟨sKnown, 1⟩] = 0 := by decide
theorem leftKnown : leftC [] [⟨sKnown, 1⟩] = [⟨sKnown, 1⟩] := rfl
theorem Tidy.nil : Tidy [] := ⟨List.nodup_nil, (fun s h => by cases h), (fun s => by unfold cnt; simp)⟩
def updKnownPost (B p mb : Nat) (W : World) (e : Ending) (w' : World) : Prop := ∃ l', e = .returned (.int .i64 0) ∧ TrkAt w' B p mb gKnown (waysOf gKnown) l' ∧ SameC l' [⟨sKnown, 1⟩] ∧ Tidy l' ∧ AllGood gKnown l' ∧ Below B W w'
theorem Upd_known (W : World) {B p mb : Nat} (h : TrkAt W B p mb gKnown (waysOf gKnown) []) (hB : B ≤ W.heap.size) {b : Nat} (hb : W.heap[b]? = some (.cells #[.int .i64 0, .int .i64 3, .int .i64 0, .int .i64 1] 70 (0, 0))) :
    Calls Try.prog 17 #[.pointer (some ⟨p, 0, none⟩), .slice (some ⟨b, 0, none⟩) 1 1] W (updKnownPost B p mb W) := by
  have hmb : B ≤ mb := by obtain ⟨_, _, _, h2, _⟩ := h; exact h2
  refine (Update_calls W h Tidy.nil (some ⟨b, 0, none⟩) 1 [⟨sKnown, 1⟩] (C_one (d := kCount) (k70_mk W ⟨sKnown, 1⟩) hb) (by decide)).mono ?_
  rintro e w' ⟨l', rfl, hT, hg, _, hl⟩
  rw [updKnown] at hl ⊢
  have hl' := hl rfl
  have hk := hT.keys
  have hS := SameC.next (g := gKnown) SameC.nil hl'
  rw [leftKnown] at hS
  exact ⟨l', rfl, hT, hS, Tidy.next Tidy.nil hk hl' updKnown, AllGood.next (fun q hq => by cases hq) hk hl' updKnown, (Below.refl _ _).grown hg hB (fun k e => by injection e with e; omega)⟩
theorem Done_known (W : World) {B p mb : Nat} {l' : List (Stamp × Int)} (h : TrkAt W B p mb gKnown (waysOf gKnown) l') (hS : SameC l' [⟨sKnown, 1⟩]) (ht : Tidy l') (hg : AllGood gKnown l') (s : Stamp) (r : Bool) (hr : r = (goodB gKnown s && !(upC [⟨sKnown, 1⟩]).any (fun a => couldB gKnown a s))) :
    Calls Try.prog 20 #[.pointer (some ⟨p, 0, none⟩), .agg #[.int .i64 s.f0, .int .i64 s.f1.f0, .int .i64 s.f1.f1]] W fun e w' => e = .returned (.bool r) ∧ Below W.heap.size W w' := by
  have := Done_calls W h (ways_square gKnown) hg.inG (by decide) (by rw [sameC_len hS ht]; decide) s
  rw [done_is hS ht hg, ← hr] at this
  exact this
set_option maxRecDepth 100000 in
set_option maxHeartbeats 4000000 in
theorem known_calls (w : World) : Calls Try.prog 14 #[] w fun e w' => e = .returned (.bool true) ∧ Below w.heap.size w w' := by
  go_enter Try.func14, Try.ntmps14
  go_wp2_with fail
  obtain ⟨W, hW⟩ : ∃ W, W = (w.alloc (.cells #[.int .i64 0] 3)).alloc (.cells (gCells w.heap.size) 95) := ⟨_, rfl⟩
  have h0 : W.heap[w.heap.size]? = some (.cells #[.int .i64 0] 3 (0, 0)) := by rw [hW]; exact blk_alloc (heap_alloc_new w _) _
  have h1 : W.heap[w.heap.size + 1]? = some (.cells (gCells w.heap.size) 95 (0, 0)) := by
    have := heap_alloc_new (w.alloc (.cells #[.int .i64 0] 3)) (.cells (gCells w.heap.size) 95)
    rw [World.size_alloc] at this
    rw [hW]; exact this
  have hbW : Below w.heap.size w W := by rw [hW]; exact below_alloc (below_alloc (Below.refl _ _) _) _
  have hN := New_known W h0 h1
  unfold gCells at hW
  rw [← hW]
  clear hW h0 h1
  refine hN.mono ?_
  rintro e w1 ⟨p, mb, rfl, hT, hb1⟩
  have hb10 := below_then hbW hbW.size hb1
  go_wp2_with fail
  obtain ⟨W2, hW2⟩ : ∃ W2, W2 = (w1.alloc (.cells #[.int .i64 0, .int .i64 3, .int .i64 0] 45)).alloc (.cells #[.int .i64 0, .int .i64 3, .int .i64 0, .int .i64 1] 70) := ⟨_, rfl⟩
  have h2 : W2.heap[w1.heap.size + 1]? = some (.cells #[.int .i64 0, .int .i64 3, .int .i64 0, .int .i64 1] 70 (0, 0)) := by
    have := heap_alloc_new (w1.alloc (.cells #[.int .i64 0, .int .i64 3, .int .i64 0] 45)) (.cells #[.int .i64 0, .int .i64 3, .int .i64 0, .int .i64 1] 70)
    rw [World.size_alloc] at this
    rw [hW2]; exact this
  have hb12 : Below w1.heap.size w1 W2 := by rw [hW2]; exact below_alloc (below_alloc (Below.refl _ _) _) _
  rw [← hW2]
  have hT2 := hT.below hb12
  have hUK := Upd_known W2 hT2 (Nat.le_trans hb1.size hb12.size) h2
  have hb20 := below_then hb10 hb10.size hb12
  clear hW2 h2 hb12
  refine hUK.mono ?_
  rintro e w3 ⟨l', rfl, hT3, hS3, ht3, hg3, hb3⟩
  have hb30 : Below w.heap.size w w3 := hb20.trans (hb3.mono hbW.size)
  have hs3 := hb30.size
  have hD1 := Done_known w3 hT3 hS3 ht3 hg3 ⟨1, ⟨2, 0⟩⟩ true (by decide)
  clear hb3 hUK hN
  go_wp2_with fail
  refine hD1.mono ?_
  rintro e w4 ⟨rfl, hb4⟩
  have hD2 := Done_known w4 (hT3.below hb4) hS3 ht3 hg3 ⟨1, ⟨3, 0⟩⟩ false (by decide)
  have hb40 := below_then hb30 hb30.size hb4
  clear hD1 hb4
  go_wp2_with fail
  refine hD2.mono ?_
  rintro e w5 ⟨rfl, hb5⟩
  have hb50 := below_then hb40 hb40.size hb5
  clear hD2 hb5
  go_wp2
  go_ret
  exact ⟨rfl, hb50⟩
end Go.Proofs.Ytiooalhfhnddjaa
end
