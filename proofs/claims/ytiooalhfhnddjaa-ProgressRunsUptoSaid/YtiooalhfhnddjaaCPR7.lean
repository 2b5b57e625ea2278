/- Lemmas for the statement in the last text of this claim: contracts of the functions that it calls, and plain facts. No condition. -/
import Derived.Laws.StructEq
import Derived.Deep.QuietTactic
import Derived.BigQuiet
import Derived.Outline
import Derived.Deep.LoopGhost
import Derived.BigRegion
import Derived.Deep.RegionHeld3
import Derived.StillTailTactics
import Derived.RangeFuncNested
import Derived.RangeFuncBound
import Derived.RangeFuncCalls
import Derived.RangeFuncLeaves
import Derived.RangeFuncBox
import Derived.Shelf.Abstract
import Derived.WalkKit
import Derived.OwnWalkIn
import Derived.TacticsInMore
import Derived.LoopNIn
import Derived.LoopIn
import Derived.Sort.BigQuietIn
import Derived.Test.YtiooalhfhnddjaaProg
import Derived.Lib.SliceRun
import Derived.Shelf.SlSortCmp.NoneTotal
import Derived.Shelf.SlMaps.Clone
import Derived.Test.YtiooalhfhnddjaaCPR1
import Derived.Test.YtiooalhfhnddjaaCPR2
import Derived.Test.YtiooalhfhnddjaaCPR6
set_option linter.unusedVariables false
set_option linter.unusedSimpArgs false
set_option linter.unusedSectionVars false
section
set_option linter.unusedVariables false
set_option linter.unusedSimpArgs false
namespace Go.Proofs.Ytiooalhfhnddjaa
open Go.RowKit Go.Proofs.Ytiooalhfhnddjaa.MM Go.Proofs.Ytiooalhfhnddjaa.PX
deriving instance DecidableEq for S43
deriving instance DecidableEq for S45
def stampV (s : S45) : Value := .agg #[.int .i64 s.f0, .int .i64 s.f1.f0, .int .i64 s.f1.f1]
def intV (n : Int) : Value := .int .i64 n
theorem stampV_inj {a b : S45} (h : stampV a = stampV b) : a = b := by
  obtain ⟨a0, ⟨a1, a2⟩⟩ := a
  obtain ⟨b0, ⟨b1, b2⟩⟩ := b
  simp only [stampV] at h
  injection h with h
  injection h with h
  simp at h
  obtain ⟨rfl, rfl, rfl⟩ := h
  rfl
theorem time_eq (a b : S43) (w : World) (d : Nat) : (Op.equalIn (d + 1 + 1) 43 (.agg #[.int .i64 a.f0, .int .i64 a.f1]) (.agg #[.int .i64 b.f0, .int .i64 b.f1])).run Try.prog w = .ok (decide (a = b)) w := by
  have u3 := Try.underlying3
  have a3 := Try.isAgg3
  have z3 := Try.sizeOf3
  have hS : Try.prog.underlying 43 = some (.struct (Try.prog.fieldsOf 43)) := by kernel_rfl
  have hp : Try.prog.stoodInHeld 43 = false := by kernel_rfl
  rw [run_equalIn_agg w (d + 1) 43 _ _ hS hp]
  simp only [Program.fieldsOf, Try.underlying43]
  go_simp
  obtain ⟨a1, a2⟩ := a
  obtain ⟨b1, b2⟩ := b
  by_cases h1 : a1 = b1 <;> by_cases h2 : a2 = b2 <;> simp [h1, h2]
theorem stamp_eq (a b : S45) (w : World) (d : Nat) : (Op.equalIn (d + 1 + 1 + 1) 45 (stampV a) (stampV b)).run Try.prog w = .ok (decide (a = b)) w := by
  have u3 := Try.underlying3
  have a3 := Try.isAgg3
  have z3 := Try.sizeOf3
  have a43 := Try.isAgg43
  have z43 := Try.sizeOf43
  have hS : Try.prog.underlying 45 = some (.struct (Try.prog.fieldsOf 45)) := by kernel_rfl
  have hp : Try.prog.stoodInHeld 45 = false := by kernel_rfl
  unfold stampV
  rw [run_equalIn_agg w (d + 1 + 1) 45 _ _ hS hp]
  simp only [Program.fieldsOf, Try.underlying45]
  have ht := time_eq a.f1 b.f1 w d
  go_simp
  obtain ⟨a0, ⟨a1, a2⟩⟩ := a
  obtain ⟨b0, ⟨b1, b2⟩⟩ := b
  by_cases h0 : a0 = b0 <;> by_cases h1 : a1 = b1 <;> by_cases h2 : a2 = b2 <;> simp_all
theorem stamp_check (w : World) (em : Bool) (x : S45) : (Instr.checkKey em 10000 45 (stampV x)).run Try.prog w = .ok () w := by
  kernel_rfl
theorem stamp_stays (w : World) (x : S45) : (Instr.keyThatStays (stampV x) (stampV x)).run Try.prog w = .ok (stampV x) w := by
  have : Instr.sameBits (9998 + 1 + 1) (stampV x) (stampV x) = true := by simp [stampV, Instr.sameBits]
  unfold Instr.keyThatStays
  rw [show (10000 : Nat) = 9998 + 1 + 1 from rfl, this]
  rfl
theorem findAsking_stamp (w : World) (x : S45) : ∀ (es : List MapEntry) (i : Nat), (∀ e ∈ es, ∃ y, e.key = stampV y) →
    ((Instr.findAsking 45 (stampV x) es i).run Try.prog w = .ok none w ∧ ∀ e ∈ es, e.key ≠ stampV x) ∨ ∃ j e, (Instr.findAsking 45 (stampV x) es i).run Try.prog w = .ok (some (i + j, e.val)) w ∧ es[j]? = some e ∧ e.key = stampV x
  | [], i, _ => .inl ⟨rfl, by simp⟩
  | e :: es, i, h => by
    obtain ⟨y, hy⟩ := h e List.mem_cons_self
    have he : (Op.equal 45 (stampV x) e.key).run Try.prog w = .ok (decide (x = y)) w := by
      unfold Op.equal
      rw [hy]
      exact stamp_eq x y w 9997
    by_cases hxy : x = y
    · right
      subst hxy
      refine ⟨0, e, ?_, rfl, hy⟩
      simp [Instr.findAsking, he, Result.andThen]
    · have hrec : (Instr.findAsking 45 (stampV x) (e :: es) i).run Try.prog w = (Instr.findAsking 45 (stampV x) es (i + 1)).run Try.prog w := by
        simp [Instr.findAsking, he, hxy, Result.andThen]
      rcases findAsking_stamp w x es (i + 1) (fun e' he' => h e' (List.mem_cons_of_mem _ he')) with ⟨h1, h2⟩ | ⟨j, e', h1, h2, h3⟩
      · left
        refine ⟨hrec.trans h1, fun e' he' => ?_⟩
        rcases List.mem_cons.1 he' with rfl | he'
        · rw [hy]; exact fun e1 => hxy (stampV_inj e1).symm
        · exact h2 e' he'
      · right
        refine ⟨j + 1, e', ?_, by simpa using h2, h3⟩
        rw [hrec, h1]
        have : i + 1 + j = i + (j + 1) := by omega
        rw [this]
theorem findNow_stamp (x : S45) (e : MapEntry) (es : List MapEntry) (fs : Array Field) : Instr.findNow (.struct fs) (stampV x) (e :: es) 0 = none := by
  simp [Instr.findNow, Instr.sameNow]
theorem stampKey : KeyEnc Try.prog 45 stampV where
  inj := stampV_inj
  check := stamp_check
  stays := stamp_stays
  find w x es hes := by
    have hS : Try.prog.underlying 45 = some (.struct (Try.prog.fieldsOf 45)) := by kernel_rfl
    cases es with
    | nil =>
      left
      refine ⟨?_, by simp⟩
      simp [Instr.findKey, run_underlying hS, Instr.findNow, Result.andThen]
    | cons e es =>
      have h0 : (Instr.findKey 45 (stampV x) (e :: es)).run Try.prog w = (Instr.findAsking 45 (stampV x) (e :: es) 0).run Try.prog w := by
        simp [Instr.findKey, run_underlying hS, findNow_stamp, Result.andThen]
      rcases findAsking_stamp w x (e :: es) 0 hes with ⟨h1, h2⟩ | ⟨j, e', h1, h2, h3⟩
      · exact .inl ⟨h0.trans h1, h2⟩
      · right
        refine ⟨j, e', ?_, h2, h3⟩
        rw [h0, h1]
        simp
theorem intV_inj {a b : Int} (h : intV a = intV b) : a = b := by unfold intV at h; injection h
theorem zeroInt (w : World) : (zeroValue 3).run Try.prog w = .ok (intV 0) w := by kernel_rfl
end Go.Proofs.Ytiooalhfhnddjaa
end
section
set_option linter.unusedVariables false
set_option linter.unusedSimpArgs false
namespace Go.Proofs.Ytiooalhfhnddjaa
open Go.RowKit Go.Proofs.Ytiooalhfhnddjaa.MM Go.Proofs.Ytiooalhfhnddjaa.PX Go.Proofs.YtiooalhfhnddjaaW.PrintWords
abbrev kOp := k95
abbrev kStamp := k45
abbrev kTime := k43
abbrev kCount := k70
abbrev kRow : Kd (List Bool) := Kd.slice 4 Kd.bool
section
variable {P : Program} {ops : Array Oper} {rest : List Oper} {o : Oper} {a : Act} {Q : Exit → Act → World → Prop} {α : Type}
theorem app1 (d : Kd α) {w0 W : World} (base : Nat) (hgd : o.guard = none) (s x : Operand) (t e : TypeId) (z : Value) (bytes : Nat)
    (ho : o.op = .call { callee := .builtin .append, args := #[s, x], argTypes := #[t, t] })
    (ht : P.underlying t = some (.slice e)) (hinfo : (P.info? e).map (fun i => (i.zero, i.size, i.bytes)) = some (some z, d.sz, bytes)) (hz : z.cells.size = d.sz) (hs0 : 0 < d.sz) (hb0 : 0 < bytes)
    (v : Value) (xs : List α) (p : α) (cs : List Value) {n : Nat} (hs : a.eval s = v) (hx : a.eval x = .slice (some ⟨n, 0, none⟩) 1 1) (hn : n = W.heap.size) (hp : d.M W base (fun k => some k ≠ v.ownBlock) p cs)
    (HO : d.R e W base (fun _ => True) v xs) (HB : Below base w0 W) (hbase : base ≤ W.heap.size) (hl : (xs.length + 1) * bytes ≤ 140737488355328)
    (h : ∀ v1 w1, d.R e w1 base (fun _ => True) v1 (xs ++ [p]) → Below base w0 w1 → W.grownBy w1 v.ownBlock → (v1.ownBlock = v.ownBlock ∨ ∃ b, v1.ownBlock = some b ∧ W.heap.size ≤ b) → wpList P ops Q rest (a.put o.dst v1) w1) :
    wpList P ops Q (o :: rest) a (W.alloc (.cells cs.toArray e)) := by
  subst hn
  exact Kd.R_append d base hgd s x t e z bytes ho ht hinfo hz hs0 hb0 v xs p cs (fun _ => True) _ hs hx hp (fun _ hk => ⟨trivial, hk⟩) (fun _ _ => trivial) HO HB hbase hl h
end
theorem row_ne_map {α : Type} {d : Kd α} {e : Nat} {w : World} {base : Nat} {ok : Nat → Prop} {v : Value} {xs : List α} (h : Kd.R d e w base ok v xs) {b : Nat} (hb : ∀ cs q f, w.heap[b]? ≠ some (.cells cs q f)) : some b ≠ v.ownBlock := by
  intro e1
  obtain ⟨_, _, _, q, _, cells, hc⟩ := (Kd.R_bound h).1 b e1.symm
  exact hb _ _ _ hc
theorem infoStamp : (Try.prog.info? 45).map (fun i => (i.zero, i.size, i.bytes)) = some (some (.agg #[(.int .i64 0), (.int .i64 0), (.int .i64 0)]), 3, 24) := by kernel_rfl
def TrkAt (w : World) (base p mb : Nat) (g : List S95) (ways : List (List Bool)) (l : List (S45 × Int)) : Prop :=
  ∃ gv wv, base ≤ p ∧ base ≤ mb ∧ w.heap[p]? = some (.cells #[gv, wv, .map (some mb)] 115 (0, 0)) ∧ Kd.R kOp 95 w base (fun _ => True) gv g ∧ Kd.R kRow 125 w base (fun _ => True) wv ways ∧ mapAt w mb stampV intV l
theorem R_iter {α : Type} {d : Kd α} {e : Nat} {w w' : World} {base : Nat} {ok : Nat → Prop} {v : Value} {xs : List α} (h : Kd.R d e w base ok v xs) {b : Nat} (hb : ∀ cs q f, w.heap[b]? ≠ some (.cells cs q f)) (hg : w.grownBy w' (some b)) : Kd.R d e w' base ok v xs :=
  Kd.R_mono (Kd.R_grown (Kd.R_mono (Kd.R_bound h) (ok' := fun k => ok k ∧ k ≠ b) (fun k hk => ⟨hk.1, by
    obtain ⟨_, _, _, q, _, cells, hc⟩ := hk
    rintro rfl
    exact hb _ _ _ hc⟩)) hg (fun k hk e => hk.2 (Option.some.inj e))) (fun _ hk => hk.1)
section
variable {w w' : World} {base p mb : Nat} {g : List S95} {ways : List (List Bool)} {l : List (S45 × Int)}
theorem TrkAt.below (h : TrkAt w base p mb g ways l) (hb : Below w.heap.size w w') : TrkAt w' base p mb g ways l := by
  obtain ⟨gv, wv, h1, h2, h3, h4, h5, h6⟩ := h
  exact ⟨gv, wv, h1, h2, (hb.block p (Array.getElem?_eq_some_iff.1 h3).1).trans h3, Kd.R_below h4 hb, Kd.R_below h5 hb, h6.below hb⟩
theorem TrkAt.lt (h : TrkAt w base p mb g ways l) : p < w.heap.size := by
  obtain ⟨gv, wv, h1, h2, h3, _⟩ := h
  exact (Array.getElem?_eq_some_iff.1 h3).1
theorem R_map {α : Type} {d : Kd α} {e : Nat} {ok : Nat → Prop} {v : Value} {xs : List α} (h : Kd.R d e w base ok v xs) {b : Nat} {es : Array MapEntry} {c : Nat} (hb : w.heap[b]? = some (.map es c)) : Kd.R d e w base (fun k => ok k ∧ k ≠ b) v xs :=
  Kd.R_mono (Kd.R_bound h) (fun k hk => ⟨hk.1, by
    obtain ⟨_, _, _, q, _, cells, hc⟩ := hk
    rintro rfl
    rw [hb] at hc
    cases hc⟩)
theorem TrkAt.turned (h : TrkAt w base p mb g ways l) (hg : w.grownBy w' (some mb)) {l' : List (S45 × Int)} (hm : mapAt w' mb stampV intV l') : TrkAt w' base p mb g ways l' := by
  obtain ⟨gv, wv, h1, h2, h3, h4, h5, h6⟩ := h
  obtain ⟨es, c, hb, _⟩ := h6
  have hpb : p ≠ mb := by
    rintro rfl
    rw [h3] at hb
    cases hb
  refine ⟨gv, wv, h1, h2, (hg.block p (Array.getElem?_eq_some_iff.1 h3).1 (fun e => hpb (Option.some.inj e))).trans h3, ?_, ?_, hm⟩
  · exact Kd.R_mono (Kd.R_grown (R_map h4 hb) hg (fun k hk e => hk.2 (Option.some.inj e))) (fun _ hk => hk.1)
  · exact Kd.R_mono (Kd.R_grown (R_map h5 hb) hg (fun k hk e => hk.2 (Option.some.inj e))) (fun _ hk => hk.1)
theorem TrkAt.keys (h : TrkAt w base p mb g ways l) : Keys1 l := by
  obtain ⟨gv, wv, h1, h2, h3, h4, h5, h6⟩ := h
  exact h6.keys
end
set_option maxHeartbeats 400000 in
theorem Count_calls (w : World) {base p mb : Nat} {g : List S95} {ways : List (List Bool)} {l : List (S45 × Int)} (h : TrkAt w base p mb g ways l) (s : S45) :
    Calls Try.prog 22 #[.pointer (some ⟨p, 0, none⟩), stampV s] w fun e w' => e = .returned (.int .i64 ((l.lookup s).getD 0)) ∧ Below w.heap.size w w' := by
  obtain ⟨gv, wv, h1, h2, h3, h4, h5, h6⟩ := h
  have hpl := (Array.getElem?_eq_some_iff.1 h3).1
  have hc2 : w.cell? ⟨p, 2, none⟩ = some (.map (some mb)) := by simp [World.cell?, h3]
  have hl : ∀ nq, (Instr.lookup 113 (.map (some mb)) (.agg #[.int .i64 s.f0, .int .i64 s.f1.f0, .int .i64 s.f1.f1]) false).run Try.prog ((w.alloc (.cells #[.int .i64 s.f0, .int .i64 s.f1.f0, .int .i64 s.f1.f1] 45)).drewN nq) = .ok (.int .i64 ((l.lookup s).getD 0)) ((w.alloc (.cells #[.int .i64 s.f0, .int .i64 s.f1.f0, .int .i64 s.f1.f1] 45)).drewN nq) := fun nq =>
    ((h6.alloc _).of_block (w' := (w.alloc (.cells #[.int .i64 s.f0, .int .i64 s.f1.f0, .int .i64 s.f1.f1] 45)).drewN nq) rfl).look stampKey Try.underlying113 0 zeroInt s
  unfold stampV
  go_enter Try.func22, Try.ntmps22
  go_wp2
  go_quiet (fail)
  go_wp2
  go_ret
  exact ⟨rfl, pw_below_drewN ((Below.refl _ _).alloc (Nat.le_refl _) _) _⟩
end Go.Proofs.Ytiooalhfhnddjaa
end
section
set_option linter.unusedVariables false
set_option linter.unusedSimpArgs false
namespace Go.Proofs.Ytiooalhfhnddjaa
open Go.RowKit Go.Proofs.Ytiooalhfhnddjaa.MM Go.Proofs.Ytiooalhfhnddjaa.PX Go.Proofs.YtiooalhfhnddjaaW.PrintWords
def up (l : List (S45 × Int)) : List S45 := (l.filter fun p => decide (0 < p.2)).map Prod.fst
theorem up_cons_pos {p : S45 × Int} {l : List (S45 × Int)} (h : 0 < p.2) : up (p :: l) = p.1 :: up l := by simp [up, h]
theorem up_cons_neg {p : S45 × Int} {l : List (S45 × Int)} (h : ¬ 0 < p.2) : up (p :: l) = up l := by simp [up, h]
theorem perm_take {α : Type} {l : List α} {i : Nat} {p : α} (h : l[i]? = some p) : l.Perm (p :: l.eraseIdx i) := by
  induction l generalizing i with
  | nil => simp at h
  | cons a l ih =>
    cases i with
    | zero => simp at h; subst h; exact List.Perm.refl _
    | succ i =>
      simp only [List.getElem?_cons_succ] at h
      rw [List.eraseIdx_cons_succ]
      exact ((ih h).cons a).trans (List.Perm.swap p a _)
theorem up_perm {l m : List (S45 × Int)} (h : l.Perm m) : (up l).Perm (up m) := (h.filter _).map _
set_option maxRecDepth 100000 in
set_option maxHeartbeats 1000000 in
theorem alive_calls (w : World) {base p mb : Nat} {g : List S95} {ways : List (List Bool)} {l : List (S45 × Int)} (h : TrkAt w base p mb g ways l) (hsz : l.length ≤ 1000000000) :
    Calls Try.prog 63 #[.pointer (some ⟨p, 0, none⟩)] w fun e w' => ∃ (v : Value) (r : List S45), e = .returned v ∧ Kd.R kStamp 45 w' w.heap.size (fun _ => True) v r ∧ r.Perm (up l) ∧ Below w.heap.size w w' := by
  obtain ⟨gv, wv, h1, h2, h3, h4, h5, h6⟩ := h
  have hpl := (Array.getElem?_eq_some_iff.1 h3).1
  have hc2 : w.cell? ⟨p, 2, none⟩ = some (.map (some mb)) := by simp [World.cell?, h3]
  obtain ⟨hr1, hr2⟩ := h6.range (P := Try.prog) Try.underlying113
  have hml := h6.lt
  generalize h6.choose_spec.choose = clock at hr1 hr2
  go_enter Try.func63, Try.ntmps63
  go_wp2
  go_loopg [3] l.length (fun kq v3 wr => ∃ (todo : List (S45 × Int)) (r : List S45), todo.length = kq ∧ iterAt wr w.heap.size mb stampV intV l todo ∧ Kd.R kStamp 45 wr w.heap.size (fun _ => True) v3 r ∧ (r ++ up todo).Perm (up l) ∧ r.length + todo.length ≤ l.length ∧ Below w.heap.size w wr)
  case atStart => exact ⟨l, [], rfl, hr2, Kd.R_nil _ _ _ _ _, List.Perm.refl _, by simp, (Below.refl _ _).alloc (Nat.le_refl _) _⟩
  case round =>
    obtain ⟨todo, r, hk, hit, hR, hperm, hlen, hb⟩ := hrel
    rcases hit.next (P := Try.prog) 0 with ⟨rfl, hrun⟩ | ⟨i, q, w1, hi, hrun, hit1, hg1, hsz1, hen⟩
    · have HK := Aside0.mk hk
      clear hk
      go_wp2
      go_ret
      exact ⟨_, r, rfl, hR, by simpa [up] using hperm, hb⟩
    · have hpt := perm_take hi
      have hiw := hit.lt
      have hR1 : Kd.R kStamp 45 w1 w.heap.size (fun _ => True) u3 r := R_iter hR hit.no_cells hg1
      have hb1 : Below w.heap.size w w1 := hb.grown hg1 hb.size (fun k e => by cases e; exact Nat.le_refl _)
      have hl2 : (todo.eraseIdx i).length + 1 = todo.length := by
        have := (List.getElem?_eq_some_iff.1 hi).1
        rw [List.length_eraseIdx]
        simp only [this, if_true]
        omega
      have HS := Aside0.mk hsz1
      have HK := Aside0.mk hk
      have HP := Aside0.mk hperm
      have HL := Aside0.mk hl2
      have HT := Aside0.mk hpt
      clear hsz1 hk hperm hl2 hpt hr1
      simp only [stampV, intV] at hrun hen
      by_cases hpos : 0 < q.2
      · have hd : decide (0 < q.2) = true := decide_eq_true hpos
        go_wp2_with (at_builtin; refine app1 kStamp (w0 := w) w.heap.size rfl (.tmp 18) (.tmp 20) 26 45 (.agg #[.int .i64 0, .int .i64 0, .int .i64 0]) 24 rfl Try.underlying26 infoStamp rfl (by decide) (by omega) u3 r q.1 [.int .i64 q.1.f0, .int .i64 q.1.f1.f0, .int .i64 q.1.f1.f1] rfl rfl ?aN ?aP ?aO ?aB ?aS ?aL ?_; (case aN => simp); (case aP => exact k45_mkM _ _ _ q.1); (case aO => exact Kd.R_alloc hR1 _); (case aB => exact below_alloc hb1 _); (case aS => exact Nat.le_trans hb1.size (by simp)); (case aL => omega); intro v1 w2 hR2 hb2 hg2 hat2)
        go_roundg (todo.eraseIdx i).length
        case measure => have := HL.out; have := HK.out; omega
        case rel =>
          have hia := hit1.alloc (.cells #[.int .i64 q.1.f0, .int .i64 q.1.f1.f0, .int .i64 q.1.f1.f1] 45)
          refine ⟨todo.eraseIdx i, r ++ [q.1], rfl, hia.grown hg2 (row_ne_map (Kd.R_alloc hR1 _) hia.mapAt.no_cells) (row_ne_map (Kd.R_alloc hR1 _) hia.no_cells), hR2, ?_, ?_, hb2⟩
          · refine List.Perm.trans ?_ HP.out
            rw [List.append_assoc]
            refine List.Perm.append_left r ?_
            have := up_perm HT.out
            rw [up_cons_pos hpos] at this
            exact this.symm
          · have := HL.out
            simp only [List.length_append, List.length_singleton]
            omega
      · have hd : decide (0 < q.2) = false := decide_eq_false hpos
        go_wp2
        go_roundg (todo.eraseIdx i).length
        case measure => have := HL.out; have := HK.out; omega
        case rel =>
          refine ⟨todo.eraseIdx i, r, rfl, hit1.alloc _, Kd.R_alloc hR1 _, ?_, ?_, below_alloc hb1 _⟩
          · refine List.Perm.trans (List.Perm.append_left r ?_) HP.out
            have := up_perm HT.out
            rw [up_cons_neg (by omega)] at this
            exact this.symm
          · have := HL.out
            omega
end Go.Proofs.Ytiooalhfhnddjaa
end
section
set_option linter.unusedVariables false
set_option linter.unusedSimpArgs false
namespace Go.Proofs.Ytiooalhfhnddjaa
open Go.Proofs.Ytiooalhfhnddjaa.PX Go.Proofs.YtiooalhfhnddjaaW.PrintWords
abbrev Op := S95
abbrev Stamp := S45
abbrev Time := S43
abbrev Count := S70
def zeroB (o : Op) : Bool := decide (o.f3 = 0 ∧ o.f4 = 0 ∧ o.f5 = 0 ∧ o.f6 = 0)
def zero3 (o : Op) : Bool := decide (o.f4 = 0 ∧ o.f5 = 0 ∧ o.f6 = 0)
def formB (o : Op) : Bool :=
  if o.f0 = 1 then decide (-1 ≤ o.f2 ∧ o.f2 ≤ 7) && zeroB o
  else if o.f0 = 2 then decide (0 ≤ o.f2 ∧ o.f2 ≤ 5) && zero3 o
  else if o.f0 = 3 then decide (0 ≤ o.f2 ∧ o.f2 ≤ 3) && zero3 o
  else if o.f0 = 4 ∨ o.f0 = 5 then decide (0 ≤ o.f2 ∧ o.f2 ≤ 6) && zeroB o
  else if o.f0 = 6 ∨ o.f0 = 8 then decide (o.f2 = 0) && zeroB o
  else if o.f0 = 7 then decide (0 ≤ o.f2 ∧ o.f2 ≤ 5 ∧ 1 ≤ o.f4 ∧ o.f4 ≤ 16 ∧ 0 ≤ o.f5 ∧ o.f5 ≤ 3)
  else false
def wantN (kind : Int) : Int := if kind = 1 then 0 else if kind = 5 ∨ kind = 6 then 2 else 1
def opOk (o : Op) (i n : Int) : Bool := formB o && decide ((o.f1.length : Int) = wantN o.f0) && ((i == n - 1) == (o.f0 == 8)) && o.f1.all (fun k => decide (0 ≤ k ∧ k < i))
def firstBad (n : Int) : List Op → Int → Option Int
  | [], _ => none
  | o :: r, i => if opOk o i n then firstBad n r (i + 1) else some i
def chk (g : List Op) : Int × Int :=
  if (g.length : Int) < 1 ∨ 16 < (g.length : Int) then (0, 2) else match firstBad g.length g 0 with
    | none => (0, 0)
    | some i => (i, 13)
def okg (g : List Op) : Bool := (chk g).2 == 0
def opAt (g : List Op) (i : Int) : Op := rd_T95 g i
def most (o : Op) : Int := if o.f0 = 7 then o.f4 - 1 else 0
def goodB (g : List Op) (s : Stamp) : Bool := okg g && decide (0 ≤ s.f0 ∧ s.f0 < g.length ∧ 0 ≤ s.f1.f0 ∧ 0 ≤ s.f1.f1 ∧ s.f1.f1 ≤ most (opAt g s.f0))
def reachF (g : List Op) : Nat → Int → Int → Bool
  | 0, _, _ => false
  | n + 1, a, b => if a = b then true else if b < a then false else (opAt g b).f1.any (fun k => reachF g n a k)
def reachB (g : List Op) (a b : Int) : Bool := reachF g (b.toNat + 1) a b
def waysOf (g : List Op) : List (List Bool) := (List.range g.length).map fun (a : Nat) => (List.range g.length).map fun (b : Nat) => reachB g (a : Int) (b : Int)
def tgood (t : Time) : Bool := decide (0 ≤ t.f0 ∧ 0 ≤ t.f1)
def tle (a b : Time) : Bool := decide (a.f0 ≤ b.f0 ∧ a.f1 ≤ b.f1)
def couldB (g : List Op) (a b : Stamp) : Bool := goodB g a && goodB g b && (if a.f0 = b.f0 then tle a.f1 b.f1 else reachB g a.f0 b.f0 && decide (a.f1.f0 ≤ b.f1.f0))
def tot (L : List Count) (s : Stamp) : Int := ((L.filter fun c => decide (c.f0 = s)).map fun c => c.f1).sum
def nz (n : Int) : Option Int := if n = 0 then none else some n
def cnt (l : List (Stamp × Int)) (s : Stamp) : Int := (l.lookup s).getD 0
structure Tidy (l : List (Stamp × Int)) : Prop where
  keys : MM.Keys1 l
  nz : ∀ s, l.lookup s ≠ some 0
  bd : ∀ s, -4611686018427387904 ≤ cnt l s ∧ cnt l s ≤ 4611686018427387904
def countBad (g : List Op) (c : Count) : Bool := decide (c.f1 < -2147483648 ∨ 2147483648 < c.f1) || !goodB g c.f0
def over (l : List (Stamp × Int)) (L : List Count) (c : Count) : Bool := decide (4611686018427387904 < cnt l c.f0 + tot L c.f0 ∨ cnt l c.f0 + tot L c.f0 < -4611686018427387904)
def updErr (g : List Op) (l : List (Stamp × Int)) (L : List Count) : Int := if L.any (countBad g) then 1 else if L.any (over l L) then 14 else 0
def sumsOf (L : List Count) : List (Stamp × Int) := L.foldl (fun m c => MM.lput m c.f0 (cnt m c.f0 + c.f1)) []
end Go.Proofs.Ytiooalhfhnddjaa
end
section
set_option linter.unusedVariables false
set_option linter.unusedSimpArgs false
namespace Go.Proofs.Ytiooalhfhnddjaa
open Go.Proofs.Ytiooalhfhnddjaa.PX Go.Proofs.Ytiooalhfhnddjaa.MM
theorem tot_nil (s : Stamp) : tot [] s = 0 := rfl
theorem tot_snoc (L : List Count) (x : Count) (s : Stamp) : tot (L ++ [x]) s = tot L s + if x.f0 = s then x.f1 else 0 := by
  unfold tot
  rw [List.filter_append, List.map_append, List.sum_append]
  by_cases h : x.f0 = s
  · rw [if_pos h]; simp [h]
  · rw [if_neg h]; simp [h]
theorem sumsOf_snoc (L : List Count) (x : Count) : sumsOf (L ++ [x]) = lput (sumsOf L) x.f0 (cnt (sumsOf L) x.f0 + x.f1) := by
  unfold sumsOf
  rw [List.foldl_append]
  rfl
theorem cnt_lput (l : List (Stamp × Int)) (k s : Stamp) (v : Int) : cnt (lput l k v) s = if s = k then v else cnt l s := by
  unfold cnt
  rw [lookup_lput]
  split <;> rfl
theorem snoc_ind {α : Type} {P : List α → Prop} (h0 : P []) (h1 : ∀ l x, P l → P (l ++ [x])) : ∀ l, P l := by
  intro l
  have : ∀ n, ∀ l : List α, l.length = n → P l := by
    intro n
    induction n with
    | zero => intro l hl; rw [List.eq_nil_of_length_eq_zero hl]; exact h0
    | succ n ih =>
      intro l hl
      have hne : l ≠ [] := by rintro rfl; simp at hl
      rw [← List.dropLast_concat_getLast hne]
      exact h1 _ _ (ih _ (by rw [List.length_dropLast, hl]; omega))
  exact this _ l rfl
theorem cnt_sumsOf (L : List Count) (s : Stamp) : cnt (sumsOf L) s = tot L s := by
  refine snoc_ind (P := fun L => cnt (sumsOf L) s = tot L s) rfl (fun L x ih => ?_) L
  rw [sumsOf_snoc, cnt_lput, tot_snoc]
  by_cases h : s = x.f0
  · subst h; rw [if_pos rfl, if_pos rfl, ih]
  · rw [if_neg h, if_neg (fun e => h e.symm), ih]; omega
theorem lookup_sumsOf (L : List Count) (s : Stamp) : (sumsOf L).lookup s = if s ∈ L.map (fun c => c.f0) then some (tot L s) else none := by
  refine snoc_ind (P := fun L => (sumsOf L).lookup s = if s ∈ L.map (fun c => c.f0) then some (tot L s) else none) rfl (fun L x ih => ?_) L
  rw [sumsOf_snoc, lookup_lput]
  by_cases h : s = x.f0
  · subst h
    rw [if_pos rfl, if_pos (by simp), tot_snoc, if_pos rfl, cnt_sumsOf]
  · have h1 : (s ∈ (L ++ [x]).map fun c => c.f0) ↔ (s ∈ L.map fun c => c.f0) := by simp [h]
    have h2 : tot (L ++ [x]) s = tot L s := by rw [tot_snoc, if_neg (fun e => h e.symm)]; omega
    rw [if_neg h, ih, h2]
    simp only [h1]
theorem tot_bd (L : List Count) (s : Stamp) (h : ∀ c ∈ L, -2147483648 ≤ c.f1 ∧ c.f1 ≤ 2147483648) : -(2147483648 * (L.length : Int)) ≤ tot L s ∧ tot L s ≤ 2147483648 * (L.length : Int) := by
  revert h
  refine snoc_ind (P := fun L => (∀ c ∈ L, -2147483648 ≤ c.f1 ∧ c.f1 ≤ 2147483648) → -(2147483648 * (L.length : Int)) ≤ tot L s ∧ tot L s ≤ 2147483648 * (L.length : Int)) (by simp [tot_nil]) (fun L x ih h => ?_) L
  have := ih (fun c hc => h c (List.mem_append_left _ hc))
  have hx := h x (by simp)
  rw [tot_snoc]
  simp only [List.length_append, List.length_singleton]
  split <;> omega
theorem countBad_false {g : List Op} {c : Count} (h : countBad g c = false) : -2147483648 ≤ c.f1 ∧ c.f1 ≤ 2147483648 ∧ goodB g c.f0 = true := by
  unfold countBad at h
  simp only [Bool.or_eq_false_iff, decide_eq_false_iff_not, Bool.not_eq_false'] at h
  exact ⟨by omega, by omega, h.2⟩
theorem sumsOf_keys (L : List Count) : Keys1 (sumsOf L) := by
  refine snoc_ind (P := fun L => Keys1 (sumsOf L)) List.nodup_nil (fun L x ih => ?_) L
  rw [sumsOf_snoc]
  exact lput_keys ih _ _
theorem take_snoc_of {α : Type} {L : List α} {k : Nat} {x : α} (h : L[k]? = some x) : L.take (k + 1) = L.take k ++ [x] := by
  obtain ⟨hk, he⟩ := List.getElem?_eq_some_iff.1 h
  rw [List.take_succ_eq_append_getElem hk, he]
theorem mem_sumsOf {L : List Count} {q : Stamp × Int} (h : q ∈ sumsOf L) : q.2 = tot L q.1 ∧ q.1 ∈ L.map (fun c => c.f0) := by
  have h1 := (lookup_mem (sumsOf_keys L) (k := q.1) (v := q.2)).1 h
  rw [lookup_sumsOf] at h1
  split at h1
  · injection h1 with h1; exact ⟨h1.symm, ‹_›⟩
  · cases h1
theorem sumsOf_mem {L : List Count} {c : Count} (h : c ∈ L) : (c.f0, tot L c.f0) ∈ sumsOf L := by
  refine (lookup_mem (sumsOf_keys L)).2 ?_
  rw [lookup_sumsOf, if_pos (List.mem_map.2 ⟨c, h, rfl⟩)]
theorem sumsOf_length (L : List Count) : (sumsOf L).length ≤ L.length := by
  refine snoc_ind (P := fun L => (sumsOf L).length ≤ L.length) (Nat.le_refl _) (fun L x ih => ?_) L
  rw [sumsOf_snoc]
  unfold lput
  simp only [List.length_append, List.length_singleton]
  split
  · rw [List.length_map]; omega
  · simp only [List.length_append, List.length_singleton]; omega
theorem over_any {l : List (Stamp × Int)} {L : List Count} : L.any (over l L) = (sumsOf L).any (fun q => decide (4611686018427387904 < cnt l q.1 + q.2 ∨ cnt l q.1 + q.2 < -4611686018427387904)) := by
  rw [Bool.eq_iff_iff, List.any_eq_true, List.any_eq_true]
  constructor
  · rintro ⟨c, hc, h⟩
    exact ⟨_, sumsOf_mem hc, h⟩
  · rintro ⟨q, hq, h⟩
    obtain ⟨h1, h2⟩ := mem_sumsOf hq
    obtain ⟨c, hc, he⟩ := List.mem_map.1 h2
    refine ⟨c, hc, ?_⟩
    unfold over
    rw [he, ← h1]
    exact h
def mixed (l S todo : List (Stamp × Int)) (cur : List (Stamp × Int)) : Prop := ∀ s, cur.lookup s = if (todo.lookup s).isSome then l.lookup s else nz (cnt l s + cnt S s)
theorem lookup_erase {todo : List (Stamp × Int)} (hk : Keys1 todo) {i : Nat} {q : Stamp × Int} (hi : todo[i]? = some q) (s : Stamp) : (todo.eraseIdx i).lookup s = if s = q.1 then none else todo.lookup s := by
  rw [ldel_erase hk (k := q.1) (v := q.2) hi, lookup_ldel]
theorem nz_some {n : Int} (h : n ≠ 0) : nz n = some n := if_neg h
theorem nz_getD (n : Int) : (nz n).getD 0 = n := by unfold nz; split <;> simp_all
theorem Tidy.look {l : List (Stamp × Int)} (h : Tidy l) (s : Stamp) : l.lookup s = Go.Proofs.Ytiooalhfhnddjaa.nz (cnt l s) := by
  unfold cnt Go.Proofs.Ytiooalhfhnddjaa.nz
  cases hl : l.lookup s with
  | none => simp
  | some v =>
    have := h.nz s
    rw [hl] at this
    simp only [Option.getD_some]
    rw [if_neg (fun e => this (by rw [e]))]
theorem mixed_start {l S : List (Stamp × Int)} (h : Tidy l) : mixed l S S l := by
  intro s
  split
  · rfl
  · rename_i hn
    have : S.lookup s = none := by cases hs : S.lookup s <;> simp_all
    have h0 : cnt S s = 0 := by unfold cnt; rw [this]; rfl
    rw [h0, Int.add_zero]
    exact h.look s
theorem mixed_at {l S todo cur : List (Stamp × Int)} (h : mixed l S todo cur) (hk : Keys1 todo) {i : Nat} {q : Stamp × Int} (hi : todo[i]? = some q) : (cur.lookup q.1).getD 0 = cnt l q.1 := by
  rw [h q.1, lookup_get hk (k := q.1) (v := q.2) hi]
  rfl
theorem mixed_put {l S todo cur : List (Stamp × Int)} (h : mixed l S todo cur) (hk : Keys1 todo) {i : Nat} {q : Stamp × Int} (hi : todo[i]? = some q) (hS : cnt S q.1 = q.2) {n : Int} (hn : n = cnt l q.1 + q.2) (h0 : n ≠ 0) : mixed l S (todo.eraseIdx i) (lput cur q.1 n) := by
  intro s
  rw [lookup_lput, lookup_erase hk hi]
  by_cases e : s = q.1
  · subst e
    simp only [if_true]
    rw [hS, ← hn, nz_some h0]
    rfl
  · simp only [if_neg e]
    exact h s
theorem mixed_del {l S todo cur : List (Stamp × Int)} (h : mixed l S todo cur) (hk : Keys1 todo) {i : Nat} {q : Stamp × Int} (hi : todo[i]? = some q) (hS : cnt S q.1 = q.2) {n : Int} (hn : n = cnt l q.1 + q.2) (h0 : n = 0) : mixed l S (todo.eraseIdx i) (ldel (lput cur q.1 n) q.1) := by
  intro s
  rw [lookup_ldel, lookup_erase hk hi]
  by_cases e : s = q.1
  · subst e
    simp only [if_true]
    rw [hS, ← hn, h0]
    rfl
  · simp only [if_neg e]
    rw [lookup_lput, if_neg e]
    exact h s
theorem cnt_mem {S : List (Stamp × Int)} (hk : Keys1 S) {q : Stamp × Int} (h : q ∈ S) : cnt S q.1 = q.2 := by
  unfold cnt
  rw [(lookup_mem hk (k := q.1) (v := q.2)).1 h]
  rfl
end Go.Proofs.Ytiooalhfhnddjaa
end
section
set_option linter.unusedSimpArgs false
namespace Go.Proofs.Ytiooalhfhnddjaa
open Go.RowKit Go.Proofs.Ytiooalhfhnddjaa.MM Go.Proofs.Ytiooalhfhnddjaa.PX Go.Proofs.YtiooalhfhnddjaaW.PrintWords
set_option linter.unusedVariables false
theorem within_is (a lo hi : Int) : graph_within.f a lo hi = some (decide (lo ≤ a ∧ a ≤ hi)) := by
  unfold graph_within.f
  by_cases h : a ≥ lo
  · rw [if_pos h]
    simp [show lo ≤ a from h]
  · rw [if_neg h]
    have : ¬ lo ≤ a := h
    simp [this]
theorem inputs_is (a : Int) : graph_inputs.f a = some (wantN a) := by
  unfold graph_inputs.f wantN
  split
  · rfl
  · split
    · rename_i h; simp [h]
    · split
      · rename_i h; simp [h]
      · rename_i h1 h2
        rw [if_neg (by omega)]
def R4 (x11 : Bool) (f4 f5 f6 : Int) : Bool := if x11 then decide (1 ≤ f4 ∧ f4 ≤ 16 ∧ 0 ≤ f5 ∧ f5 ≤ 3) else decide (f4 = 0 ∧ f5 = 0 ∧ f6 = 0)
theorem j4_is (k : Nat) (x11 x100 : Bool) (f0 : Int) (f1 : List Int) (f2 f3 f4 f5 f6 : Int) : graph_right.j4 (k + 1) x11 x100 f0 f1 f2 f3 f4 f5 f6 = some (!x100 && R4 x11 f4 f5 f6) := by
  rw [graph_right.j4]
  simp only [within_is, Option.bind_some]
  unfold R4
  cases x100 <;> cases x11 <;> simp
  · by_cases h4 : f4 = 0 <;> by_cases h5 : f5 = 0 <;> simp [h4, h5] <;> rfl
  · by_cases h4 : 1 ≤ f4 ∧ f4 ≤ 16
    · simp [h4.1, h4.2]
    · rw [if_neg h4]
      simp only [Option.some.injEq]
      rw [eq_comm, Bool.eq_false_iff]
      intro h
      simp at h
      omega
theorem j3_is (k : Nat) (x9 : Int) (h9 : 1 ≤ x9 ∧ x9 ≤ 7) (x10 x11 : Bool) (f0 : Int) (f1 : List Int) (f2 f3 f4 f5 f6 : Int) : graph_right.j3 (k + 1 + 1) x9 x10 x11 f0 f1 f2 f3 f4 f5 f6 = some (decide (0 ≤ f2 ∧ f2 ≤ x9 - 1) && (decide (f3 = 0) || x10) && R4 x11 f4 f5 f6) := by
  rw [graph_right.j3]
  simp only [within_is, Option.bind_some, j4_is, IntWalk.wrap64_in (x9 - 1) (by omega)]
  by_cases h2 : 0 ≤ f2 ∧ f2 ≤ x9 - 1
  · by_cases h3 : f3 = 0 <;> simp [h2, h3]
  · simp [h2]
theorem j2_is (k : Nat) (x11 x78 : Bool) (f0 : Int) (f1 : List Int) (f2 f3 f4 f5 f6 : Int) :
    graph_right.j2 (k + 1 + 1 + 1) 1 false x11 f0 x78 f0 f1 f2 f3 f4 f5 f6 = some (if x78 then decide (0 ≤ f2 ∧ f2 ≤ 5) && R4 x11 f4 f5 f6 else if f0 = 3 then decide (0 ≤ f2 ∧ f2 ≤ 3) && R4 x11 f4 f5 f6 else if f0 = 4 ∨ f0 = 5 then decide (0 ≤ f2 ∧ f2 ≤ 6) && decide (f3 = 0) && R4 x11 f4 f5 f6 else decide (f2 = 0) && decide (f3 = 0) && R4 x11 f4 f5 f6) := by
  rw [graph_right.j2]
  rw [j3_is k 6 (by omega), j3_is k 4 (by omega), j3_is k 7 (by omega), j3_is k 1 (by omega)]
  cases x78
  · by_cases h3 : f0 = 3
    · simp [h3]
    · by_cases h4 : f0 = 4
      · simp [h4]
      · by_cases h5 : f0 = 5
        · simp [h5]
        · have : (0 ≤ f2 ∧ f2 ≤ 1 - 1) ↔ f2 = 0 := by omega
          simp only [h3, h4, h5, if_false, or_self, Bool.or_false, decide_eq_decide.2 this, Bool.false_eq_true]
  · simp
theorem tail_is (k : Nat) (i : Int) (f0 : Int) (f1 : List Int) (f2 f3 f4 f5 f6 : Int) (o : Op) (ho : o = ⟨f0, f1, f2, f3, f4, f5, f6⟩) (h0 : 1 ≤ f0 ∧ f0 ≤ 8) :
    (if f0 = 1 then ((graph_within.f f2 (-1) 7).bind fun t106 => (if t106 = true then (if f3 = 0 then (if f4 = 0 then (if f5 = 0 then (some (f6 == 0)) else (some false)) else (some false)) else (some false)) else (some false))) else (if f0 = 2 then (graph_right.j2 (k + 1 + 1 + 1) 1 false (f0 == 7) f0 (f0 == 2) f0 f1 f2 f3 f4 f5 f6) else (graph_right.j2 (k + 1 + 1 + 1) 1 false (f0 == 7) f0 (f0 == 7) f0 f1 f2 f3 f4 f5 f6))) = some (formB o) := by
  subst ho
  unfold formB zeroB zero3
  simp only [within_is, Option.bind_some, j2_is, R4]
  have h8 : f0 = 1 ∨ f0 = 2 ∨ f0 = 3 ∨ f0 = 4 ∨ f0 = 5 ∨ f0 = 6 ∨ f0 = 7 ∨ f0 = 8 := by omega
  rcases h8 with rfl | rfl | rfl | rfl | rfl | rfl | rfl | rfl
  · simp only [if_true]
    by_cases a : -1 ≤ f2 ∧ f2 ≤ 7 <;> by_cases b : f3 = 0 <;> by_cases c : f4 = 0 <;> by_cases d : f5 = 0 <;> simp [a, b, c, d] <;> rfl
  all_goals simp [Bool.and_assoc]
theorem rloop_is (i n : Int) (hi : 0 ≤ i ∧ i < 16) (f0 : Int) (f1 : List Int) (f2 f3 f4 f5 f6 : Int) (o : Op) (ho : o = ⟨f0, f1, f2, f3, f4, f5, f6⟩) (h0 : 1 ≤ f0 ∧ f0 ≤ 8) (hl : f1.length ≤ 2) :
    ∀ (m : Nat) (j : Nat), j + m = f1.length → ∀ k, graph_right.l0 (k + 1 + 1 + 1 + 1 + m) i f1 (f1.length : Int) (j : Int) f0 f1 f2 f3 f4 f5 f6 = some (formB o && (f1.drop j).all (fun x => decide (0 ≤ x ∧ x < i))) := by
  intro m
  induction m with
  | zero =>
    intro j hj k
    rw [Nat.add_zero, graph_right.l0, if_neg (by omega), tail_is k i f0 f1 f2 f3 f4 f5 f6 o ho h0]
    rw [List.drop_eq_nil_of_le (by omega)]
    simp
  | succ m ih =>
    intro j hj k
    rw [show k + 1 + 1 + 1 + 1 + (m + 1) = (k + 1 + 1 + 1 + 1 + m) + 1 by omega, graph_right.l0, if_pos (by omega), if_pos (by omega), if_pos (by omega)]
    simp only [within_is, Option.bind_some, IntWalk.wrap64_in (i - 1) (by omega), IntWalk.wrap64_in ((j : Int) + 1) (by omega)]
    have hd : f1.drop j = rd f1 (j : Int) :: f1.drop (j + 1) := by
      have hlt : j < f1.length := by omega
      rw [List.drop_eq_getElem_cons hlt]
      simp [rd, List.getD_eq_getElem?_getD, hlt]
    rw [hd, List.all_cons]
    have h1 := ih (j + 1) (by omega) k
    rw [show ((j + 1 : Nat) : Int) = (j : Int) + 1 by omega] at h1
    rw [h1]
    by_cases hx : 0 ≤ rd f1 (j : Int) ∧ rd f1 (j : Int) ≤ i - 1
    · have hx' : 0 ≤ rd f1 (j : Int) ∧ rd f1 (j : Int) < i := by omega
      simp [hx, hx']
    · have hx' : ¬ (0 ≤ rd f1 (j : Int) ∧ rd f1 (j : Int) < i) := by omega
      simp only [decide_eq_false hx, decide_eq_false hx', Bool.false_eq_true, if_false, Bool.false_and, Bool.and_false]
theorem form_kind {o : Op} (h : formB o = true) : 1 ≤ o.f0 ∧ o.f0 ≤ 8 := by
  unfold formB at h
  by_cases h1 : o.f0 = 1; · omega
  by_cases h2 : o.f0 = 2; · omega
  by_cases h3 : o.f0 = 3; · omega
  by_cases h4 : o.f0 = 4; · omega
  by_cases h5 : o.f0 = 5; · omega
  by_cases h6 : o.f0 = 6; · omega
  by_cases h7 : o.f0 = 7; · omega
  by_cases h8 : o.f0 = 8; · omega
  simp [h1, h2, h3, h4, h5, h6, h7, h8] at h
theorem right_is (k : Nat) (o : Op) (i n : Int) (hi : 0 ≤ i) (hin : i < n) (hn : n ≤ 16) : graph_right.f (k + 1 + 1 + 1 + 1 + 1 + 1 + 1) o.f0 o.f1 o.f2 o.f3 o.f4 o.f5 o.f6 i n = some (opOk o i n) := by
  unfold graph_right.f opOk
  simp only [within_is, Option.bind_some, IntWalk.wrap64_in (n - 1) (by omega), inputs_is, graph_right.j0]
  by_cases hk : 1 ≤ o.f0 ∧ o.f0 ≤ 8
  · simp only [decide_eq_true hk, if_true]
    by_cases h8 : ((o.f0 == 8) != (i == n - 1)) = true
    · rw [if_pos h8]
      have : ((i == n - 1) == (o.f0 == 8)) = false := by
        cases hx : (o.f0 == 8) <;> cases hy : (i == n - 1) <;> simp [hx, hy] at h8 ⊢
      simp [this]
    · rw [if_neg h8]
      have h8' : ((i == n - 1) == (o.f0 == 8)) = true := by
        cases hx : (o.f0 == 8) <;> cases hy : (i == n - 1) <;> simp [hx, hy] at h8 ⊢
      rw [h8']
      by_cases hl : (o.f1.length : Int) = wantN o.f0
      · have hlb : ((o.f1.length : Int) != wantN o.f0) = false := by simp [hl]
        rw [hlb]
        have hw : wantN o.f0 ≤ 2 := by unfold wantN; split <;> (try split) <;> omega
        simp only [Bool.false_eq_true, if_false]
        have hl2 : o.f1.length ≤ 2 := by omega
        obtain ⟨d, hd⟩ : ∃ d, o.f1.length + d = 2 := ⟨2 - o.f1.length, by omega⟩
        have := rloop_is i n ⟨hi, by omega⟩ o.f0 o.f1 o.f2 o.f3 o.f4 o.f5 o.f6 o rfl hk hl2 o.f1.length 0 (by omega) (k + d)
        rw [show k + d + 1 + 1 + 1 + 1 + o.f1.length = k + 6 by omega] at this
        simp only [Int.natCast_zero, List.drop_zero] at this
        refine this.trans ?_
        simp [hl]
      · have hlb : ((o.f1.length : Int) != wantN o.f0) = true := by simp [hl]
        rw [hlb]
        simp [hl]
  · have hf : formB o = false := by
      cases h : formB o
      · rfl
      · exact absurd (form_kind h) hk
    simp [hk, hf]
theorem check_loop (g : List Op) (hg : g.length ≤ 16) : ∀ (m j : Nat), j + m = g.length → ∀ k, graph_Check.l0 (k + 1 + 1 + 1 + 1 + 1 + 1 + 1 + 1 + m) g (g.length : Int) (j : Int) g = some (match firstBad g.length (g.drop j) j with
    | none => (0, 0)
    | some i => (i, 13)) := by
  intro m
  induction m with
  | zero =>
    intro j hj k
    rw [Nat.add_zero, graph_Check.l0, if_neg (by omega), List.drop_eq_nil_of_le (by omega)]
    rfl
  | succ m ih =>
    intro j hj k
    rw [show k + 1 + 1 + 1 + 1 + 1 + 1 + 1 + 1 + (m + 1) = (k + 1 + 1 + 1 + 1 + 1 + 1 + 1 + 1 + m) + 1 by omega, graph_Check.l0, if_pos (by omega), if_pos (by omega), if_pos (by omega)]
    rw [show k + 1 + 1 + 1 + 1 + 1 + 1 + 1 + 1 + m = (k + m + 1) + 1 + 1 + 1 + 1 + 1 + 1 + 1 by omega, right_is (k + m + 1) _ _ _ (by omega) (by omega) (by omega)]
    have hd : g.drop j = rd_T95 g (j : Int) :: g.drop (j + 1) := by
      have hlt : j < g.length := by omega
      rw [List.drop_eq_getElem_cons hlt]
      simp [rd_T95, List.getD_eq_getElem?_getD, hlt]
    rw [hd, firstBad]
    simp only [Option.bind_some, IntWalk.wrap64_in ((j : Int) + 1) (by omega)]
    have h1 := ih (j + 1) (by omega) k
    rw [show ((j + 1 : Nat) : Int) = (j : Int) + 1 by omega, show k + 1 + 1 + 1 + 1 + 1 + 1 + 1 + 1 + m = (k + m + 1) + 1 + 1 + 1 + 1 + 1 + 1 + 1 by omega] at h1
    rw [h1]
    split <;> simp
theorem Check_fuel (g : List Op) (k : Nat) : graph_Check.f (k + 24) g = some ((chk g).1, (chk g).2) := by
  unfold graph_Check.f chk
  simp only [within_is, Option.bind_some]
  by_cases h : (g.length : Int) < 1 ∨ 16 < (g.length : Int)
  · rw [if_pos h]
    have : ¬ (1 ≤ (g.length : Int) ∧ (g.length : Int) ≤ 16) := by omega
    simp [this]
  · rw [if_neg h]
    have h' : (1 ≤ (g.length : Int) ∧ (g.length : Int) ≤ 16) := by omega
    simp only [decide_eq_true h', if_true]
    have := check_loop g (by omega) g.length 0 (by omega) (k + (16 - g.length))
    rw [show k + (16 - g.length) + 1 + 1 + 1 + 1 + 1 + 1 + 1 + 1 + g.length = k + 24 by omega, show ((0 : Nat) : Int) = 0 from rfl, List.drop_zero] at this
    rw [this]
    all_goals (split <;> simp_all)
theorem graph_Check_is (g : List Op) : ∃ k, graph_Check.f k g = some ((chk g).1, (chk g).2) := ⟨0 + 24, Check_fuel g 0⟩
theorem okg_form {g : List Op} (h : okg g = true) {i : Int} (h0 : 0 ≤ i) (h1 : i < g.length) : formB (opAt g i) = true := by
  have hf : firstBad g.length g 0 = none := by
    unfold okg chk at h
    split at h
    · simp at h
    · cases hf : firstBad g.length g 0 with
      | none => rfl
      | some x => rw [hf] at h; simp at h
  have : ∀ (l : List Op) (n i : Int), firstBad n l i = none → ∀ o ∈ l, formB o = true := by
    intro l
    induction l with
    | nil => intro n i _ o ho; cases ho
    | cons y l ih =>
      intro n i h o ho
      rw [firstBad] at h
      split at h
      · rename_i hy
        rcases List.mem_cons.1 ho with rfl | ho
        · unfold opOk at hy
          simp only [Bool.and_eq_true] at hy
          exact hy.1.1.1
        · exact ih _ _ h o ho
      · cases h
  refine this g _ _ hf _ ?_
  unfold opAt rd_T95
  rw [List.getD_eq_getElem?_getD, List.getElem?_eq_getElem (by omega)]
  exact List.getElem_mem _
theorem reach_Good_is (g : List Op) (s : Stamp) : ∃ k, reach_Good.f k g s.f0 s.f1.f0 s.f1.f1 = some (goodB g s) := by
  refine ⟨0 + 24, ?_⟩
  unfold reach_Good.f
  rw [Check_fuel]
  simp only [Option.bind_some]
  unfold goodB
  by_cases hc : (chk g).2 = 0
  · have hok : okg g = true := by simp [okg, hc]
    rw [if_pos hc, hok, Bool.true_and]
    unfold reach_good.f stamp_Good.f
    by_cases h0 : s.f0 < 0
    · rw [if_pos h0]
      simp only [Option.bind_some]
      rw [decide_eq_false (by omega)]
    · rw [if_neg h0]
      by_cases h1 : s.f0 ≥ (g.length : Int)
      · rw [if_pos h1]
        simp only [Option.bind_some]
        rw [decide_eq_false (by omega)]
      · rw [if_neg h1]
        have hform := okg_form hok (i := s.f0) (by omega) (by omega)
        rw [if_pos (by omega : 0 ≤ s.f0), if_pos (by omega : s.f0 < (g.length : Int))]
        have hk7 : (opAt g s.f0).f0 = 7 → 1 ≤ (opAt g s.f0).f4 := by
          intro h7
          unfold formB at hform
          simp [h7] at hform
          omega
        change (Option.bind (Option.bind _ fun t118 => if t118 = true then (if s.f1.f1 = 0 then some true else if (opAt g s.f0).f0 = 7 then some (decide (s.f1.f1 < (opAt g s.f0).f4)) else some false) else some false) fun t125 => some t125) = _
        unfold most
        by_cases h2 : s.f1.f0 ≥ 0
        · rw [if_pos h2]
          simp only [Option.bind_some]
          by_cases h3 : s.f1.f1 ≥ 0
          · rw [decide_eq_true h3, if_pos rfl]
            by_cases h4 : s.f1.f1 = 0
            · rw [if_pos h4]
              simp only [Option.bind_some]
              congr 1
              symm
              rw [decide_eq_true_eq]
              refine ⟨by omega, by omega, by omega, by omega, ?_⟩
              split
              · rename_i h7; have := hk7 h7; omega
              · omega
            · rw [if_neg h4]
              by_cases h7 : (opAt g s.f0).f0 = 7
              · rw [if_pos h7, if_pos h7]
                simp only [Option.bind_some]
                congr 1
                rw [decide_eq_decide]
                omega
              · rw [if_neg h7, if_neg h7]
                simp only [Option.bind_some]
                congr 1
                rw [eq_comm, decide_eq_false_iff_not]
                omega
          · rw [decide_eq_false h3]
            simp only [Bool.false_eq_true, if_false, Option.bind_some]
            congr 1
            rw [eq_comm, decide_eq_false_iff_not]
            omega
        · rw [if_neg h2]
          simp only [Bool.false_eq_true, if_false, Option.bind_some]
          congr 1
          rw [eq_comm, decide_eq_false_iff_not]
          omega
  · have hok : okg g = false := by simp [okg, hc]
    rw [if_neg hc, hok, Bool.false_and]
end Go.Proofs.Ytiooalhfhnddjaa
end
section
set_option linter.unusedVariables false
set_option linter.unusedSimpArgs false
namespace Go.Proofs.Ytiooalhfhnddjaa
open Go.RowKit Go.Proofs.Ytiooalhfhnddjaa.MM Go.Proofs.Ytiooalhfhnddjaa.PX Go.Proofs.YtiooalhfhnddjaaW.PrintWords
theorem Good_calls (w : World) (A : Option Addr) (c : Nat) (g : List Op) (s : Stamp) (hr : Kd.C kOp w A g.length g) (hc : g.length ≤ c) :
    Calls Try.prog 57 #[.agg #[.slice A g.length c], .agg #[.int .i64 s.f0, .int .i64 s.f1.f0, .int .i64 s.f1.f1]] w fun e w' => e = .returned (.bool (goodB g s)) ∧ Below w.heap.size w w' := by
  obtain ⟨k, hk⟩ := reach_Good_is g s
  exact reach_Good.calls k A c g _ _ _ _ w hr hc hk
def UpdPost (w : World) (base p mb : Nat) (g : List Op) (ways : List (List Bool)) (l : List (Stamp × Int)) (L : List Count) (e : Ending) (w' : World) : Prop :=
  ∃ l', e = .returned (.int .i64 (updErr g l L)) ∧ TrkAt w' base p mb g ways l' ∧ w.grownBy w' (some mb) ∧ (updErr g l L ≠ 0 → l' = l ∧ Below w.heap.size w w') ∧ (updErr g l L = 0 → ∀ s, l'.lookup s = nz (cnt l s + tot L s))
theorem grown_below {w w' : World} (h : Below w.heap.size w w') (r : Option Nat) : w.grownBy w' r := ⟨h.os, h.tape, h.output, h.size, fun i hi _ => h.block i hi⟩
theorem grown_drewN {w w' : World} {r : Option Nat} (h : w.grownBy w' r) (n : Nat) : w.grownBy (w'.drewN n) r := ⟨h.os, h.tape, h.output, h.size, h.block⟩
theorem UpdPost.bad {w w' : World} {base p mb : Nat} {g : List Op} {ways : List (List Bool)} {l : List (Stamp × Int)} {L : List Count} {n : Int} (h : TrkAt w base p mb g ways l) (hb : Below w.heap.size w w') (he : updErr g l L = n) (hn : n ≠ 0) : UpdPost w base p mb g ways l L (.returned (.int .i64 n)) w' :=
  ⟨l, by rw [he], h.below hb, grown_below hb _, fun _ => ⟨rfl, hb⟩, fun h0 => absurd (he.symm.trans h0) hn⟩
set_option maxRecDepth 100000 in
set_option maxHeartbeats 4000000 in
theorem Update_calls (w : World) {base p mb : Nat} {g : List Op} {ways : List (List Bool)} {l : List (Stamp × Int)} (h : TrkAt w base p mb g ways l) (ht : Tidy l)
    (A : Option Addr) (c : Nat) (L : List Count) (hL : Kd.C kCount w A L.length L) (hLn : L.length ≤ 1000000000) :
    Calls Try.prog 17 #[.pointer (some ⟨p, 0, none⟩), .slice A L.length c] w (UpdPost w base p mb g ways l L) := by
  have HT := Aside0.mk h
  obtain ⟨gv, wv, h1, h2, h3, h4, h5, h6⟩ := h
  have hpl := (Array.getElem?_eq_some_iff.1 h3).1
  obtain ⟨gA, gc, rfl, hgc, hgr⟩ := Kd.R_reads h4
  have hc0 : w.cell? ⟨p, 0, none⟩ = some (.slice gA g.length gc) := by simp [World.cell?, h3]
  have hc2 : w.cell? ⟨p, 2, none⟩ = some (.map (some mb)) := by simp [World.cell?, h3]
  have H3 := Aside0.mk h3
  clear h3 h4 h5
  have hmm := @run_makeMap Try.prog
  go_enter Try.func17, Try.ntmps17
  go_wp2
  go_loopg [19] L.length (fun kq v19 wr => ∃ k : Nat, v19 = .int .i64 k ∧ k + kq = L.length ∧ Below w.heap.size w wr ∧ Aside0 (∀ x ∈ L.take k, countBad g x = false))
  case atStart => exact ⟨0, rfl, by simp, Below.refl _ _, ⟨by simp⟩⟩
  case round =>
    obtain ⟨k, rfl, hk, hb, HG⟩ := hrel
    have HK := Aside0.mk hk
    by_cases hlt : k < L.length
    · obtain ⟨ad, e1, x0, x1, x2, x3⟩ := at_T70 hL (k : Int) (by omega) (by omega)
      cases e1
      simp only [Int.toNat_natCast] at x0 x1 x2 x3
      have hx : L[k]? = some (rd_T70 L k) := by
        unfold rd_T70
        simp [List.getD_eq_getElem?_getD, hlt]
      generalize rd_T70 L k = x at x0 x1 x2 x3 hx
      have HX := Aside0.mk hx
      replace x0 := (hb.cell (World.block_lt_of_cell? w _ x0)).trans x0
      replace x1 := (hb.cell (World.block_lt_of_cell? w _ x1)).trans x1
      replace x2 := (hb.cell (World.block_lt_of_cell? w _ x2)).trans x2
      replace x3 := (hb.cell (World.block_lt_of_cell? w _ x3)).trans x3
      have hc0' := (hb.cell (World.block_lt_of_cell? w _ hc0)).trans hc0
      have hpr : p < wr.heap.size := Nat.lt_of_lt_of_le hpl hb.size
      have HBAD : countBad g x = true → Aside0 (updErr g l L = 1) := fun hbad => ⟨by
        unfold updErr
        rw [if_pos (List.any_eq_true.2 ⟨x, List.mem_of_getElem? hx, hbad⟩)]⟩
      clear hk hx hc0
      by_cases hlo : x.f1 < -2147483648
      · have d1 : decide (x.f1 < -2147483648) = true := decide_eq_true hlo
        have HB1 := HBAD (by simp [countBad, hlo])
        clear HBAD
        go_wp2_with fail
        go_quiet (fail)
        go_wp2
        go_ret
        exact UpdPost.bad HT.out (pw_below_drewN (below_alloc hb _) _) HB1.out (by omega)
      · have d1 : decide (x.f1 < -2147483648) = false := decide_eq_false hlo
        by_cases hhi : 2147483648 < x.f1
        · have d2 : decide (2147483648 < x.f1) = true := decide_eq_true hhi
          have HB1 := HBAD (by simp [countBad, hhi])
          clear HBAD
          go_wp2_with fail
          go_quiet (fail)
          go_wp2
          go_ret
          exact UpdPost.bad HT.out (pw_below_drewN (below_alloc hb _) _) HB1.out (by omega)
        · have d2 : decide (2147483648 < x.f1) = false := decide_eq_false hhi
          have hbW : Below w.heap.size w (wr.alloc (.cells #[.int .i64 x.f0.f0, .int .i64 x.f0.f1.f0, .int .i64 x.f0.f1.f1, .int .i64 x.f1] 70)) := below_alloc hb _
          have hgW := Kd.C_below hgr hbW
          have HB1 : goodB g x.f0 = false → Aside0 (updErr g l L = 1) := fun hg => HBAD (by simp [countBad, hg])
          have HB2 : goodB g x.f0 = true → Aside0 (countBad g x = false) := fun hg => ⟨by simp only [countBad, hg]; simp; omega⟩
          clear HBAD
          go_wp2_with fail
          go_region_held3 (fun w' => w'.cell? ⟨wr.heap.size, 0, none⟩ = some (.int .i64 x.f0.f0) ∧ w'.cell? ⟨wr.heap.size, 1, none⟩ = some (.int .i64 x.f0.f1.f0) ∧ w'.cell? ⟨wr.heap.size, 2, none⟩ = some (.int .i64 x.f0.f1.f1) ∧ w'.cell? ⟨wr.heap.size, 3, none⟩ = some (.int .i64 x.f1) ∧ w'.cell? ⟨p, 0, none⟩ = some (.slice gA g.length gc))
            (first
              | go_keep
              | (go_split_ands
                 refine ⟨(hb2.cell (p := ⟨wr.heap.size, 0, none⟩) (by simp)).trans ‹_›, (hb2.cell (p := ⟨wr.heap.size, 1, none⟩) (by simp)).trans ‹_›, (hb2.cell (p := ⟨wr.heap.size, 2, none⟩) (by simp)).trans ‹_›, (hb2.cell (p := ⟨wr.heap.size, 3, none⟩) (by simp)).trans ‹_›, (hb2.cell (p := ⟨p, 0, none⟩) (by simp; omega)).trans ‹_›⟩))
            ((go_at_call 57; refine (Good_calls _ gA gc g x.f0 ?hr hgc).mono ?_; (case hr => exact Kd.C_below hgW (below_drew (Below.refl _ _))); rintro e w2 ⟨rfl, hb2⟩))
          have hbx : Below w.heap.size w w2 := below_then (below_drew hbW) (by have := hb.size; simp; omega) hb2
          cases hg : goodB g x.f0 with
          | false =>
            have HB3 := HB1 hg
            clear HB1 HB2 hb2
            go_wp2
            go_ret
            exact UpdPost.bad HT.out hbx HB3.out (by omega)
          | true =>
            have HB3 := HB2 hg
            clear HB1 HB2 hb2
            go_wp2
            go_roundg (gk - 1)
            case measure => have := HK.out; omega
            case rel => exact ⟨k + 1, by go_num, by have := HK.out; omega, hbx, ⟨by
              rw [take_snoc_of HX.out]
              intro y hy
              rcases List.mem_append.1 hy with hy | hy
              · exact HG.out y hy
              · rw [List.mem_singleton.1 hy]; exact HB3.out⟩⟩
    · obtain rfl : k = L.length := by omega
      obtain ⟨wo, rfl⟩ : ∃ wo : World, wo = wr := ⟨_, rfl⟩
      have HG1 : Aside0 (∀ x ∈ L, countBad g x = false) := ⟨by have := HG.out; rwa [List.take_length] at this⟩
      clear hk HK HG hlt
      have hmr := h6.below hb
      have hm0 : mapAt (wo.alloc (.map #[] 0)) wo.heap.size stampV intV ([] : List (Stamp × Int)) := mapAt_new wo
      have hnp : mb < wo.heap.size := hmr.lt
      have hb0 := below_alloc hb (.map #[] 0)
      go_wp2
      go_loopg [45] L.length (fun kq v45 w1 => ∃ k : Nat, v45 = .int .i64 k ∧ k + kq = L.length ∧ Below w.heap.size w w1 ∧ mapAt w1 wo.heap.size stampV intV (sumsOf (L.take k)))
      case atStart => exact ⟨0, rfl, by simp, hb0, hm0⟩
      case round =>
        obtain ⟨k, rfl, hk, hb1, hm1⟩ := hrel
        have HK := Aside0.mk hk
        by_cases hlt : k < L.length
        · obtain ⟨ad, e1, x0, x1, x2, x3⟩ := at_T70 hL (k : Int) (by omega) (by omega)
          cases e1
          simp only [Int.toNat_natCast] at x0 x1 x2 x3
          have hx : L[k]? = some (rd_T70 L k) := by
            unfold rd_T70
            simp [List.getD_eq_getElem?_getD, hlt]
          generalize rd_T70 L k = x at x0 x1 x2 x3 hx
          have HX := Aside0.mk hx
          replace x0 := (hb1.cell (World.block_lt_of_cell? w _ x0)).trans x0
          replace x1 := (hb1.cell (World.block_lt_of_cell? w _ x1)).trans x1
          replace x2 := (hb1.cell (World.block_lt_of_cell? w _ x2)).trans x2
          replace x3 := (hb1.cell (World.block_lt_of_cell? w _ x3)).trans x3
          obtain ⟨m, hm⟩ : ∃ m, m = sumsOf (L.take k) := ⟨_, rfl⟩
          obtain ⟨a, ha⟩ : ∃ a, a = cnt m x.f0 := ⟨_, rfl⟩
          have hbd := tot_bd (L.take k) x.f0 (fun c hc => by have := countBad_false (HG1.out c (List.mem_of_mem_take hc)); omega)
          rw [← cnt_sumsOf, ← hm, ← ha, List.length_take] at hbd
          have hxb := countBad_false (HG1.out x (List.mem_of_getElem? hx))
          have ha1 : -3000000000000000000 ≤ a := by omega
          have ha2 : a ≤ 3000000000000000000 := by omega
          have hx1 : -2147483648 ≤ x.f1 := hxb.1
          have hx2 : x.f1 ≤ 2147483648 := hxb.2.1
          have hgl : (m.lookup x.f0).getD 0 = a := ha.symm
          rw [← hm] at hm1
          obtain ⟨W2, hW2⟩ : ∃ W2, wr.alloc (.cells #[.int .i64 x.f0.f0, .int .i64 x.f0.f1.f0, .int .i64 x.f0.f1.f1, .int .i64 x.f1] 70) = W2 := ⟨_, rfl⟩
          have hm2 : mapAt (wr.alloc (.cells #[.int .i64 x.f0.f0, .int .i64 x.f0.f1.f0, .int .i64 x.f0.f1.f1, .int .i64 x.f1] 70)).drew wo.heap.size stampV intV m := (hm1.alloc _).of_block rfl
          have hlk := hm2.look stampKey Try.underlying113 0 zeroInt x.f0
          obtain ⟨st, w3, he1, he2, hg3, hs3, hst⟩ := hm2.entry stampKey Try.underlying113 0 zeroInt x.f0
          obtain ⟨w4, he3, hm4, hg4, hs4⟩ := hst (a + x.f1)
          rw [hgl] at hlk he1 he2
          simp only [stampV, intV] at hlk he1 he2 he3
          have hb4 : Below w.heap.size w w4 := (below_drew (below_alloc hb1 _)).grown hg4 (by have := hb1.size; simp; omega) (fun j e => by injection e with e; subst e; exact hb.size)
          have HM := Aside0.mk hm
          have HA := Aside0.mk ha
          have HS := Aside0.mk (And.intro hs3 hs4)
          clear hk hx hm ha hgl hst hs3 hs4 hg3 hg4 hW2 hbd hxb hm2
          go_wp2_with fail
          go_region
          go_wp2
          go_roundg (gk - 1)
          case measure => have := HK.out; omega
          case rel => exact ⟨k + 1, by go_num, by have := HK.out; omega, hb4, by rw [take_snoc_of HX.out, sumsOf_snoc, ← HM.out, ← HA.out]; exact hm4⟩
        · obtain rfl : k = L.length := by omega
          rw [List.take_length] at hm1
          obtain ⟨w0, rfl⟩ : ∃ w0 : World, w0 = wr := ⟨_, rfl⟩
          obtain ⟨S, hS⟩ : ∃ S, S = sumsOf L := ⟨_, rfl⟩
          rw [← hS] at hm1
          have HS := Aside0.mk hS
          have hSb : ∀ q ∈ S, -2200000000000000000 ≤ q.2 ∧ q.2 ≤ 2200000000000000000 := fun q hq => by
            rw [hS] at hq
            have h1 := (mem_sumsOf hq).1
            have h2 := tot_bd L q.1 (fun c hc => by have := countBad_false (HG1.out c hc); omega)
            rw [← h1] at h2
            omega
          have HSB := Aside0.mk hSb
          have hSl : S.length ≤ L.length := by rw [hS]; exact sumsOf_length L
          have hov : Aside0 (L.any (countBad g) = false) := ⟨by
            rw [List.any_eq_false]
            intro x hx
            rw [HG1.out x hx]
            exact Bool.false_ne_true⟩
          have htd := Aside0.mk ht.bd
          have hlkup := fun s => ht.look s
          have HLK := Aside0.mk hlkup
          clear hk HK hlt hS hSb hlkup hm0 hb0 HG1
          have hnw : wo.heap.size < w0.heap.size := hm1.lt
          have hpm : p ≠ mb := by
            rintro rfl
            obtain ⟨es, cc, hes, _⟩ := h6
            have := H3.out
            rw [hes] at this
            cases this
          obtain ⟨hr1, hr2⟩ := hm1.range (P := Try.prog) Try.underlying113
          generalize hm1.choose_spec.choose = clock at hr1 hr2
          have hsz0 := hb1.size
          go_wp2
          go_loopg [4] S.length (fun kq v4 w1 => ∃ todo, todo.length = kq ∧ iterAt w1 w0.heap.size wo.heap.size stampV intV S todo ∧ Below w.heap.size w w1 ∧ Aside0 (∀ q ∈ S, q ∈ todo ∨ (-4611686018427387904 ≤ cnt l q.1 + q.2 ∧ cnt l q.1 + q.2 ≤ 4611686018427387904)))
          case atStart => exact ⟨S, rfl, hr2, below_alloc hb1 _, ⟨fun q hq => .inl hq⟩⟩
          case round =>
            obtain ⟨todo, hk, hit, hbr, HD⟩ := hrel
            have HK := Aside0.mk hk
            clear hk hr1 hr2 hm1
            rcases hit.next (P := Try.prog) 0 with ⟨rfl, hrun⟩ | ⟨i, q, w2, hi, hrun, hit2, hg2, hs2, hen⟩
            · obtain ⟨w5, rfl⟩ : ∃ w5 : World, w5 = wr := ⟨_, rfl⟩
              have hm5 := hit.mapAt
              obtain ⟨hr3, hr4⟩ := hm5.range (P := Try.prog) Try.underlying113
              generalize hm5.choose_spec.choose = clock5 at hr3 hr4
              have hm6 := h6.below hbr
              have hs5 := hbr.size
              have hl5 := hit.lt
              have hnov : Aside0 (updErr g l L = 0) := ⟨by
                rw [updErr, hov.out, if_neg Bool.false_ne_true, over_any, ← HS.out, if_neg]
                rw [Bool.not_eq_true, List.any_eq_false]
                intro q hq
                rcases HD.out q hq with h | h
                · cases h
                · simp; omega⟩
              have hx0 : mixed l S S l := mixed_start ht
              have hSk : Keys1 S := by rw [HS.out]; exact sumsOf_keys L
              clear HD HK hit
              go_wp2
              go_loopg [14] S.length (fun kq v14 w1 => ∃ todo cur, todo.length = kq ∧ iterAt w1 w5.heap.size wo.heap.size stampV intV S todo ∧ mapAt w1 mb stampV intV cur ∧ w.grownBy w1 (some mb) ∧ mixed l S todo cur ∧ w5.heap.size ≤ w1.heap.size)
              case atStart => exact ⟨S, l, rfl, hr4, hm6.alloc _, grown_below (below_alloc hbr _) _, hx0, by simp⟩
              case round =>
                obtain ⟨todo, cur, hk, hit, hmc, hgr', hmx, hs6⟩ := hrel
                have HK := Aside0.mk hk
                clear hk hr3 hr4 hx0
                rcases hit.next (P := Try.prog) 0 with ⟨rfl, hrun⟩ | ⟨i, q, w2, hi, hrun, hit2, hg2, hs2, hen⟩
                · have HG := Aside0.mk hgr'
                  clear hgr'
                  go_wp2
                  go_ret
                  have hno := hnov.out
                  refine ⟨cur, by rw [hno]; rfl, HT.out.turned HG.out hmc, HG.out, fun h => absurd hno h, fun _ s => ?_⟩
                  rw [hmx s]
                  simp only [List.lookup_nil, Option.isSome_none, Bool.false_eq_true, if_false]
                  rw [HS.out, cnt_sumsOf]
                · have hq : q ∈ todo := List.mem_of_getElem? hi
                  have hqS : q ∈ S := hit.sub intV_inj stampV_inj hq
                  have hne5 : some mb ≠ some w5.heap.size := fun e => by injection e with e; have := hm6.lt; omega
                  have hg3 : w.grownBy w2 (some mb) := ⟨hg2.os.trans hgr'.os, hg2.tape.trans hgr'.tape, hg2.output.trans hgr'.output, Nat.le_trans hgr'.size hg2.size, fun j hj hne => (hg2.block j (Nat.lt_of_lt_of_le hj hgr'.size) (fun e => by injection e with e; subst e; omega)).trans (hgr'.block j hj hne)⟩
                  have hcp : w2.cell? ⟨p, 2, none⟩ = some (.map (some mb)) := hg3.cell hc2 (fun e => hpm (Option.some.inj e))
                  have hqb := HSB.out q hqS
                  have hab := htd.out q.1
                  have hm2 := hmc.grown hg2 hne5
                  have hpw2 : p < w2.heap.size := Nat.lt_of_lt_of_le hpl hg3.size
                  have hcq := mixed_at hmx hit.keys_todo hi
                  obtain ⟨a, ha⟩ : ∃ a, a = cnt l q.1 := ⟨_, rfl⟩
                  rw [← ha] at hab hcq
                  obtain ⟨W2, hW2⟩ : ∃ W2, W2 = w2.alloc (.cells #[.int .i64 q.1.f0, .int .i64 q.1.f1.f0, .int .i64 q.1.f1.f1] 45) := ⟨_, rfl⟩
                  have hmA : mapAt (w2.alloc (.cells #[.int .i64 q.1.f0, .int .i64 q.1.f1.f0, .int .i64 q.1.f1.f1] 45)).drew mb stampV intV cur := (hm2.alloc _).of_block rfl
                  have hlk := hmA.look stampKey Try.underlying113 0 zeroInt q.1
                  obtain ⟨st, w3, he1, he2, hg3', hs3, hst⟩ := hmA.entry stampKey Try.underlying113 0 zeroInt q.1
                  obtain ⟨w4, he3, hm4, hg4, hs4⟩ := hst (a + q.2)
                  rw [hcq] at hlk he1 he2
                  have hcp4 : w4.cell? ⟨p, 2, none⟩ = some (.map (some mb)) := by
                    exact hg4.cell (w := (w2.alloc (.cells #[.int .i64 q.1.f0, .int .i64 q.1.f1.f0, .int .i64 q.1.f1.f1] 45)).drew) (((below_alloc (Below.refl _ w2) _).cell (p := ⟨p, 2, none⟩) hpw2).trans hcp) (fun e => hpm (Option.some.inj e))
                  have hm2lt := hm2.lt
                  have hnb : some w2.heap.size ≠ some mb := fun e => by injection e with e; omega
                  have k0 : w4.cell? ⟨w2.heap.size, 0, none⟩ = some (.int .i64 q.1.f0) := hg4.cell (w := (w2.alloc (.cells #[.int .i64 q.1.f0, .int .i64 q.1.f1.f0, .int .i64 q.1.f1.f1] 45)).drew) (by go_simp) hnb
                  have k1 : w4.cell? ⟨w2.heap.size, 1, none⟩ = some (.int .i64 q.1.f1.f0) := hg4.cell (w := (w2.alloc (.cells #[.int .i64 q.1.f0, .int .i64 q.1.f1.f0, .int .i64 q.1.f1.f1] 45)).drew) (by go_simp) hnb
                  have k2 : w4.cell? ⟨w2.heap.size, 2, none⟩ = some (.int .i64 q.1.f1.f1) := hg4.cell (w := (w2.alloc (.cells #[.int .i64 q.1.f0, .int .i64 q.1.f1.f0, .int .i64 q.1.f1.f1] 45)).drew) (by go_simp) hnb
                  have hl4 : ∀ nq, (Instr.lookup 113 (.map (some mb)) (stampV q.1) false).run Try.prog (w4.drewN nq) = .ok (.int .i64 (a + q.2)) (w4.drewN nq) := fun nq => by
                    have := (hm4.of_block (w' := w4.drewN nq) rfl).look (P := Try.prog) stampKey Try.underlying113 0 zeroInt q.1
                    rw [lookup_lput, if_pos rfl] at this
                    exact this
                  simp only [stampV, intV] at hlk he1 he2 he3 hrun hen hl4
                  have hgw4 : w.grownBy w4 (some mb) := ⟨hg4.os.trans hg3.os, hg4.tape.trans hg3.tape, hg4.output.trans hg3.output, Nat.le_trans hg3.size (Nat.le_trans (by simp) hg4.size), fun j hj hne => (hg4.block j (by simp; have := hg3.size; omega) hne).trans ((heap_alloc_old _ _ (by have := hg3.size; omega)).trans (hg3.block j hj hne))⟩
                  have hit4 := (hit2.alloc (.cells #[.int .i64 q.1.f0, .int .i64 q.1.f1.f0, .int .i64 q.1.f1.f1] 45)).of_blocks (w' := (w2.alloc (.cells #[.int .i64 q.1.f0, .int .i64 q.1.f1.f0, .int .i64 q.1.f1.f1] 45)).drew) rfl rfl |>.grown hg4 (fun e => by injection e with e; have := h6.lt; have := hb.size; omega) (fun e => by injection e with e; omega)
                  have hs7 : w5.heap.size ≤ w4.heap.size := by rw [hs4]; simp; omega
                  have HA := Aside0.mk ha
                  have HI := Aside0.mk hi
                  have HG4 := Aside0.mk hgw4
                  have HIT := Aside0.mk hit4
                  have HKT := Aside0.mk hit.keys_todo
                  have HM4 := Aside0.mk hm4
                  have HSQ := Aside0.mk (cnt_mem hSk hqS)
                  have H7 := Aside0.mk hs7
                  have h1' : -4611686018427387904 ≤ a := hab.1
                  have h2' : a ≤ 4611686018427387904 := hab.2
                  have h3' : -2200000000000000000 ≤ q.2 := hqb.1
                  have h4' : q.2 ≤ 2200000000000000000 := hqb.2
                  clear hst hs3 hs4 hW2 hcq ha hi hs2 hab hqb hgw4 hit4 hm4 hg3 hg3' hg4 hgr' hs7
                  by_cases hz : a + q.2 = 0
                  · have d0 : (a + q.2 == 0) = true := beq_iff_eq.2 hz
                    have HZ := Aside0.mk hz
                    clear hz
                    go_wp2_with fail
                    go_region
                    go_wp2_with fail
                    go_quiet (fail)
                    have hmd : mapAt (w4.drewN (nq + 1)) mb stampV intV (lput cur q.1 (a + q.2)) := HM4.out.of_block rfl
                    obtain ⟨w6, hd1, hm6', hg6, hs6'⟩ := hmd.del (P := Try.prog) stampKey Try.underlying113 q.1
                    simp only [stampV] at hd1
                    have hg6' : w.grownBy w6 (some mb) := ⟨hg6.os.trans HG4.out.os, hg6.tape.trans HG4.out.tape, hg6.output.trans HG4.out.output, Nat.le_trans HG4.out.size hg6.size, fun j hj hne => (hg6.block j (Nat.lt_of_lt_of_le hj HG4.out.size) hne).trans (HG4.out.block j hj hne)⟩
                    have hit6 := (HIT.out.of_blocks (w' := w4.drewN (nq + 1)) rfl rfl).grown hg6 (fun e => by injection e with e; have := h6.lt; have := hb.size; omega) (fun e => by injection e with e; omega)
                    have H6 := Aside0.mk hs6'
                    have HG6 := Aside0.mk hg6'
                    clear hs6' hg6' hg6
                    go_wp2_with fail
                    go_region
                    go_wp2
                    go_roundg (gk - 1)
                    case measure => have := HK.out; have := (List.getElem?_eq_some_iff.1 HI.out).1; omega
                    case rel =>
                      have hlen := (List.getElem?_eq_some_iff.1 HI.out).1
                      exact ⟨todo.eraseIdx i, _, by rw [List.length_eraseIdx, if_pos hlen, HK.out], hit6, hm6', HG6.out, mixed_del hmx HKT.out HI.out HSQ.out (by rw [HA.out]) HZ.out, by rw [H6.out]; exact H7.out⟩
                  · have d0 : (a + q.2 == 0) = false := beq_eq_false_iff_ne.2 hz
                    have HZ := Aside0.mk hz
                    clear hz
                    go_wp2_with fail
                    go_region
                    go_wp2_with fail
                    go_quiet (fail)
                    go_wp2
                    go_roundg (gk - 1)
                    case measure => have := HK.out; have := (List.getElem?_eq_some_iff.1 HI.out).1; omega
                    case rel =>
                      have hlen := (List.getElem?_eq_some_iff.1 HI.out).1
                      exact ⟨todo.eraseIdx i, _, by rw [List.length_eraseIdx, if_pos hlen, HK.out], HIT.out.of_blocks rfl rfl, HM4.out.of_block rfl, grown_drewN HG4.out _, mixed_put hmx HKT.out HI.out HSQ.out (by rw [HA.out]) HZ.out, H7.out⟩
            · have hq : q ∈ todo := List.mem_of_getElem? hi
              have hb2 : Below w.heap.size w w2 := hbr.grown hg2 hbr.size (fun j e => by injection e with e; subst e; omega)
              have hcp := (hb2.cell (World.block_lt_of_cell? w _ hc2)).trans hc2
              have hqS : q ∈ S := hit.sub intV_inj stampV_inj hq
              have hqb := HSB.out q hqS
              have hab := htd.out q.1
              have hm2 := h6.below hb2
              have hpw2 : p < w2.heap.size := Nat.lt_of_lt_of_le hpl hb2.size
              obtain ⟨a, ha⟩ : ∃ a, a = cnt l q.1 := ⟨_, rfl⟩
              have hlk : ∀ nq, (Instr.lookup 113 (.map (some mb)) (.agg #[.int .i64 q.1.f0, .int .i64 q.1.f1.f0, .int .i64 q.1.f1.f1]) false).run Try.prog ((w2.alloc (.cells #[.int .i64 q.1.f0, .int .i64 q.1.f1.f0, .int .i64 q.1.f1.f1] 45)).drewN nq) = .ok (.int .i64 a) ((w2.alloc (.cells #[.int .i64 q.1.f0, .int .i64 q.1.f1.f0, .int .i64 q.1.f1.f1] 45)).drewN nq) := fun nq => by
                rw [ha]
                exact ((hm2.alloc _).of_block (w' := (w2.alloc (.cells #[.int .i64 q.1.f0, .int .i64 q.1.f1.f0, .int .i64 q.1.f1.f1] 45)).drewN nq) rfl).look stampKey Try.underlying113 0 zeroInt q.1
              rw [← ha] at hab
              have HA := Aside0.mk ha
              have HI := Aside0.mk hi
              have HS2 := Aside0.mk hs2
              simp only [stampV, intV] at hrun hen
              clear ha hi hs2
              have h1' : -4611686018427387904 ≤ a := hab.1
              have h2' : a ≤ 4611686018427387904 := hab.2
              have h3' : -2200000000000000000 ≤ q.2 := hqb.1
              have h4' : q.2 ≤ 2200000000000000000 := hqb.2
              clear hab hqb
              by_cases ho1 : 4611686018427387904 < a + q.2
              · have d1 : decide (4611686018427387904 < a + q.2) = true := decide_eq_true ho1
                go_wp2_with fail
                go_quiet (fail)
                go_wp2
                go_ret
                exact UpdPost.bad HT.out (pw_below_drewN (below_alloc hb2 _) _) (by rw [updErr, hov.out, if_neg Bool.false_ne_true, over_any, ← HS.out, if_pos (List.any_eq_true.2 ⟨q, hqS, decide_eq_true (.inl (by rw [← HA.out]; exact ho1))⟩)]) (by omega)
              · have d1 : decide (4611686018427387904 < a + q.2) = false := decide_eq_false ho1
                by_cases ho2 : a + q.2 < -4611686018427387904
                · have d2 : decide (a + q.2 < -4611686018427387904) = true := decide_eq_true ho2
                  go_wp2_with fail
                  go_quiet (fail)
                  go_wp2
                  go_ret
                  exact UpdPost.bad HT.out (pw_below_drewN (below_alloc hb2 _) _) (by rw [updErr, hov.out, if_neg Bool.false_ne_true, over_any, ← HS.out, if_pos (List.any_eq_true.2 ⟨q, hqS, decide_eq_true (.inr (by rw [← HA.out]; exact ho2))⟩)]) (by omega)
                · have d2 : decide (a + q.2 < -4611686018427387904) = false := decide_eq_false ho2
                  go_wp2_with fail
                  go_quiet (fail)
                  go_wp2
                  have hpt := perm_take HI.out
                  go_roundg (gk - 1)
                  case measure => have := HK.out; have := (List.getElem?_eq_some_iff.1 HI.out).1; omega
                  case rel =>
                    have hlen := (List.getElem?_eq_some_iff.1 HI.out).1
                    refine ⟨todo.eraseIdx i, by rw [List.length_eraseIdx, if_pos hlen, HK.out], (hit2.alloc _).of_blocks rfl rfl, pw_below_drewN (below_alloc hb2 _) _, ⟨fun y hy => ?_⟩⟩
                    rcases HD.out y hy with h | h
                    · rcases List.mem_cons.1 (hpt.mem_iff.1 h) with rfl | h
                      · exact .inr (by rw [← HA.out]; omega)
                      · exact .inl h
                    · exact .inr h
end Go.Proofs.Ytiooalhfhnddjaa
end
section
set_option linter.unusedSimpArgs false
namespace Go.Proofs.Ytiooalhfhnddjaa
open Go.RowKit Go.Shelf Go.Proofs.Ytiooalhfhnddjaa.MM Go.Proofs.Ytiooalhfhnddjaa.PX Go.Proofs.YtiooalhfhnddjaaW.PrintWords
attribute [local go_sem] Oper.semAt_some
set_option linter.unusedVariables false
def insAt (i : Nat) (fr : Int) : List Int → Nat → List (Nat × Nat)
  | [], _ => []
  | x :: r, k => if x = fr then (i, k) :: insAt i fr r (k + 1) else insAt i fr r (k + 1)
def usesFrom (fr : Int) : List Op → Nat → List (Nat × Nat)
  | [], _ => []
  | o :: r, i => insAt i fr o.f1 0 ++ usesFrom fr r (i + 1)
def usesOf (g : List Op) (fr : Int) : List (Nat × Nat) := usesFrom fr g 0
theorem insAt_snoc (i : Nat) (fr : Int) (l : List Int) (x : Int) (k : Nat) : insAt i fr (l ++ [x]) k = insAt i fr l k ++ (if x = fr then [(i, k + l.length)] else []) := by
  induction l generalizing k with
  | nil => simp [insAt]
  | cons y l ih =>
    rw [List.cons_append, insAt, insAt, ih]
    have : k + 1 + l.length = k + (y :: l).length := by simp; omega
    rw [this]
    split <;> simp
theorem usesFrom_snoc (fr : Int) (l : List Op) (o : Op) (i : Nat) : usesFrom fr (l ++ [o]) i = usesFrom fr l i ++ insAt (i + l.length) fr o.f1 0 := by
  induction l generalizing i with
  | nil => simp [usesFrom]
  | cons y l ih =>
    rw [List.cons_append, usesFrom, usesFrom, ih]
    have : i + 1 + l.length = i + (y :: l).length := by simp; omega
    rw [this, List.append_assoc]
theorem usesFrom_append (fr : Int) (l m : List Op) (i : Nat) : usesFrom fr (l ++ m) i = usesFrom fr l i ++ usesFrom fr m (i + l.length) := by
  induction l generalizing i with
  | nil => simp [usesFrom]
  | cons y l ih =>
    rw [List.cons_append, usesFrom, usesFrom, ih]
    have : i + 1 + l.length = i + (y :: l).length := by simp; omega
    rw [this, List.append_assoc]
theorem insAt_append (i : Nat) (fr : Int) (l m : List Int) (k : Nat) : insAt i fr (l ++ m) k = insAt i fr l k ++ insAt i fr m (k + l.length) := by
  induction l generalizing k with
  | nil => simp [insAt]
  | cons y l ih =>
    rw [List.cons_append, insAt, insAt, ih]
    have : k + 1 + l.length = k + (y :: l).length := by simp; omega
    rw [this]
    split <;> simp
def upto (g : List Op) (fr : Int) (i : Nat) (ins : List Int) (k : Nat) : List (Nat × Nat) := usesFrom fr (g.take i) 0 ++ insAt i fr (ins.take k) 0
theorem upto_zero (g : List Op) (fr : Int) (i : Nat) (ins : List Int) : upto g fr i ins 0 = usesFrom fr (g.take i) 0 := by simp [upto, insAt]
theorem upto_prefix {g : List Op} {fr : Int} {i : Nat} {o : Op} (ho : g[i]? = some o) (k : Nat) : upto g fr i o.f1 k <+: usesOf g fr := by
  obtain ⟨hi, he⟩ := List.getElem?_eq_some_iff.1 ho
  refine ⟨insAt i fr (o.f1.drop k) (0 + (o.f1.take k).length) ++ usesFrom fr (g.drop (i + 1)) (i + 1), ?_⟩
  unfold upto usesOf
  have hg : g = g.take i ++ ([o] ++ g.drop (i + 1)) := by
    rw [← List.append_assoc, ← take_snoc_of ho, List.take_append_drop]
  have hl : (g.take i).length = i := by rw [List.length_take]; omega
  conv => rhs; rw [hg, usesFrom_append, hl, usesFrom_append]
  have h1 : usesFrom fr [o] (0 + i) = insAt i fr (o.f1.take k) 0 ++ insAt i fr (o.f1.drop k) (0 + (o.f1.take k).length) := by
    rw [← insAt_append, List.take_append_drop]
    simp [usesFrom]
  rw [h1]
  simp [List.append_assoc]
theorem upto_hit {g : List Op} {fr : Int} {i : Nat} {ins : List Int} {k : Nat} (h : ins[k]? = some fr) : upto g fr i ins (k + 1) = upto g fr i ins k ++ [(i, k)] := by
  unfold upto
  have hk := (List.getElem?_eq_some_iff.1 h).1
  rw [take_snoc_of h, insAt_snoc, if_pos rfl, List.append_assoc, List.length_take, Nat.min_eq_left (by omega), Nat.zero_add]
theorem upto_miss {g : List Op} {fr : Int} {i : Nat} {ins : List Int} {k : Nat} {x : Int} (h : ins[k]? = some x) (hx : x ≠ fr) : upto g fr i ins (k + 1) = upto g fr i ins k := by
  unfold upto
  rw [take_snoc_of h, insAt_snoc, if_neg hx, List.append_nil]
theorem upto_end {g : List Op} {fr : Int} {i : Nat} {o : Op} (ho : g[i]? = some o) : upto g fr i o.f1 o.f1.length = usesFrom fr (g.take (i + 1)) 0 := by
  have hi := (List.getElem?_eq_some_iff.1 ho).1
  unfold upto
  rw [List.take_length, take_snoc_of ho, usesFrom_snoc, List.length_take, Nat.min_eq_left (by omega), Nat.zero_add]
def Keep (ok : Nat → Prop) (W W' : World) : Prop := ∀ k, ok k → W'.heap[k]? = W.heap[k]?
def encP (x : Nat × Nat) : Array Value := #[.int .i64 (x.1 : Int), .int .i64 (x.2 : Int)]
set_option maxRecDepth 100000 in
set_option maxHeartbeats 4000000 in
theorem Uses1_in (F : Fence) (n : Nat) (h7 : F.fn 124) (hro : F.round = none) (hn : 1 ≤ n) (l Bg Bf : Nat) (ok : Nat → Prop) (w0 : World) (A : Option Addr) (c : Nat) (g : List Op) (fr : Int)
    (hg : Kd.C kOp w0 A g.length g) (hgl : g.length ≤ 1000000000) (hil : ∀ o ∈ g, o.f1.length ≤ 1000000000) (hok : ∀ k, k < w0.heap.size → ok k) (hokg : ok Bg) (hokf : ok Bf) (J Jx : List (Nat × Nat) → World → Prop)
    (hJ : ∀ xs W o, J xs W → J xs (W.alloc o))
    (hY : ∀ pre x W, J pre W → pre ++ [x] <+: usesOf g fr → YieldAt F (n - 1) Try.prog l (encP x) W fun e W' =>
      (e = .returned (.bool true) ∧ J (pre ++ [x]) W' ∧ Keep ok W W') ∨ (e = .returned (.bool false) ∧ Jx (pre ++ [x]) W'))
    (W : World) (hokb : ∀ k, ok k → k < W.heap.size) (hW : ∀ k, k < w0.heap.size → W.heap[k]? = w0.heap[k]?) (hBg : W.cell? ⟨Bg, 0, none⟩ = some (.slice A g.length c)) (hBf : W.cell? ⟨Bf, 0, none⟩ = some (.int .i64 fr)) (h0 : J [] W) :
    CallsIn F n Try.prog 124 #[.func (.yield l) #[] #[], .pointer (some ⟨Bg, 0, none⟩), .pointer (some ⟨Bf, 0, none⟩)] W fun e W' => (∃ v, e = .returned v) ∧
      ((∃ ys, ys = usesOf g fr ∧ J ys W') ∨ (∃ pre, pre <+: usesOf g fr ∧ Jx pre W')) := by
  refine callsIn_of_wp Try.func124 rfl h7 ?_ hro
  simp only [Try.ntmps124, List.size_toArray, List.length_cons, List.length_nil, Nat.reduceAdd, Nat.reduceSub, Array.replicate_succ, Array.replicate_zero, List.push_toArray, List.append_toArray, List.nil_append, List.cons_append]
  gi_wp2
  gi_loopw [11] (fun v11 wr => ∃ i : Nat, v11 = .int .i64 i ∧ i ≤ g.length ∧ J (usesFrom fr (g.take i) 0) wr ∧ Keep ok W wr) (fun v _ => g.length - (intOf v).toNat)
  case atStart => exact ⟨0, rfl, Nat.zero_le _, by simpa [usesFrom] using h0, fun _ _ => rfl⟩
  case round =>
    obtain ⟨i, rfl, hi, hJi, hki⟩ := hrel
    by_cases hlt : i < g.length
    · obtain ⟨ad, A1, c1, e1, x0, x1, x2, x3, x4, x5, x6, hc1, hins⟩ := at_T95 hg (i : Int) (by omega) (by omega)
      cases e1
      simp only [Int.toNat_natCast] at x0 x1 x2 x3 x4 x5 x6
      have ho : g[i]? = some (rd_T95 g i) := by
        unfold rd_T95
        simp [List.getD_eq_getElem?_getD, hlt]
      generalize rd_T95 g i = o at x0 x1 x2 x3 x4 x5 x6 hc1 hins ho
      have hcell : ∀ (a : Addr) (v : Value), w0.cell? a = some v → wr.cell? a = some v := fun a v h => by
        have hb := World.block_lt_of_cell? w0 _ h
        exact (World.cell?_of_block ((hki _ (hok _ hb)).trans (hW _ hb))).trans h
      replace x0 := hcell _ _ x0
      replace x1 := hcell _ _ x1
      replace x2 := hcell _ _ x2
      replace x3 := hcell _ _ x3
      replace x4 := hcell _ _ x4
      replace x5 := hcell _ _ x5
      replace x6 := hcell _ _ x6
      have hol := hil o (List.mem_of_getElem? ho)
      have HO := Aside0.mk ho
      clear hcell ho
      obtain ⟨wo, rfl⟩ : ∃ wo : World, wo = wr := ⟨_, rfl⟩
      have hfo : wo.cell? ⟨Bf, 0, none⟩ = some (.int .i64 fr) := (World.cell?_of_block (hki _ hokf)).trans hBf
      have hbf := World.block_lt_of_cell? _ _ hfo
      have hadd := World.block_lt_of_cell? _ _ x0
      gi_wp2
      gi_loopw [19] (fun v19 wr => ∃ k : Nat, v19 = .int .i64 k ∧ k ≤ o.f1.length ∧ J (upto g fr i o.f1 k) wr ∧ Keep ok W wr) (fun v _ => o.f1.length - (intOf v).toNat)
      case atStart => exact ⟨0, rfl, Nat.zero_le _, hJ _ _ _ (by rw [upto_zero]; exact hJi), fun b hb => by
        have hlt2 : b < wo.heap.size := by
          have h1 := hki b hb
          rw [Array.getElem?_eq_getElem (hokb b hb)] at h1
          exact (Array.getElem?_eq_some_iff.1 h1).1
        exact (Below.heap_alloc wo _ b hlt2).trans (hki b hb)⟩
      case round =>
        obtain ⟨k, rfl, hk, hJk, hkk⟩ := hrel
        by_cases hlk : k < o.f1.length
        · obtain ⟨id, e2, y0⟩ := Kd.at_int hins (k : Int) (by omega) (by omega)
          cases e2
          simp only [Int.toNat_natCast] at y0
          have hx : o.f1[k]? = some (rd o.f1 k) := by simp [rd, List.getD_eq_getElem?_getD, hlk]
          generalize rd o.f1 k = x at y0 hx
          have hyb := World.block_lt_of_cell? w0 _ y0
          replace y0 := (World.cell?_of_block ((hkk _ (hok _ hyb)).trans (hW _ hyb))).trans y0
          have hfr : wr.cell? ⟨Bf, 0, none⟩ = some (.int .i64 fr) := (World.cell?_of_block (hkk _ hokf)).trans hBf
          have HX := Aside0.mk hx
          by_cases hxf : x = fr
          · have he : (x == fr) = true := beq_iff_eq.2 hxf
            have hpl := upto_prefix HO.out (fr := fr) (k + 1)
            rw [upto_hit (by rw [HX.out, hxf])] at hpl
            obtain ⟨fn, tmps, assign, body, hy, hR⟩ := hY _ (i, k) wr hJk hpl
            simp only [encP] at hy
            have HP := Aside0.mk hpl
            have HE := Aside0.mk hxf
            clear hx hxf hpl
            gi_wp2
            refine hR.mono ?_
            rintro e W3 (⟨rfl, hJ3, hk3⟩ | ⟨rfl, hJx3⟩)
            · gi_wp2
              go_roundw
              case rel => exact ⟨k + 1, by go_num, by omega, by rw [upto_hit (by rw [HX.out, HE.out])]; exact hJ3, fun b hb => (hk3 b hb).trans (hkk b hb)⟩
              case measure => simp [intOf]; omega
            · gi_wp2
              refine bodyPost_ret (results_none rfl _ _ _) rfl ?_
              exact ⟨⟨_, rfl⟩, .inr ⟨_, HP.out, hJx3⟩⟩
          · have he : (x == fr) = false := beq_eq_false_iff_ne.2 hxf
            have HE := Aside0.mk hxf
            clear hx hxf
            gi_wp2
            refine ⟨(fun f h => by cases h), ?_⟩
            gi_wp2
            go_roundw
            case rel => exact ⟨k + 1, by go_num, by omega, by rw [upto_miss HX.out HE.out]; exact hJk, hkk⟩
            case measure => simp [intOf]; omega
        · obtain rfl : k = o.f1.length := by omega
          gi_wp2
          go_roundw
          case rel => exact ⟨i + 1, by go_num, by omega, by rw [← upto_end HO.out]; exact hJk, hkk⟩
          case measure => simp [intOf]; omega
    · obtain rfl : i = g.length := by omega
      gi_wp2
      go_end0
      exact ⟨⟨_, rfl⟩, .inl ⟨_, rfl, by rw [List.take_length] at hJi; exact hJi⟩⟩
set_option maxHeartbeats 1000000 in
theorem Uses_in (F : Fence) (n : Nat) (h5 : F.fn 90) (hro : F.round = none) (A : Option Addr) (len cap : Nat) (fr : Int) (w : World) :
    CallsIn F n Try.prog 90 #[.agg #[.slice A len cap], .int .i64 fr] w fun e w' => e = .returned (.func (.func 124) #[] #[.pointer (some ⟨w.heap.size, 0, none⟩), .pointer (some ⟨w.heap.size + 1, 0, none⟩)]) ∧ w' = (w.alloc (.cells #[.slice A len cap] 24)).alloc (.cells #[.int .i64 fr] 3) := by
  refine callsIn_of_wp Try.func90 rfl h5 ?_ hro
  simp only [Try.ntmps90, List.size_toArray, List.length_cons, List.length_nil, Nat.reduceAdd, Nat.reduceSub, Array.replicate_succ, Array.replicate_zero, List.push_toArray, List.append_toArray, List.nil_append, List.cons_append]
  gi_wp2
  go_ret
  exact ⟨rfl, rfl⟩
abbrev UseOf (g : List Op) (fr : Int) := { x : Nat × Nat // x ∈ usesOf g fr }
theorem Uses_stops (F : Fence) (n : Nat) (h7 : F.fn 124) (hro : F.round = none) (hn : 1 ≤ n) (Bg Bf : Nat) (ok : Nat → Prop) (w0 w : World) (A : Option Addr) (c : Nat) (g : List Op) (fr : Int)
    (hg : Kd.C kOp w0 A g.length g) (hgl : g.length ≤ 1000000000) (hil : ∀ o ∈ g, o.f1.length ≤ 1000000000) (hok : ∀ k, k < w0.heap.size → ok k) (hokg : ok Bg) (hokf : ok Bf) (hokb : ∀ k, ok k → k < w.heap.size)
    (hw : ∀ k, k < w0.heap.size → w.heap[k]? = w0.heap[k]?) (hBg : w.cell? ⟨Bg, 0, none⟩ = some (.slice A g.length c)) (hBf : w.cell? ⟨Bf, 0, none⟩ = some (.int .i64 fr)) :
    SeqStopsK F n Try.prog 124 #[.pointer (some ⟨Bg, 0, none⟩), .pointer (some ⟨Bf, 0, none⟩)] (fun x : UseOf g fr => encP x.1) (Keep ok) (fun ys => ys.map Subtype.val = usesOf g fr) (fun pre => pre.map Subtype.val <+: usesOf g fr) (usesOf g fr).length w := fun l J Jx W hW hJ hJx hY h0 => by
  refine (Uses1_in F n h7 hro hn l Bg Bf ok w0 A c g fr hg hgl hil hok hokg hokf (fun xs W => ∃ ys : List (UseOf g fr), ys.map Subtype.val = xs ∧ J ys W) (fun xs W => ∃ ys : List (UseOf g fr), ys.map Subtype.val = xs ∧ Jx ys W)
    (fun xs W' o ⟨ys, hy, h⟩ => ⟨ys, hy, hJ ys W' (W'.alloc o) none h (World.grownBy_alloc _ _ _) (fun r e => by cases e)⟩) ?_ W (fun k hk => Nat.lt_of_lt_of_le (hokb k hk) hW.size)
    (fun k hk => (hW.block k (hokb k (hok k hk))).trans (hw k hk)) ((hW.cell (p := ⟨Bg, 0, none⟩) (hokb _ hokg)).trans hBg) ((hW.cell (p := ⟨Bf, 0, none⟩) (hokb _ hokf)).trans hBf) ⟨[], rfl, h0⟩).mono ?_
  · rintro pre x W1 ⟨ys, rfl, hj⟩ hp
    have hx : x ∈ usesOf g fr := hp.subset (by simp)
    have hl : ys.length < (usesOf g fr).length := by have := hp.length_le; simp at this; omega
    obtain ⟨fn, tmps, assign, body, hy, hR⟩ := hY ys ⟨x, hx⟩ W1 hj hl
    refine ⟨fn, tmps, assign, body, hy, hR.mono ?_⟩
    rintro e W' (⟨he, hj', hk⟩ | ⟨he, hj'⟩)
    · exact .inl ⟨he, ⟨ys ++ [⟨x, hx⟩], by simp, hj'⟩, hk⟩
    · exact .inr ⟨he, ⟨ys ++ [⟨x, hx⟩], by simp, hj'⟩⟩
  · rintro e W' ⟨he, ⟨ys, rfl, zs, hz, hj⟩ | ⟨pre, hp, zs, rfl, hj⟩⟩
    · exact ⟨he, .inl ⟨zs, hz, hj⟩⟩
    · exact ⟨he, .inr ⟨zs, hp, hj⟩⟩
theorem insAt_mem {i : Nat} {fr : Int} {l : List Int} {k : Nat} {x : Nat × Nat} (h : x ∈ insAt i fr l k) : x.1 = i ∧ fr ∈ l := by
  induction l generalizing k with
  | nil => cases h
  | cons y l ih =>
    rw [insAt] at h
    split at h
    · rename_i e
      rcases List.mem_cons.1 h with rfl | h
      · exact ⟨rfl, by simp [e]⟩
      · exact ⟨(ih h).1, List.mem_cons_of_mem _ (ih h).2⟩
    · exact ⟨(ih h).1, List.mem_cons_of_mem _ (ih h).2⟩
theorem usesFrom_mem {fr : Int} {g : List Op} {i : Nat} {x : Nat × Nat} (h : x ∈ usesFrom fr g i) : ∃ o, i ≤ x.1 ∧ g[x.1 - i]? = some o ∧ fr ∈ o.f1 := by
  induction g generalizing i with
  | nil => cases h
  | cons y g ih =>
    rw [usesFrom] at h
    rcases List.mem_append.1 h with h | h
    · obtain ⟨h1, h2⟩ := insAt_mem h
      exact ⟨y, by omega, by rw [h1, Nat.sub_self]; rfl, h2⟩
    · obtain ⟨o, h1, h2, h3⟩ := ih h
      refine ⟨o, by omega, ?_, h3⟩
      obtain ⟨d, hd⟩ : ∃ d, x.1 - i = d + 1 := ⟨x.1 - i - 1, by omega⟩
      rw [hd, List.getElem?_cons_succ]
      rw [show x.1 - (i + 1) = d by omega] at h2
      exact h2
theorem usesOf_mem {fr : Int} {g : List Op} {x : Nat × Nat} (h : x ∈ usesOf g fr) : ∃ o, g[x.1]? = some o ∧ fr ∈ o.f1 := by
  obtain ⟨o, _, h1, h2⟩ := usesFrom_mem h
  exact ⟨o, by simpa using h1, h2⟩
end Go.Proofs.Ytiooalhfhnddjaa
end
section
set_option linter.unusedSimpArgs false
namespace Go.Proofs.Ytiooalhfhnddjaa
open Go.RowKit Go.Proofs.Ytiooalhfhnddjaa.MM Go.Proofs.Ytiooalhfhnddjaa.PX Go.Proofs.YtiooalhfhnddjaaW.PrintWords
set_option linter.unusedVariables false
def rowCells (n : Nat) (f : Nat → Bool) : Array Value := ((List.range n).map fun c => Value.bool (f c)).toArray
structure MatAt (w : World) (B Ob n lo : Nat) (rb : Nat → Nat) (M : Nat → Nat → Bool) : Prop where
  hO : B ≤ Ob
  outer : ∃ cur : Array Value, w.heap[Ob]? = some (.cells cur 125 (0, 0)) ∧ cur.size = n ∧ ∀ j, j < n → cur[j]? = some (if j < lo then .slice none 0 0 else .slice (some ⟨rb j, 0, none⟩) n n)
  row : ∀ j, lo ≤ j → j < n → B ≤ rb j ∧ w.heap[rb j]? = some (.cells (rowCells n (M j)) 4 (0, 0))
  inj : ∀ i j, lo ≤ i → i < n → lo ≤ j → j < n → rb i = rb j → i = j
section
variable {w w' : World} {B Ob n lo : Nat} {rb : Nat → Nat} {M : Nat → Nat → Bool}
theorem MatAt.ne (h : MatAt w B Ob n lo rb M) {j : Nat} (h1 : lo ≤ j) (h2 : j < n) : rb j ≠ Ob := by
  intro e
  obtain ⟨cur, ho, _⟩ := h.outer
  have := (h.row j h1 h2).2
  rw [e, ho] at this
  injection this with this
  injection this with _ this
  cases this
theorem MatAt.out_lt (h : MatAt w B Ob n lo rb M) : Ob < w.heap.size := by
  obtain ⟨cur, ho, _⟩ := h.outer
  exact (Array.getElem?_eq_some_iff.1 ho).1
theorem MatAt.row_lt (h : MatAt w B Ob n lo rb M) {j : Nat} (h1 : lo ≤ j) (h2 : j < n) : rb j < w.heap.size := (Array.getElem?_eq_some_iff.1 (h.row j h1 h2).2).1
theorem MatAt.of_blocks (h : MatAt w B Ob n lo rb M) (hb : ∀ (k : Nat) (cs : Array Value) (t : TypeId), w.heap[k]? = some (Obj.cells cs t (0, 0)) → w'.heap[k]? = w.heap[k]?) : MatAt w' B Ob n lo rb M := by
  obtain ⟨hO, ⟨cur, ho, hc⟩, hr, hi⟩ := h
  exact ⟨hO, ⟨cur, (hb _ _ _ ho).trans ho, hc⟩, fun j h1 h2 => ⟨(hr j h1 h2).1, (hb _ _ _ (hr j h1 h2).2).trans (hr j h1 h2).2⟩, hi⟩
theorem MatAt.grown (h : MatAt w B Ob n lo rb M) {row : Option Nat} (hg : w.grownBy w' row) (hr : ∀ r, row = some r → ∃ o : Obj, w.heap[r]? = some o ∧ o.isCells = false) : MatAt w' B Ob n lo rb M :=
  h.of_blocks fun k cs t hk => hg.block k (Array.getElem?_eq_some_iff.1 hk).1 (fun e => by
    obtain ⟨o, ho, hc⟩ := hr k e.symm
    rw [hk] at ho
    injection ho with ho
    subst ho
    cases hc)
theorem MatAt.alloc (h : MatAt w B Ob n lo rb M) (o : Obj) : MatAt (w.alloc o) B Ob n lo rb M := h.grown (World.grownBy_alloc w o none) (fun r e => by cases e)
theorem MatAt.drew (h : MatAt w B Ob n lo rb M) : MatAt w.drew B Ob n lo rb M := h.of_blocks (fun _ _ _ _ => rfl)
theorem MatAt.drewN (h : MatAt w B Ob n lo rb M) (m : Nat) : MatAt (w.drewN m) B Ob n lo rb M := h.of_blocks (fun _ _ _ _ => rfl)
theorem MatAt.below (h : MatAt w B Ob n lo rb M) (hb : Below w.heap.size w w') : MatAt w' B Ob n lo rb M := h.of_blocks fun k cs t hk => hb.block k (Array.getElem?_eq_some_iff.1 hk).1
theorem MatAt.cell_outer (h : MatAt w B Ob n lo rb M) {j : Nat} (hj : j < n) : w.cell? ⟨Ob, j, none⟩ = some (if j < lo then .slice none 0 0 else .slice (some ⟨rb j, 0, none⟩) n n) := by
  obtain ⟨cur, ho, hs, hc⟩ := h.outer
  simp only [World.cell?, ho]
  exact hc j hj
theorem MatAt.cell_row (h : MatAt w B Ob n lo rb M) {j : Nat} (h1 : lo ≤ j) (h2 : j < n) : w.cell? ⟨Ob, j, none⟩ = some (.slice (some ⟨rb j, 0, none⟩) n n) := by
  rw [h.cell_outer h2, if_neg (by omega)]
theorem MatAt.cell (h : MatAt w B Ob n lo rb M) {j c : Nat} (h1 : lo ≤ j) (h2 : j < n) (hc : c < n) : w.cell? ⟨rb j, c, none⟩ = some (.bool (M j c)) := by
  simp only [World.cell?, (h.row j h1 h2).2, rowCells]
  simp [hc]
theorem MatAt.free_outer (h : MatAt w B Ob n lo rb M) (j : Nat) : w.frozen? ⟨Ob, j, none⟩ = false := by
  obtain ⟨cur, ho, hs, hc⟩ := h.outer
  simp [World.frozen?, ho]
theorem MatAt.free (h : MatAt w B Ob n lo rb M) {j : Nat} (h1 : lo ≤ j) (h2 : j < n) (c : Nat) : w.frozen? ⟨rb j, c, none⟩ = false := by
  simp [World.frozen?, (h.row j h1 h2).2]
theorem rowCells_set (n : Nat) (f : Nat → Bool) (c : Nat) (v : Bool) : (rowCells n f).setIfInBounds c (.bool v) = rowCells n (fun i => if i = c then v else f i) := by
  unfold rowCells
  apply Array.ext'
  rw [Array.toList_setIfInBounds]
  apply List.ext_getElem?
  intro i
  simp only [List.getElem?_set, List.length_map, List.length_range]
  by_cases h : c = i
  · subst h
    by_cases hc : c < n
    · simp [hc]
    · simp [hc]
  · rw [if_neg h]
    by_cases hi : i < n
    · simp [hi, Ne.symm h]
    · simp [hi]
theorem heap_set_same (w : World) {b c : Nat} {cs : Array Value} {t : Nat} (v : Value) (hb : w.heap[b]? = some (.cells cs t (0, 0))) : (w.setCell ⟨b, c, none⟩ v).heap[b]? = some (.cells (cs.setIfInBounds c v) t (0, 0)) := by
  simp [World.setCell, Array.getElem?_modify, hb]
theorem MatAt.put (h : MatAt w B Ob n lo rb M) {j c : Nat} (h1 : lo ≤ j) (h2 : j < n) (v : Bool) : MatAt (w.setCell ⟨rb j, c, none⟩ (.bool v)) B Ob n lo rb (fun i => if i = j then fun x => if x = c then v else M j x else M i) := by
  obtain ⟨cur, ho, hs, hc⟩ := h.outer
  refine ⟨h.hO, ⟨cur, (Below.heap_setCell w _ _ _ (fun e => h.ne h1 h2 e.symm)).trans ho, hs, hc⟩, fun i h3 h4 => ⟨(h.row i h3 h4).1, ?_⟩, h.inj⟩
  by_cases hij : i = j
  · subst hij
    rw [if_pos rfl, heap_set_same w _ (h.row i h1 h2).2, rowCells_set]
  · rw [if_neg hij, Below.heap_setCell w _ _ _ (fun e => hij (h.inj i j h3 h4 h1 h2 e))]
    exact (h.row i h3 h4).2
theorem MatAt.add (h : MatAt w B Ob n (lo + 1) rb M) (hlo : lo < n) {nb : Nat} {f : Nat → Bool} (hn : w.heap[nb]? = some (.cells (rowCells n f) 4 (0, 0))) (hB : B ≤ nb) (hne : ∀ j, lo + 1 ≤ j → j < n → rb j ≠ nb) :
    MatAt (w.setCell ⟨Ob, lo, none⟩ (.slice (some ⟨nb, 0, none⟩) n n)) B Ob n lo (fun i => if i = lo then nb else rb i) (fun i => if i = lo then f else M i) := by
  obtain ⟨cur, ho, hs, hc⟩ := h.outer
  have hnO : nb ≠ Ob := by
    rintro rfl
    rw [ho] at hn
    injection hn with hn
    injection hn with _ hn
    cases hn
  refine ⟨h.hO, ⟨_, heap_set_same w _ ho, by rw [Array.size_setIfInBounds]; exact hs, fun j hj => ?_⟩, fun j h1 h2 => ?_, fun i j h1 h2 h3 h4 e => ?_⟩
  · rw [Array.getElem?_setIfInBounds]
    by_cases e : lo = j
    · subst e
      rw [if_pos rfl, if_neg (Nat.lt_irrefl _), if_pos rfl, if_pos (by omega)]
    · rw [if_neg e, hc j hj]
      by_cases h1 : j < lo
      · rw [if_pos (by omega), if_pos h1]
      · rw [if_neg (by omega), if_neg h1, if_neg (Ne.symm e)]
  · by_cases e : j = lo
    · subst e
      rw [if_pos rfl, if_pos rfl]
      exact ⟨hB, (Below.heap_setCell w _ _ _ hnO).trans hn⟩
    · rw [if_neg e, if_neg e]
      exact ⟨(h.row j (by omega) h2).1, (Below.heap_setCell w _ _ _ (h.ne (by omega) h2)).trans (h.row j (by omega) h2).2⟩
  · by_cases e1 : i = lo <;> by_cases e2 : j = lo
    · rw [e1, e2]
    · rw [if_pos e1, if_neg e2] at e; exact absurd e.symm (hne j (by omega) h4)
    · rw [if_neg e1, if_pos e2] at e; exact absurd e (hne i (by omega) h2)
    · rw [if_neg e1, if_neg e2] at e; exact h.inj i j (by omega) h2 (by omega) h4 e
theorem MatAt.toR (h : MatAt w B Ob n 0 rb M) (hn : n ≤ 1000000000) : Kd.R kRow 125 w B (fun _ => True) (.slice (some ⟨Ob, 0, none⟩) n n) ((List.range n).map fun j => (List.range n).map (M j)) := by
  obtain ⟨cur, ho, hs, hc⟩ := h.outer
  have hmax : n ≤ maxLen := by unfold maxLen; omega
  refine ⟨fun _ _ => trivial, (List.range n).map fun j => Value.slice (some ⟨rb j, 0, none⟩) n n, ⟨by simp [kRow, Kd.slice], .inr ⟨Ob, n, cur, by simp, h.hO, ho, by simp, hmax, by simp [kRow, Kd.slice, hs], ?_⟩⟩, ?_⟩
  · apply List.ext_getElem?
    intro j
    simp only [kRow, Kd.slice, List.length_map, List.length_range, Nat.mul_one]
    rw [List.getElem?_take]
    by_cases hj : j < n
    · rw [if_pos hj]
      have := hc j hj
      rw [if_neg (Nat.not_lt_zero _)] at this
      rw [Array.getElem?_toList, this]
      simp [hj]
    · rw [if_neg hj]; simp [hj]
  · have key : ∀ m, m ≤ n → Reps (kRow.M w B fun k => True ∧ some k ≠ (Value.slice (some ⟨Ob, 0, none⟩) n n).ownBlock) kRow.sz ((List.range m).map fun j => (List.range n).map (M j)) ((List.range m).map fun j => Value.slice (some ⟨rb j, 0, none⟩) n n) := by
      intro m
      induction m with
      | zero => intro _; exact Reps.none _ _
      | succ m ih =>
        intro hm
        rw [List.range_succ, List.map_append, List.map_append]
        refine (ih (by omega)).snoc (c := [Value.slice (some ⟨rb m, 0, none⟩) n n]) ?_ rfl
        refine ⟨_, rfl, fun k hk => ⟨trivial, ?_⟩, (List.range n).map fun c => Value.bool (M m c), ⟨by simp [Kd.bool, Kd.scalar], .inr ⟨rb m, n, rowCells n (M m), by simp, (h.row m (Nat.zero_le _) (by omega)).1, (h.row m (Nat.zero_le _) (by omega)).2, by simp, hmax, by simp [rowCells, Kd.bool, Kd.scalar], ?_⟩⟩, ?_⟩
        · have hne := h.ne (Nat.zero_le m) (by omega)
          have hk' : rb m = k := by simpa [Value.ownBlock] using hk
          subst hk'
          simpa [Value.ownBlock] using hne
        · simp only [rowCells, Kd.bool, Kd.scalar, List.length_map, List.length_range, Nat.mul_one]
          exact List.take_of_length_le (by simp)
        · have := Kd.reps_scalar (enc := Value.bool) ((List.range n).map (M m))
          rw [show encs Value.bool ((List.range n).map (M m)) = (List.range n).map fun c => Value.bool (M m c) from List.map_map ..] at this
          exact this
    exact key n (Nat.le_refl _)
end
end Go.Proofs.Ytiooalhfhnddjaa
end
section
set_option linter.unusedSimpArgs false
namespace Go.Proofs.Ytiooalhfhnddjaa
open Go.RowKit Go.Shelf Go.Proofs.Ytiooalhfhnddjaa.MM Go.Proofs.Ytiooalhfhnddjaa.PX Go.Proofs.YtiooalhfhnddjaaW.PrintWords
attribute [local go_sem] Oper.semAt_some
set_option linter.unusedVariables false
def mark (D : Nat) : Deferred := { target := .collected D, args := #[] }
structure Shut (B : Nat) (W W' : World) : Prop where
  os : W'.os = W.os
  tape : W'.tape = W.tape
  output : W'.output = W.output
  size : W'.heap.size = W.heap.size
  cells : ∀ (k : Nat) (cs : Array Value) (t : TypeId) (f : Nat × Nat), W.heap[k]? = some (Obj.cells cs t f) → W'.heap[k]? = W.heap[k]?
  low : ∀ k, k < B → W'.heap[k]? = W.heap[k]?
theorem Shut.refl (B : Nat) (W : World) : Shut B W W := ⟨rfl, rfl, rfl, rfl, fun _ _ _ _ _ => rfl, fun _ _ => rfl⟩
theorem Shut.below {B : Nat} {w W W' : World} (h : Shut B W W') (hb : Below B w W) : Below B w W' := ⟨h.os.trans hb.os, h.tape.trans hb.tape, h.output.trans hb.output, by rw [h.size]; exact hb.size, fun k hk => (h.low k hk).trans (hb.block k hk)⟩
theorem leaves_marks {F : Fence} {n : Nat} {P : Program} {fn : Func} {tmps : Array Value} {R : Ending → World → Prop} {B : Nat} : ∀ (Ds : List Nat) (W : World), Ds.Nodup → (∀ D ∈ Ds, B ≤ D ∧ W.heap[D]? = some (.deferred (some []))) →
    (∀ W', Shut B W W' → ∃ v, (results fn tmps).run P W' = .ok v W' ∧ R (.returned v) W') → LeavesInM F n P fn tmps R (Ds.map mark) .returning W
  | [], W, _, _, h => h W (Shut.refl B W)
  | D :: Ds, W, hn, hD, h => by
    obtain ⟨h1, h2⟩ := List.nodup_cons.1 hn
    obtain ⟨hBD, hdf⟩ := hD D List.mem_cons_self
    have hlt := (Array.getElem?_eq_some_iff.1 hdf).1
    refine ⟨by simp, .inl ⟨D, _, rfl, run_takeDeferred hdf, ?_⟩⟩
    refine leaves_marks Ds _ h2 (fun D' hD' => ⟨(hD D' (List.mem_cons_of_mem _ hD')).1, (World.putObj_heap_other (fun e => h1 (by rw [← e]; exact hD'))).trans (hD D' (List.mem_cons_of_mem _ hD')).2⟩) (fun W' hs => h W' ?_)
    refine ⟨hs.os, hs.tape, hs.output, by rw [hs.size]; simp, fun k cs t f hk => ?_, fun k hk => (hs.low k hk).trans (World.putObj_heap_other (by omega))⟩
    have hne : k ≠ D := by
      rintro rfl
      rw [hdf] at hk
      cases hk
    have h3 : (W.putObj D (.deferred none)).heap[k]? = W.heap[k]? := World.putObj_heap_other hne
    exact (hs.cells k cs t f (h3.trans hk)).trans h3
theorem wpIn_loop_num {F : Fence} {n : Nat} {P : Program} {c : Code} {Q : Exit → Act → World → Prop} {a : Act} {w : World} (I : Nat → Act → World → Prop) (m : Nat) (h₀ : I m a w)
    (round : ∀ m a w, I m a w → ∀ K : Act → World → Prop, (∀ k a' w', k < m → I k a' w' → K a' w') → c.wpIn F n P (Exit.then K Q) a w) : (Code.loop c).wpIn F n P Q a w := by
  refine wpIn_loop (fun a w => ∃ m, I m a w) (fun a w => leastOf (fun m => I m a w)) ⟨m, h₀⟩ ?_
  intro a w hI
  refine round _ a w (leastOf_spec hI).1 _ (fun k a' w' hk h => ⟨⟨k, h⟩, Nat.lt_of_le_of_lt ((leastOf_spec ⟨k, h⟩).2 k h) hk⟩)
def nilRows (n : Nat) : Array Value := madeCells (Value.slice none 0 0).cells (n * 1)
theorem mk_rows (n : Nat) (hn : n ≤ 16) (W : World) : (Instr.makeSlice 110 (.int .i64 (n : Int)) (.int .i64 (n : Int))).run Try.prog W = .ok (.slice (some ⟨W.heap.size, 0, none⟩) n n) (W.alloc (.cells (nilRows n) 125)) := by
  obtain ⟨i, hi, hz⟩ := Option.map_eq_some_iff.1 (show (Try.prog.info? 125).map (fun i => (i.zero, i.size, i.bytes)) = some (some (.slice none 0 0), 1, 24) by kernel_rfl)
  simp only [Prod.mk.injEq] at hz
  have := run_make (P := Try.prog) W 110 125 i (.slice none 0 0) Try.underlying110 hi hz.1 .i64 .i64 n n (by omega) (by omega) (by rw [hz.2.2]; omega) (by omega)
  rw [hz.2.1] at this
  simpa [nilRows] using this
theorem mk_row (n : Nat) (hn : n ≤ 16) (W : World) : (Instr.makeSlice 125 (.int .i64 (n : Int)) (.int .i64 (n : Int))).run Try.prog W = .ok (.slice (some ⟨W.heap.size, 0, none⟩) n n) (W.alloc (.cells (rowCells n fun _ => false) 4)) := by
  obtain ⟨i, hi, hz⟩ := Option.map_eq_some_iff.1 (show (Try.prog.info? 4).map (fun i => (i.zero, i.size, i.bytes)) = some (some (.bool false), 1, 1) by kernel_rfl)
  simp only [Prod.mk.injEq] at hz
  have := run_make (P := Try.prog) W 125 4 i (.bool false) Try.underlying125 hi hz.1 .i64 .i64 n n (by omega) (by omega) (by rw [hz.2.2]; omega) (by omega)
  rw [hz.2.1] at this
  have hc : madeCells (Value.bool false).cells (n * 1) = rowCells n fun _ => false := by
    apply Array.ext'
    rw [madeCells, rowCells, Array.toList_map, Array.toList_range, Nat.mul_one]
    refine List.map_congr_left (fun i _ => ?_)
    simp [Value.cells, Nat.mod_one]
  rw [← hc]
  simpa using this
theorem chk_two (g : List Op) : (chk g).2 = 0 ∨ (chk g).2 = 2 ∨ (chk g).2 = 13 := by
  unfold chk
  split
  · simp
  · split <;> simp
theorem okg_len {g : List Op} (h : okg g = true) : 1 ≤ g.length ∧ g.length ≤ 16 := by
  unfold okg chk at h
  split at h
  · simp at h
  · omega
structure RInv (w W : World) (A : Option Addr) (c : Nat) (g : List Op) (Bn Ba m : Nat) (rb : Nat → Nat) (M : Nat → Nat → Bool) (ds : List Nat) : Prop where
  bg : W.heap[w.heap.size]? = some (.cells #[.slice A g.length c] 24 (0, 0))
  bn : W.heap[Bn]? = some (.cells #[.int .i64 g.length] 3 (0, 0))
  bo : W.heap[Bn + 1 + 1]? = some (.cells #[.slice (some ⟨Bn + 1, 0, none⟩) g.length g.length] 110 (0, 0))
  ba : W.heap[Ba]? = some (.cells #[.int .i64 ((m : Int) - 1)] 3 (0, 0))
  hB : w.heap.size < Bn
  hBa : Bn + 1 + 1 < Ba
  mat : MatAt W w.heap.size (Bn + 1) g.length m rb M
  rows : ∀ j, m ≤ j → j < g.length → ∀ k, k < g.length → M j k = reachB g (j : Int) (k : Int)
  below : Below w.heap.size w W
  nodup : ds.Nodup
  marks : ∀ D ∈ ds, w.heap.size ≤ D ∧ W.heap[D]? = some (.deferred (some []))
theorem RInv.start {w w1 : World} {A : Option Addr} {c : Nat} {g : List Op} {Bn : Nat} (hwb1 : Below w.heap.size w w1) (hgb : w1.heap[w.heap.size]? = some (.cells #[.slice A g.length c] 24 (0, 0))) (hBn : w1.heap.size = Bn) (hl : 1 ≤ g.length ∧ g.length ≤ 16) :
    RInv w ((((w1.alloc (Obj.cells #[Value.int IntKind.i64 ↑g.length] 3)).alloc (Obj.cells (nilRows g.length) 125)).alloc (Obj.cells #[Value.slice (some { block := Bn + 1, off := 0 }) g.length g.length] 110)).alloc (Obj.cells #[Value.int IntKind.i64 (↑g.length - 1)] 3)) A c g Bn (Bn + 1 + 1 + 1) g.length (fun _ => 0) (fun _ _ => false) [] := by
  subst hBn
  have hlt := (Array.getElem?_eq_some_iff.1 hgb).1
  obtain ⟨wa, hwa⟩ : ∃ wa, wa = w1.alloc (Obj.cells #[Value.int IntKind.i64 ↑g.length] 3) := ⟨_, rfl⟩
  obtain ⟨wb, hwb⟩ : ∃ wb, wb = wa.alloc (Obj.cells (nilRows g.length) 125) := ⟨_, rfl⟩
  obtain ⟨wc, hwc⟩ : ∃ wc, wc = wb.alloc (Obj.cells #[Value.slice (some { block := w1.heap.size + 1, off := 0 }) g.length g.length] 110) := ⟨_, rfl⟩
  rw [← hwa, ← hwb, ← hwc]
  have sa : wa.heap.size = w1.heap.size + 1 := by rw [hwa]; simp
  have sb : wb.heap.size = w1.heap.size + 1 + 1 := by rw [hwb]; simp [sa]
  have sc : wc.heap.size = w1.heap.size + 1 + 1 + 1 := by rw [hwc]; simp [sb]
  have na : wa.heap[w1.heap.size]? = some (.cells #[.int .i64 g.length] 3 (0, 0)) := by rw [hwa]; exact heap_alloc_new w1 _
  have nb : wb.heap[w1.heap.size + 1]? = some (.cells (nilRows g.length) 125 (0, 0)) := by rw [hwb, ← sa]; exact heap_alloc_new wa _
  have nc : wc.heap[w1.heap.size + 1 + 1]? = some (.cells #[.slice (some ⟨w1.heap.size + 1, 0, none⟩) g.length g.length] 110 (0, 0)) := by rw [hwc, ← sb]; exact heap_alloc_new wb _
  have oa : ∀ k, k < w1.heap.size → wa.heap[k]? = w1.heap[k]? := fun k h => by rw [hwa]; exact Below.heap_alloc w1 _ k h
  have ob : ∀ k, k < w1.heap.size + 1 → wb.heap[k]? = wa.heap[k]? := fun k h => by rw [hwb]; exact Below.heap_alloc wa _ k (by omega)
  have oc : ∀ k, k < w1.heap.size + 1 + 1 → wc.heap[k]? = wb.heap[k]? := fun k h => by rw [hwc]; exact Below.heap_alloc wb _ k (by omega)
  have od : ∀ (o : Obj) k, k < w1.heap.size + 1 + 1 + 1 → (wc.alloc o).heap[k]? = wc.heap[k]? := fun o k h => Below.heap_alloc wc o k (by omega)
  refine ⟨(od _ _ (by omega)).trans ((oc _ (by omega)).trans ((ob _ (by omega)).trans ((oa _ hlt).trans hgb))), (od _ _ (by omega)).trans ((oc _ (by omega)).trans ((ob _ (by omega)).trans na)), (od _ _ (by omega)).trans nc, by rw [← sc]; exact heap_alloc_new wc _, hlt, by omega, ⟨by omega, ⟨nilRows g.length, (od _ _ (by omega)).trans ((oc _ (by omega)).trans nb), by simp [nilRows, size_madeCells], fun j hj => ?_⟩, fun j h1 h2 => by omega, fun i j h1 h2 => by omega⟩, fun j h1 h2 => by omega, ?_, List.nodup_nil, by simp⟩
  · rw [if_pos hj]
    simp [nilRows, madeCells, hj, Value.cells, Nat.mod_one]
  · rw [hwc, hwb, hwa]
    exact below_alloc (below_alloc (below_alloc (below_alloc hwb1 _) _) _) _
structure RMid (w W : World) (A : Option Addr) (c : Nat) (g : List Op) (Bn Ba a : Nat) (rb : Nat → Nat) (M : Nat → Nat → Bool) (ds : List Nat) : Prop where
  bg : W.heap[w.heap.size]? = some (.cells #[.slice A g.length c] 24 (0, 0))
  bn : W.heap[Bn]? = some (.cells #[.int .i64 g.length] 3 (0, 0))
  bo : W.heap[Bn + 1 + 1]? = some (.cells #[.slice (some ⟨Bn + 1, 0, none⟩) g.length g.length] 110 (0, 0))
  ba : W.heap[Ba]? = some (.cells #[.int .i64 (a : Int)] 3 (0, 0))
  hB : w.heap.size < Bn
  hBa : Bn + 1 + 1 < Ba
  mat : MatAt W w.heap.size (Bn + 1) g.length a rb M
  rows : ∀ j, a < j → j < g.length → ∀ k, k < g.length → M j k = reachB g (j : Int) (k : Int)
  below : Below w.heap.size w W
  nodup : ds.Nodup
  marks : ∀ D ∈ ds, w.heap.size ≤ D ∧ W.heap[D]? = some (.deferred (some []))
section
variable {w W W' : World} {A : Option Addr} {c : Nat} {g : List Op} {Bn Ba a : Nat} {rb : Nat → Nat} {M : Nat → Nat → Bool} {ds : List Nat}
theorem RMid.of_blocks (h : RMid w W A c g Bn Ba a rb M ds) (hb : ∀ (k : Nat) (cs : Array Value) (t : TypeId), W.heap[k]? = some (Obj.cells cs t (0, 0)) → W'.heap[k]? = W.heap[k]?) (hm : ∀ D ∈ ds, W'.heap[D]? = W.heap[D]?) (hl : Below w.heap.size w W') : RMid w W' A c g Bn Ba a rb M ds :=
  ⟨(hb _ _ _ h.bg).trans h.bg, (hb _ _ _ h.bn).trans h.bn, (hb _ _ _ h.bo).trans h.bo, (hb _ _ _ h.ba).trans h.ba, h.hB, h.hBa, h.mat.of_blocks hb, h.rows, hl, h.nodup, fun D hD => ⟨(h.marks D hD).1, (hm D hD).trans (h.marks D hD).2⟩⟩
theorem RMid.alloc (h : RMid w W A c g Bn Ba a rb M ds) (o : Obj) : RMid w (W.alloc o) A c g Bn Ba a rb M ds :=
  h.of_blocks (fun k cs t hk => Below.heap_alloc W o k (Array.getElem?_eq_some_iff.1 hk).1) (fun D hD => Below.heap_alloc W o D (Array.getElem?_eq_some_iff.1 (h.marks D hD).2).1) (below_alloc h.below o)
theorem RMid.drewN (h : RMid w W A c g Bn Ba a rb M ds) (n : Nat) : RMid w (W.drewN n) A c g Bn Ba a rb M ds :=
  h.of_blocks (fun _ _ _ _ => rfl) (fun _ _ => rfl) (pw_below_drewN h.below n)
theorem RMid.turn {B : Nat} (h : RMid w W A c g Bn Ba a rb M ds) {row : Option Nat} (hg : W.grownBy W' row) (hr : ∀ r, row = some r → B ≤ r ∧ ∃ o : Obj, W.heap[r]? = some o ∧ o.isCells = false) (hds : ∀ D ∈ ds, D < B) (hwB : w.heap.size ≤ B) : RMid w W' A c g Bn Ba a rb M ds :=
  h.of_blocks (fun k cs t hk => hg.block k (Array.getElem?_eq_some_iff.1 hk).1 (fun e => by
    obtain ⟨_, o, ho, hc⟩ := hr k e.symm
    rw [hk] at ho
    injection ho with ho
    subst ho
    cases hc)) (fun D hD => hg.block D (Array.getElem?_eq_some_iff.1 (h.marks D hD).2).1 (fun e => by have := (hr D e.symm).1; have := hds D hD; omega))
    (h.below.grown hg h.below.size (fun k e => Nat.le_trans hwB (hr k e).1))
theorem cells_ne {W : World} {b b' : Nat} {cs cs' : Array Value} {t t' : TypeId} (h : W.heap[b]? = some (.cells cs t (0, 0))) (h' : W.heap[b']? = some (.cells cs' t' (0, 0))) (hne : t ≠ t') : b ≠ b' := by
  rintro rfl
  rw [h] at h'
  injection h' with h'
  injection h' with _ h'
  exact hne h'
theorem cells_ne_mark {W : World} {b b' : Nat} {cs : Array Value} {t : TypeId} {x : Option (List Deferred)} (h : W.heap[b]? = some (.cells cs t (0, 0))) (h' : W.heap[b']? = some (.deferred x)) : b' ≠ b := by
  rintro rfl
  rw [h] at h'
  cases h'
theorem RMid.put (h : RMid w W A c g Bn Ba a rb M ds) (ha : a < g.length) {k : Nat} (v : Bool) : RMid w (W.setCell ⟨rb a, k, none⟩ (.bool v)) A c g Bn Ba a rb (fun i => if i = a then fun x => if x = k then v else M a x else M i) ds := by
  have hrow := (h.mat.row a (Nat.le_refl _) ha).2
  refine ⟨(Below.heap_setCell W _ _ _ (cells_ne h.bg hrow (by decide))).trans h.bg, (Below.heap_setCell W _ _ _ (cells_ne h.bn hrow (by decide))).trans h.bn, (Below.heap_setCell W _ _ _ (cells_ne h.bo hrow (by decide))).trans h.bo,
    (Below.heap_setCell W _ _ _ (cells_ne h.ba hrow (by decide))).trans h.ba, h.hB, h.hBa, h.mat.put (Nat.le_refl _) ha v, fun j hj hjn x hx => ?_, h.below.setCell (p := ⟨rb a, k, none⟩) (h.mat.row a (Nat.le_refl _) ha).1 _, h.nodup, fun D hD => ⟨(h.marks D hD).1, (Below.heap_setCell W _ _ _ (cells_ne_mark hrow (h.marks D hD).2)).trans (h.marks D hD).2⟩⟩
  rw [if_neg (by omega)]
  exact h.rows j hj hjn x hx
theorem RInv.next (h : RInv w W A c g Bn Ba (a + 1) rb M ds) (ha : a < g.length) : RMid w ((W.setCell ⟨Bn + 1, a, none⟩ (.slice (some ⟨W.heap.size, 0, none⟩) g.length g.length)).alloc (.cells (rowCells g.length fun _ => false) 4)).drew A c g Bn Ba a (fun i => if i = a then W.heap.size else rb i) (fun i => if i = a then fun _ => false else M i) ds := by
  have hol := h.mat.out_lt
  have hcomm : (W.setCell ⟨Bn + 1, a, none⟩ (.slice (some ⟨W.heap.size, 0, none⟩) g.length g.length)).alloc (.cells (rowCells g.length fun _ => false) 4) = (W.alloc (.cells (rowCells g.length fun _ => false) 4)).setCell ⟨Bn + 1, a, none⟩ (.slice (some ⟨W.heap.size, 0, none⟩) g.length g.length) := (World.setCell_alloc_past _ _ _ _ hol).symm
  rw [hcomm]
  obtain ⟨W1, hW1⟩ : ∃ W1, W1 = W.alloc (.cells (rowCells g.length fun _ => false) 4) := ⟨_, rfl⟩
  have old : ∀ k, k < W.heap.size → W1.heap[k]? = W.heap[k]? := fun k hk => by rw [hW1]; exact Below.heap_alloc W _ k hk
  have hnew : W1.heap[W.heap.size]? = some (.cells (rowCells g.length fun _ => false) 4 (0, 0)) := by rw [hW1]; exact heap_alloc_new W _
  have hmat1 : MatAt W1 w.heap.size (Bn + 1) g.length (a + 1) rb M := by rw [hW1]; exact h.mat.alloc _
  rw [← hW1]
  have hadd := hmat1.add ha hnew h.below.size (fun j h1 h2 => by have := h.mat.row_lt h1 h2; omega)
  obtain ⟨cur, ho, _⟩ := hmat1.outer
  have far : ∀ (k : Nat) (cs : Array Value) (t : TypeId), W.heap[k]? = some (.cells cs t (0, 0)) → t ≠ 125 → (W1.setCell ⟨Bn + 1, a, none⟩ (.slice (some ⟨W.heap.size, 0, none⟩) g.length g.length)).heap[k]? = some (.cells cs t (0, 0)) := fun k cs t hk ht => by
    have h1 := (old k (Array.getElem?_eq_some_iff.1 hk).1).trans hk
    exact (Below.heap_setCell W1 _ _ _ (cells_ne h1 ho ht)).trans h1
  refine ⟨far _ _ _ h.bg (by decide), far _ _ _ h.bn (by decide), far _ _ _ h.bo (by decide), ?_, h.hB, h.hBa, hadd.drew, fun j hj hjn k hk => ?_, ?_, h.nodup, fun D hD => ⟨(h.marks D hD).1, ?_⟩⟩
  · have := far _ _ _ h.ba (by decide)
    rw [show ((a + 1 : Nat) : Int) - 1 = (a : Int) by omega] at this
    exact this
  · rw [if_neg (by omega)]
    exact h.rows j (by omega) hjn k hk
  · rw [hW1]
    exact below_drew ((below_alloc h.below _).setCell (p := ⟨Bn + 1, a, none⟩) h.mat.hO _)
  · have hD' := (h.marks D hD).2
    have h1 := (old D (Array.getElem?_eq_some_iff.1 hD').1).trans hD'
    exact (Below.heap_setCell W1 _ _ _ (cells_ne_mark ho h1)).trans h1
theorem RMid.done (h : RMid w W A c g Bn Ba a rb M ds) (hf : ∀ k, k < g.length → M a k = reachB g (a : Int) (k : Int)) {D : Nat} (hD : W.heap[D]? = some (.deferred (some []))) (hDn : D ∉ ds) (hDw : w.heap.size ≤ D) (hs : Bn + 1 + 1 < W.heap.size) :
    RInv w (W.alloc (.cells #[.int .i64 ((a : Int) - 1)] 3)) A c g Bn W.heap.size a rb M (D :: ds) := by
  have h' := h.alloc (.cells #[.int .i64 ((a : Int) - 1)] 3)
  refine ⟨h'.bg, h'.bn, h'.bo, heap_alloc_new W _, h.hB, hs, h'.mat, fun j hj hjn k hk => ?_, h'.below, List.nodup_cons.2 ⟨hDn, h.nodup⟩, fun D' hD' => ?_⟩
  · rcases Nat.lt_or_ge a j with h1 | h1
    · exact h.rows j h1 hjn k hk
    · obtain rfl : j = a := by omega
      exact hf k hk
  · rcases List.mem_cons.1 hD' with rfl | hD'
    · exact ⟨hDw, (Below.heap_alloc W _ D' (Array.getElem?_eq_some_iff.1 hD).1).trans hD⟩
    · exact h'.marks D' hD'
end
end Go.Proofs.Ytiooalhfhnddjaa
end
section
set_option linter.unusedSimpArgs false
namespace Go.Proofs.Ytiooalhfhnddjaa
open Go.RowKit Go.Shelf Go.Proofs.Ytiooalhfhnddjaa.MM Go.Proofs.Ytiooalhfhnddjaa.PX Go.Proofs.YtiooalhfhnddjaaW.PrintWords
set_option linter.unusedVariables false
theorem firstBad_none {n : Int} {l : List Op} {i : Int} (h : firstBad n l i = none) {j : Nat} {o : Op} (hj : l[j]? = some o) : opOk o (i + j) n = true := by
  induction l generalizing i j with
  | nil => simp at hj
  | cons y l ih =>
    rw [firstBad] at h
    split at h
    · rename_i hy
      cases j with
      | zero => simp at hj; subst hj; simpa using hy
      | succ j =>
        have := ih h (j := j) (by simpa using hj)
        rwa [show i + 1 + (j : Int) = i + ((j + 1 : Nat) : Int) by omega] at this
    · cases h
theorem okg_first {g : List Op} (h : okg g = true) : firstBad g.length g 0 = none := by
  unfold okg chk at h
  split at h
  · simp at h
  · cases hf : firstBad g.length g 0 with
    | none => rfl
    | some x => rw [hf] at h; simp at h
theorem okg_in {g : List Op} (h : okg g = true) {i : Nat} {o : Op} (hi : g[i]? = some o) : ∀ x ∈ o.f1, 0 ≤ x ∧ x < (i : Int) := by
  have := firstBad_none (okg_first h) hi
  unfold opOk at this
  simp only [Bool.and_eq_true, List.all_eq_true, decide_eq_true_eq, Int.zero_add] at this
  exact this.2
theorem opAt_get {g : List Op} {i : Nat} (hi : i < g.length) : g[i]? = some (opAt g (i : Int)) := by
  unfold opAt rd_T95
  simp [List.getD_eq_getElem?_getD, hi]
theorem mem_insAt {i : Nat} {fr : Int} {l : List Int} (h : fr ∈ l) (k : Nat) : ∃ ic, (i, ic) ∈ insAt i fr l k := by
  induction l generalizing k with
  | nil => cases h
  | cons y l ih =>
    rw [insAt]
    rcases List.mem_cons.1 h with rfl | h
    · rw [if_pos rfl]
      exact ⟨k, List.mem_cons_self⟩
    · obtain ⟨ic, h'⟩ := ih h (k + 1)
      refine ⟨ic, ?_⟩
      split
      · exact List.mem_cons_of_mem _ h'
      · exact h'
theorem mem_usesFrom {fr : Int} {g : List Op} {j : Nat} {o : Op} (hj : g[j]? = some o) (h : fr ∈ o.f1) (i : Nat) : ∃ ic, (i + j, ic) ∈ usesFrom fr g i := by
  induction g generalizing i j with
  | nil => simp at hj
  | cons y g ih =>
    rw [usesFrom]
    cases j with
    | zero =>
      simp at hj
      subst hj
      obtain ⟨ic, h'⟩ := mem_insAt (i := i) h 0
      exact ⟨ic, List.mem_append_left _ h'⟩
    | succ j =>
      obtain ⟨ic, h'⟩ := ih (j := j) (by simpa using hj) (i + 1)
      rw [show i + 1 + j = i + (j + 1) by omega] at h'
      exact ⟨ic, List.mem_append_right _ h'⟩
theorem mem_usesOf {fr : Int} {g : List Op} {j : Nat} {o : Op} (hj : g[j]? = some o) (h : fr ∈ o.f1) : ∃ ic, (j, ic) ∈ usesOf g fr := by
  obtain ⟨ic, h'⟩ := mem_usesFrom hj h 0
  exact ⟨ic, by simpa [usesOf] using h'⟩
theorem uses_lt {g : List Op} (h : okg g = true) (a : Nat) : ∀ i ic, (i, ic) ∈ usesOf g (a : Int) → a < i ∧ i < g.length := by
  intro i ic hm
  obtain ⟨o, ho, hx⟩ := usesOf_mem hm
  have := okg_in h ho _ hx
  exact ⟨by simp only at this; omega, (List.getElem?_eq_some_iff.1 ho).1⟩
theorem reachF_fuel {g : List Op} (h : okg g = true) (a : Int) : ∀ (b m : Nat), b < g.length → b + 1 ≤ m → reachF g m a (b : Int) = reachF g (b + 1) a (b : Int) := by
  intro b
  induction b using Nat.strongRecOn with
  | _ b ih =>
    intro m hb hm
    obtain ⟨m, rfl⟩ : ∃ m', m = m' + 1 := ⟨m - 1, by omega⟩
    rw [reachF, reachF]
    split
    · rfl
    · split
      · rfl
      · have hin := okg_in h (opAt_get hb)
        rw [Bool.eq_iff_iff, List.any_eq_true, List.any_eq_true]
        constructor
        all_goals
          rintro ⟨x, hx, hr⟩
          obtain ⟨h0, h1⟩ := hin x hx
          obtain ⟨y, rfl⟩ := Int.eq_ofNat_of_zero_le h0
          refine ⟨_, hx, ?_⟩
          rw [ih y (by omega) _ (by omega) (by omega)] at hr ⊢
          exact hr
theorem reachB_step {g : List Op} (h : okg g = true) (a : Int) {b : Nat} (hb : b < g.length) : reachB g a (b : Int) = (if a = (b : Int) then true else if (b : Int) < a then false else (opAt g (b : Int)).f1.any (fun x => reachB g a x)) := by
  unfold reachB
  rw [Int.toNat_natCast, reachF]
  split
  · rfl
  · split
    · rfl
    · have hin := okg_in h (opAt_get hb)
      rw [Bool.eq_iff_iff, List.any_eq_true, List.any_eq_true]
      constructor
      all_goals
        rintro ⟨x, hx, hr⟩
        obtain ⟨h0, h1⟩ := hin x hx
        obtain ⟨y, rfl⟩ := Int.eq_ofNat_of_zero_le h0
        refine ⟨_, hx, ?_⟩
        rw [Int.toNat_natCast] at *
        rw [reachF_fuel h a y _ (by omega) (by omega)] at *
        exact hr
theorem reachB_le {g : List Op} (h : okg g = true) {a : Int} {b : Nat} (hb : b < g.length) (hr : reachB g a (b : Int) = true) : a ≤ b := by
  rw [reachB_step h a hb] at hr
  split at hr
  · omega
  · split at hr
    · cases hr
    · omega
theorem reach_step {g : List Op} (h : okg g = true) {a k : Nat} (ha : a < g.length) (hk : k < g.length) : (decide (a = k) || (usesOf g (a : Int)).any (fun x => reachB g (x.1 : Int) (k : Int))) = reachB g (a : Int) (k : Int) := by
  have hgo : ∀ (k : Nat), k < g.length → reachB g (a : Int) (k : Int) = true → a = k ∨ ∃ x ∈ usesOf g (a : Int), reachB g (x.1 : Int) (k : Int) = true := by
    intro k
    induction k using Nat.strongRecOn with
    | _ k ih =>
      intro hk hr
      rw [reachB_step h _ hk] at hr
      split at hr
      · left; omega
      · split at hr
        · cases hr
        · right
          obtain ⟨x, hx, hr⟩ := List.any_eq_true.1 hr
          obtain ⟨h0, h1⟩ := okg_in h (opAt_get hk) x hx
          obtain ⟨y, rfl⟩ := Int.eq_ofNat_of_zero_le h0
          rcases ih y (by omega) (by omega) hr with rfl | ⟨z, hz, hr'⟩
          · obtain ⟨ic, hm⟩ := mem_usesOf (opAt_get hk) hx
            refine ⟨_, hm, ?_⟩
            rw [reachB_step h _ hk, if_pos rfl]
          · refine ⟨z, hz, ?_⟩
            have hle := reachB_le h (by omega : y < g.length) hr'
            rw [reachB_step h _ hk, if_neg (by omega), if_neg (by omega)]
            exact List.any_eq_true.2 ⟨_, hx, hr'⟩
  have hback : ∀ (i ic : Nat), (i, ic) ∈ usesOf g (a : Int) → ∀ (k : Nat), k < g.length → reachB g (i : Int) (k : Int) = true → reachB g (a : Int) (k : Int) = true := by
    intro i ic hm k
    obtain ⟨o, ho, hao⟩ := usesOf_mem hm
    obtain ⟨hai, hin⟩ := uses_lt h a i ic hm
    induction k using Nat.strongRecOn with
    | _ k ih =>
      intro hk hr
      have hle := reachB_le h hk hr
      rw [reachB_step h _ hk] at hr
      rw [reachB_step h _ hk, if_neg (by omega), if_neg (by omega)]
      split at hr
      · obtain rfl : i = k := by omega
        have : o = opAt g (i : Int) := by
          have := opAt_get hin
          simp only at ho
          rw [ho] at this
          exact Option.some.inj this
        subst this
        refine List.any_eq_true.2 ⟨_, hao, ?_⟩
        rw [reachB_step h _ ha, if_pos rfl]
      · rw [if_neg (by omega)] at hr
        obtain ⟨x, hx, hr⟩ := List.any_eq_true.1 hr
        obtain ⟨h0, h1⟩ := okg_in h (opAt_get hk) x hx
        obtain ⟨y, rfl⟩ := Int.eq_ofNat_of_zero_le h0
        exact List.any_eq_true.2 ⟨_, hx, ih y (by omega) (by omega) hr⟩
  rw [Bool.eq_iff_iff, Bool.or_eq_true, decide_eq_true_eq, List.any_eq_true]
  constructor
  · rintro (rfl | ⟨⟨i, ic⟩, hm, hr⟩)
    · rw [reachB_step h _ ha, if_pos rfl]
    · exact hback i ic hm k hk hr
  · intro hr
    rcases hgo k hk hr with e | ⟨x, hx, hr'⟩
    · exact .inl e
    · exact .inr ⟨x, hx, hr'⟩
end Go.Proofs.Ytiooalhfhnddjaa
end
section
set_option linter.unusedVariables false
set_option linter.unusedSimpArgs false
namespace Go
section
variable {F : Fence} {n : Nat} {P : Program} {ops : Array Oper} {md : Region.Mode} {C : World → Prop}
def wpAnyQL (F : Fence) (n : Nat) (P : Program) (md : Region.Mode) (ops : Array Oper) (C : World → Prop) (m : Nat) (Q : Act → Prop) : Nat → Array Bool → Act → Prop
  | 0, listed, a => Region.ready md ops listed = [m] ∧ Q a
  | fuel + 1, listed, a => (Region.ready md ops listed = [m] → Q a) ∧ Region.ready md ops listed ≠ [] ∧
    ∀ i ∈ Region.ready md ops listed, i ≠ m → qOpIn F n P ops C i (wpAnyQL F n P md ops C m Q fuel (listed.setIfInBounds i true)) a
theorem wpAnyQL_first {m : Nat} {Q : Act → Prop} {i : Nat} {oi : Oper} {v : Value} (him : i ≠ m) (hi : ops[i]? = some oi) (hsel : ∀ (j : Nat) (o : Oper) cs b, ops[j]? = some o → o.op ≠ .select cs b) :
    ∀ (fuel : Nat) (listed : Array Bool) (a : Act),
      (∀ j oj, ops[j]? = some oj → j ≠ i → listed.getD j true = false → (∀ e ∈ oj.after, Region.binds md e = true → e.on ≠ i) → oi.apart ops oj = true) →
      i ∈ Region.ready md ops listed → YieldsQuiet F n P ops C oi v a →
      wpAnyQL F n P md ops C m Q fuel (listed.setIfInBounds i true) (a.put oi.dst v) → wpAnyQL F n P md ops C m Q (fuel + 1) listed a := by
  intro fuel
  induction fuel with
  | zero =>
    intro listed a _ hr hy H
    refine ⟨fun h => absurd (by rw [h] at hr; simpa using hr) him, (fun h => by rw [h] at hr; cases hr), fun j hj hjm => ?_⟩
    by_cases hji : j = i
    · subst hji; exact hy.qOpIn hi H
    · have := ready_mono hj hji
      rw [H.1] at this
      exact absurd (by simpa using this) hjm
  | succ fuel ih =>
    intro listed a hfree hr hy H
    refine ⟨fun h => absurd (by rw [h] at hr; simpa using hr) him, (fun h => by rw [h] at hr; cases hr), fun j hj hjm => ?_⟩
    by_cases hji : j = i
    · subst hji; exact hy.qOpIn hi H
    · have h1 := H.2.2 j (ready_mono hj hji) hjm
      obtain ⟨hjun, oj, hoj, hall⟩ := mem_ready.1 hj
      have hnot : ∀ e ∈ oj.after, Region.binds md e = true → e.on ≠ i := fun e he hb heq => by
        have h1 := hall e he hb
        have h0 := (mem_ready.1 hr).1
        rw [heq] at h1
        rcases Nat.lt_or_ge i listed.size with h' | h'
        · simp [h'] at h0 h1; rw [h0] at h1; cases h1
        · simp [Array.getElem?_eq_none h'] at h1
      have h2 := qOpIn_put hoj (hfree j oj hoj hji hjun hnot) (fun cs b => hsel i oi cs b hi) (fun cs b => hsel j oj cs b hoj) hy h1
      have hfree' : ∀ k ok, ops[k]? = some ok → k ≠ i → (listed.setIfInBounds j true).getD k true = false →
          (∀ e ∈ ok.after, Region.binds md e = true → e.on ≠ i) → oi.apart ops ok = true := fun k ok hk hki hun hno => by
        refine hfree k ok hk hki ?_ hno
        by_cases hjk : j = k
        · subst hjk; exact hjun
        · rw [getD_set_ne true hjk] at hun; exact hun
      refine qOpIn_mono (fun a' h3 => ih (listed.setIfInBounds j true) a' hfree' (ready_mono hr (Ne.symm hji)) h3.1 ?_) h2
      rw [Array.setIfInBounds_comm _ _ hji]
      exact h3.2
def lexLast (md : Region.Mode) (ops : Array Oper) (m : Nat) : Nat → Nat → Array Bool → Bool
  | 0, _, listed => Region.ready md ops listed == [m]
  | f + 1, k, listed => k != m && (Region.ready md ops listed).contains k && Region.free md ops listed k && lexLast md ops m f (k + 1) (listed.setIfInBounds k true)
theorem wpAnyQL_lex {m : Nat} {Q : Act → Prop} (hs : Region.noSelect ops = true) : ∀ (l : List Oper) (k : Nat) (listed : Array Bool) (a : Act), (∀ j, j < l.length → l[j]? = ops[k + j]?) →
    lexLast md ops m l.length k listed = true → wpQuietIn F n P ops C Q l a → wpAnyQL F n P md ops C m Q l.length listed a
  | [], _, _, _, _, hB, h => ⟨by simpa [lexLast] using hB, h⟩
  | o :: l, k, listed, a, hl, hB, h => by
    have h0 : ops[k]? = some o := by simpa using (hl 0 (by simp)).symm
    simp only [List.length_cons, lexLast, Bool.and_eq_true, bne_iff_ne] at hB
    obtain ⟨⟨⟨hkm, hr⟩, hf⟩, hB'⟩ := hB
    have hst : qOpIn F n P ops C k (wpQuietIn F n P ops C Q l) a := by unfold qOpIn; simp only [h0]; exact h
    obtain ⟨v, hy, hK⟩ := yieldsQuiet_of_qOpIn h0 hst
    exact wpAnyQL_first hkm h0 (Region.noSelect_spec hs) l.length listed a (Region.free_spec h0 hf) (by simpa using hr) hy
      (wpAnyQL_lex hs l (k + 1) _ _ (fun j hj => by have := hl (j + 1) (by simpa using hj); simpa [Nat.add_assoc, Nat.add_comm 1 j] using this) hB' hK)
theorem Oper.wpIn_of_quiet2 {o : Oper} {a : Act} {K : Act → Prop} {K' : Act → World → Prop} {Q' : Exit → Act → World → Prop} {w : World} (hnd : ∀ c, o.op ≠ .defer c) (hw : C w) (h : ∀ a w', C w' → K a → K' a w')
    (ha : o.askedIn F P a C) (hh : o.quietIn F n P a C K) : o.wpIn F n P a w K' Q' := by
  obtain ⟨v, h1, h2⟩ := hh
  have h3 := h1 w hw
  unfold Oper.quietAtIn at h3
  unfold Oper.wpIn
  refine ⟨ha w hw, ?_⟩
  rw [Oper.semAt_eq _ _ _ hnd]
  generalize (execOp a.eval o).run P w = r at *
  cases r with
  | ok x w' =>
    cases x <;> simp only [Oper.quietUponIn] at h3 <;> simp only [Oper.uponIn]
    case value u =>
      obtain ⟨e1, e2⟩ := h3
      rw [e1, e2]
      exact h _ _ hw h2
    case skip =>
      obtain ⟨e1, e2⟩ := h3
      rw [e1, ← e2]
      exact h _ _ hw h2
    case enter f args =>
      obtain ⟨e1, hd, hc⟩ := h3
      rw [e1]
      exact ⟨hd, hc.mono fun e w'' ⟨he, hw''⟩ => by subst he; exact h _ _ hw'' h2⟩
  | halt x w' => simp only [Oper.quietUponIn] at h3
theorem wpOpIn_of_qOpIn2 {i : Nat} {a : Act} {K : Act → Prop} {K' : Act → World → Prop} {Q' : Exit → Act → World → Prop} {w : World} (hnd : ∀ (j : Nat) (o : Oper), ops[j]? = some o → ∀ c, o.op ≠ .defer c) (hC : C w) (h : ∀ a w', C w' → K a → K' a w')
    (hh : qOpIn F n P ops C i K a) : wpOpIn F n P ops Q' i K' a w := by
  unfold qOpIn at hh
  unfold wpOpIn
  split
  · rename_i ho; simp only [ho] at hh; exact h _ _ hC hh
  · rename_i o ho
    simp only [ho] at hh
    obtain ⟨ha, hh⟩ := hh
    split
    · rename_i hw; simp only [hw, if_true] at hh; exact Oper.wpIn_of_quiet2 (hnd i o ho) hC h ha hh
    · rename_i hw; simp only [hw] at hh; exact ⟨ha w hC, h _ _ hC hh⟩
theorem wpAnyIn_of_last {m : Nat} {Q : Act → Prop} {Q' : Exit → Act → World → Prop} (hnd : ∀ (j : Nat) (o : Oper), ops[j]? = some o → ∀ c, o.op ≠ .defer c) (hm : ∀ l, m ∈ Region.ready md ops l → Region.ready md ops l = [m] ∧ Region.ready md ops (l.setIfInBounds m true) = [])
    (hQ : ∀ a w, C w → Q a → wpOpIn F n P ops Q' m (Q' .normal) a w) : ∀ (fuel : Nat) (listed : Array Bool) (a : Act) (w : World), C w →
    wpAnyQL F n P md ops C m Q fuel listed a → wpAnyIn F n P md ops Q' (fuel + 1) listed a w
  | 0, listed, a, w, hw, h => by
    refine ⟨fun h0 => (by rw [h.1] at h0; cases h0), fun i hi => ?_⟩
    rw [h.1] at hi
    obtain rfl : i = m := by simpa using hi
    have hr : i ∈ Region.ready md ops listed := by rw [h.1]; simp
    exact wpOpIn_mono (fun a' w' h' => wpAnyIn_done (hm listed hr).2 h' _) (hQ a w hw h.2)
  | fuel + 1, listed, a, w, hw, h => by
    refine ⟨fun h0 => absurd h0 h.2.1, fun i hi => ?_⟩
    by_cases him : i = m
    · subst him
      exact wpOpIn_mono (fun a' w' h' => wpAnyIn_done (hm listed hi).2 h' _) (hQ a w hw (h.1 (hm listed hi).1))
    · exact wpOpIn_of_qOpIn2 hnd hw (fun a' w' hw' h' => wpAnyIn_of_last hnd hm hQ fuel _ a' w' hw' h') (h.2.2 i hi him)
def waitsAll (md : Region.Mode) (ops : Array Oper) (m : Nat) (o : Oper) : Bool := ops.size == m + 1 && (List.range m).all fun j => o.after.any fun e => Region.binds md e && e.on == j
theorem ready_last {m : Nat} {o : Oper} (ho : ops[m]? = some o) (h : waitsAll md ops m o = true) (l : Array Bool) (hr : m ∈ Region.ready md ops l) : Region.ready md ops l = [m] ∧ Region.ready md ops (l.setIfInBounds m true) = [] := by
  simp only [waitsAll, Bool.and_eq_true, beq_iff_eq, List.all_eq_true, List.mem_range] at h
  obtain ⟨hsz, hall⟩ := h
  obtain ⟨hmu, o', ho', haf⟩ := mem_ready.1 hr
  rw [ho] at ho'
  cases ho'
  have hlisted : ∀ j, j < m → l.getD j true ≠ false := by
    intro j hj hju
    obtain ⟨i, hi, hbe⟩ := Array.any_eq_true.1 (hall j hj)
    simp only [Bool.and_eq_true, beq_iff_eq] at hbe
    obtain ⟨hb, he⟩ := hbe
    have h1 := haf _ (Array.getElem_mem hi) hb
    rw [he] at h1
    rcases Nat.lt_or_ge j l.size with h' | h'
    · simp [h'] at hju h1; rw [hju] at h1; cases h1
    · simp [Array.getElem?_eq_none h'] at h1
  have hsub : ∀ j, j ∈ Region.ready md ops l → j = m := by
    intro j hj
    obtain ⟨hju, oj, hoj, _⟩ := mem_ready.1 hj
    have hjs := (Array.getElem?_eq_some_iff.1 hoj).1
    rcases Nat.lt_or_ge j m with h1 | h1
    · exact absurd hju (hlisted j h1)
    · omega
  constructor
  · have hnd : (Region.ready md ops l).Nodup := by
      unfold Region.ready
      exact List.Nodup.sublist List.filter_sublist List.nodup_range
    match hl : Region.ready md ops l with
    | [] => rw [hl] at hr; cases hr
    | [x] => rw [hsub x (by rw [hl]; simp)]
    | x :: y :: r =>
      rw [hl] at hnd
      have hx := hsub x (by rw [hl]; simp)
      have hy := hsub y (by rw [hl]; simp)
      rw [hx, hy] at hnd
      simp at hnd
  · rw [List.eq_nil_iff_forall_not_mem]
    intro j hj
    obtain ⟨hju, oj, hoj, _⟩ := mem_ready.1 hj
    have hjs := (Array.getElem?_eq_some_iff.1 hoj).1
    rcases Nat.lt_or_ge j m with h1 | h1
    · rw [getD_set_ne true (by omega)] at hju
      exact hlisted j h1 hju
    · obtain rfl : j = m := by omega
      have hlt : j < l.size := by
        rcases Nat.lt_or_ge j l.size with h' | h'
        · exact h'
        · simp [Array.getElem?_eq_none h'] at hmu
      simp [hlt] at hju
def noDefer (ops : Array Oper) : Bool := ops.all fun o => match o.op with | .defer _ => false | _ => true
theorem noDefer_spec (h : noDefer ops = true) (j : Nat) (o : Oper) (hj : ops[j]? = some o) : ∀ c, o.op ≠ .defer c := by
  intro c e
  unfold noDefer at h
  rw [Array.all_eq_true] at h
  obtain ⟨hlt, rfl⟩ := Array.getElem?_eq_some_iff.1 hj
  have := h j hlt
  rw [e] at this
  cases this
theorem wpIn_region_last {id : Nat} {Q : Exit → Act → World → Prop} {a : Act} {w : World} {l : List Oper} (m : Nat) {o : Oper} (hsz : l.toArray.size = m + 1) (hom : l.toArray[m]? = some o) (hm : P.follows .mixedOrders = true) (hs : Region.noSelect l.toArray = true) (hnd : noDefer l.toArray = true)
    (hB : lexLast .any l.toArray m m 0 (Array.replicate (m + 1) false) = true) (hW : waitsAll .any l.toArray m o = true) (hg : o.guard = none)
    (h : wpQuietIn F n P l.toArray (fun w' => ∃ n, w' = w.drewN n) (fun a' => ∀ w', (∃ n, w' = w.drewN n) → wpListIn F n P l.toArray Q [o] a' w') (l.take m) a) : (Code.region id l.toArray true).wpIn F n P Q a w := by
  have hrl := ready_last (md := .any) hom hW
  refine wpIn_region_any hm ?_
  rw [hsz]
  have hlm : (l.take m).length = m := by simp at hsz; simp [hsz]
  have := wpAnyQL_lex (F := F) (n := n) (P := P) (C := fun w' => ∃ n, w' = w.drewN n) hs (l.take m) 0 (Array.replicate (m + 1) false) a (fun j hj => by rw [hlm] at hj; rw [List.getElem?_take_of_lt hj]; simp) (by rw [hlm]; exact hB) h
  rw [hlm] at this
  refine wpAnyIn_of_last (C := fun w' => ∃ n, w' = w.drewN n) (noDefer_spec hnd) hrl (fun a' w' hw' h' => ?_) m _ a _ ⟨1, rfl⟩ this
  have h2 := h' w' hw'
  unfold wpOpIn
  rw [hom]
  simp only [Region.wanted, hg, if_true]
  simpa [wpListIn, Region.wanted, hg] using h2
def Closed (md : Region.Mode) (ops : Array Oper) (l : Array Bool) : Prop := ∀ (j : Nat) (o : Oper), ops[j]? = some o → l[j]? = some true → ∀ e ∈ o.after, Region.binds md e = true → l[e.on]? = some true
theorem getD_some {l : Array Bool} {i : Nat} (h : l.getD i false = true) : l[i]? = some true := by
  rw [Array.getD_eq_getD_getElem?] at h
  cases hl : l[i]? with
  | none => rw [hl] at h; cases h
  | some b => rw [hl] at h; simp at h; rw [h]
theorem set_true {l : Array Bool} {i j : Nat} (h : l[j]? = some true) : (l.setIfInBounds i true)[j]? = some true := by
  by_cases e : i = j
  · subst e
    rw [Array.getElem?_setIfInBounds_self_of_lt (Array.getElem?_eq_some_iff.1 h).1]
  · rw [Array.getElem?_setIfInBounds_ne e]
    exact h
theorem Closed.set {l : Array Bool} (h : Closed md ops l) {i : Nat} (hr : i ∈ Region.ready md ops l) : Closed md ops (l.setIfInBounds i true) := by
  intro j o hj hl e he hb
  refine set_true ?_
  by_cases hji : i = j
  · subst hji
    obtain ⟨_, o', ho', haf⟩ := mem_ready.1 hr
    rw [hj] at ho'
    cases ho'
    exact getD_some (haf e he hb)
  · rw [Array.getElem?_setIfInBounds_ne hji] at hl
    exact h j o hj hl e he hb
theorem Closed.none (k : Nat) : Closed md ops (Array.replicate k false) := by
  intro j o hj hl
  rw [Array.getElem?_replicate] at hl
  split at hl <;> simp at hl
def deps (md : Region.Mode) (ops : Array Oper) : Nat → Nat → Nat → Bool
  | 0, _, _ => false
  | k + 1, i, j => match ops[i]? with
    | some o => o.after.any fun e => Region.binds md e && (e.on == j || deps md ops k e.on j)
    | none => false
theorem deps_true {l : Array Bool} (h : Closed md ops l) : ∀ (k i j : Nat), (∀ o, ops[i]? = some o → ∀ e ∈ o.after, Region.binds md e = true → l[e.on]? = some true) → deps md ops k i j = true → l[j]? = some true
  | 0, _, _, _, hd => by cases hd
  | k + 1, i, j, hi, hd => by
    rw [deps] at hd
    cases ho : ops[i]? with
    | none => rw [ho] at hd; cases hd
    | some o =>
      rw [ho] at hd
      obtain ⟨x, hx, hbe⟩ := Array.any_eq_true.1 hd
      simp only [Bool.and_eq_true, Bool.or_eq_true, beq_iff_eq] at hbe
      have h1 := hi o ho _ (Array.getElem_mem hx) hbe.1
      rcases hbe.2 with h2 | h2
      · rw [h2] at h1; exact h1
      · exact deps_true h k _ j (fun o' ho' => h _ o' ho' h1) h2
theorem wpAnyIn_of_last2 {m : Nat} {Q : Act → Prop} {Q' : Exit → Act → World → Prop} (hnd : ∀ (j : Nat) (o : Oper), ops[j]? = some o → ∀ c, o.op ≠ .defer c)
    (hm : ∀ l : Array Bool, Closed md ops l → l[m]? = some false → l[m + 1]? = some false → m ∈ Region.ready md ops l → Region.ready md ops l = [m] ∧ Region.ready md ops (l.setIfInBounds m true) = [m + 1] ∧ Region.ready md ops ((l.setIfInBounds m true).setIfInBounds (m + 1) true) = [])
    (hm2 : ∀ l : Array Bool, l[m]? = some false → m + 1 ∉ Region.ready md ops l)
    (hQ : ∀ a w, C w → Q a → wpOpIn F n P ops Q' m (wpOpIn F n P ops Q' (m + 1) (Q' .normal)) a w) : ∀ (fuel : Nat) (listed : Array Bool) (a : Act) (w : World), Closed md ops listed → listed[m]? = some false → listed[m + 1]? = some false → C w →
    wpAnyQL F n P md ops C m Q fuel listed a → wpAnyIn F n P md ops Q' (fuel + 1 + 1) listed a w := by
  have step : ∀ (fuel : Nat) (listed : Array Bool) (a : Act) (w : World), Closed md ops listed → listed[m]? = some false → listed[m + 1]? = some false → m ∈ Region.ready md ops listed → C w → Q a → wpOpIn F n P ops Q' m (wpAnyIn F n P md ops Q' (fuel + 1) (listed.setIfInBounds m true)) a w := by
    intro fuel listed a w u0 u1 u2 hr hw hq
    have h3 := hm listed u0 u1 u2 hr
    refine wpOpIn_mono (fun a' w' h' => ?_) (hQ a w hw hq)
    refine ⟨fun h0 => (by rw [h3.2.1] at h0; cases h0), fun i hi => ?_⟩
    rw [h3.2.1] at hi
    obtain rfl : i = m + 1 := by simpa using hi
    exact wpOpIn_mono (fun a'' w'' h'' => wpAnyIn_done h3.2.2 h'' _) h'
  intro fuel
  induction fuel with
  | zero =>
    intro listed a w u0 u1 u2 hw h
    refine ⟨fun h0 => (by rw [h.1] at h0; cases h0), fun i hi => ?_⟩
    rw [h.1] at hi
    obtain rfl : i = m := by simpa using hi
    exact step 0 listed a w u0 u1 u2 (by rw [h.1]; simp) hw h.2
  | succ fuel ih =>
    intro listed a w u0 u1 u2 hw h
    refine ⟨fun h0 => absurd h0 h.2.1, fun i hi => ?_⟩
    by_cases him : i = m
    · subst him
      exact step (fuel + 1) listed a w u0 u1 u2 hi hw (h.1 (hm listed u0 u1 u2 hi).1)
    · have him2 : i ≠ m + 1 := fun e => hm2 listed u1 (e ▸ hi)
      exact wpOpIn_of_qOpIn2 hnd hw (fun a' w' hw' h' => ih _ a' w' (u0.set hi) (by rw [Array.getElem?_setIfInBounds_ne him]; exact u1) (by rw [Array.getElem?_setIfInBounds_ne him2]; exact u2) hw' h') (h.2.2 i hi him)
def waitsTwo (md : Region.Mode) (ops : Array Oper) (m : Nat) (o o2 : Oper) : Bool :=
  ops.size == m + 1 + 1 && ((List.range m).all fun j => deps md ops (m + 1) m j) && (o2.after.any fun e => Region.binds md e && e.on == m) && (o2.after.all fun e => decide (e.on < m + 1))
theorem ready_single {m : Nat} {l : Array Bool} (hr : m ∈ Region.ready md ops l) (hsub : ∀ j, j ∈ Region.ready md ops l → j = m) : Region.ready md ops l = [m] := by
  have hnd : (Region.ready md ops l).Nodup := by
    unfold Region.ready
    exact List.Nodup.sublist List.filter_sublist List.nodup_range
  match hl : Region.ready md ops l with
  | [] => rw [hl] at hr; cases hr
  | [x] => rw [hsub x (by rw [hl]; simp)]
  | x :: y :: r =>
    rw [hl] at hnd
    have hx := hsub x (by rw [hl]; simp)
    have hy := hsub y (by rw [hl]; simp)
    rw [hx, hy] at hnd
    simp at hnd
theorem not_two {m : Nat} {o o2 : Oper} (ho2 : ops[m + 1]? = some o2) (h : waitsTwo md ops m o o2 = true) (l : Array Bool) (u1 : l[m]? = some false) : m + 1 ∉ Region.ready md ops l := by
  intro hr
  simp only [waitsTwo, Bool.and_eq_true] at h
  obtain ⟨_, o', ho', haf⟩ := mem_ready.1 hr
  rw [ho2] at ho'
  cases ho'
  obtain ⟨i, hi, hbe⟩ := Array.any_eq_true.1 h.1.2
  simp only [Bool.and_eq_true, beq_iff_eq] at hbe
  have h1 := haf _ (Array.getElem_mem hi) hbe.1
  rw [hbe.2] at h1
  simp [u1] at h1
theorem ready_two {m : Nat} {o o2 : Oper} (ho : ops[m]? = some o) (ho2 : ops[m + 1]? = some o2) (h : waitsTwo md ops m o o2 = true) (l : Array Bool) (u0 : Closed md ops l) (u1 : l[m]? = some false) (u2 : l[m + 1]? = some false) (hr : m ∈ Region.ready md ops l) :
    Region.ready md ops l = [m] ∧ Region.ready md ops (l.setIfInBounds m true) = [m + 1] ∧ Region.ready md ops ((l.setIfInBounds m true).setIfInBounds (m + 1) true) = [] := by
  have hno := not_two ho2 h l u1
  simp only [waitsTwo, Bool.and_eq_true, beq_iff_eq, List.all_eq_true, List.mem_range] at h
  obtain ⟨⟨⟨hsz, hall⟩, _⟩, hlt2⟩ := h
  obtain ⟨hmu, o', ho', haf⟩ := mem_ready.1 hr
  rw [ho] at ho'
  cases ho'
  have hms : m + 1 < l.size := (Array.getElem?_eq_some_iff.1 u2).1
  have hlisted : ∀ j, j < m → l[j]? = some true := fun j hj =>
    deps_true u0 (m + 1) m j (fun o1 ho1 e he hb => by rw [ho] at ho1; cases ho1; exact getD_some (haf e he hb)) (hall j hj)
  have hlt : ∀ (l' : Array Bool) j, j ∈ Region.ready md ops l' → j < m + 1 + 1 ∧ l'.getD j true = false := by
    intro l' j hj
    obtain ⟨hju, oj, hoj, _⟩ := mem_ready.1 hj
    have := (Array.getElem?_eq_some_iff.1 hoj).1
    exact ⟨by omega, hju⟩
  have hD : ∀ (l' : Array Bool) (j : Nat), l'[j]? = some true → l'.getD j true = false → False := by
    intro l' j h1 h2
    rw [Array.getD_eq_getD_getElem?, h1] at h2
    cases h2
  refine ⟨ready_single hr (fun j hj => ?_), ready_single ?_ (fun j hj => ?_), ?_⟩
  · obtain ⟨h1, h2⟩ := hlt l j hj
    rcases Nat.lt_or_ge j m with h3 | h3
    · exact (hD l j (hlisted j h3) h2).elim
    · rcases Nat.eq_or_lt_of_le h3 with h4 | h4
      · exact h4.symm
      · obtain rfl : j = m + 1 := by omega
        exact absurd hj hno
  · refine mem_ready.2 ⟨by rw [Array.getD_eq_getD_getElem?, Array.getElem?_setIfInBounds_ne (by omega), u2]; rfl, o2, ho2, fun e he hb => ?_⟩
    have hem : e.on < m + 1 := by
      obtain ⟨i, hi, rfl⟩ := Array.mem_iff_getElem.1 he
      have := Array.all_eq_true.1 hlt2 i hi
      simpa using this
    rw [Array.getD_eq_getD_getElem?]
    rcases Nat.lt_or_ge e.on m with h3 | h3
    · rw [Array.getElem?_setIfInBounds_ne (by omega), hlisted _ h3]; rfl
    · obtain h4 : e.on = m := by omega
      rw [h4, Array.getElem?_setIfInBounds_self_of_lt (by omega)]
      rfl
  · obtain ⟨h1, h2⟩ := hlt _ j hj
    rcases Nat.lt_or_ge j m with h3 | h3
    · exact (hD _ j (by rw [Array.getElem?_setIfInBounds_ne (by omega)]; exact hlisted j h3) h2).elim
    · rcases Nat.eq_or_lt_of_le h3 with h4 | h4
      · subst h4
        exact (hD _ _ (by rw [Array.getElem?_setIfInBounds_self_of_lt (by omega)]) h2).elim
      · omega
  · rw [List.eq_nil_iff_forall_not_mem]
    intro j hj
    obtain ⟨h1, h2⟩ := hlt _ j hj
    refine hD _ j ?_ h2
    rcases Nat.lt_or_ge j m with h3 | h3
    · rw [Array.getElem?_setIfInBounds_ne (by omega), Array.getElem?_setIfInBounds_ne (by omega)]; exact hlisted j h3
    · rcases Nat.eq_or_lt_of_le h3 with h4 | h4
      · subst h4
        rw [Array.getElem?_setIfInBounds_ne (by omega), Array.getElem?_setIfInBounds_self_of_lt (by omega)]
      · obtain rfl : j = m + 1 := by omega
        rw [Array.getElem?_setIfInBounds_self_of_lt (by rw [Array.size_setIfInBounds]; omega)]
theorem wpIn_region_last2 {id : Nat} {Q : Exit → Act → World → Prop} {a : Act} {w : World} {l : List Oper} (m : Nat) {o o2 : Oper} (hsz : l.toArray.size = m + 1 + 1) (hom : l.toArray[m]? = some o) (hom2 : l.toArray[m + 1]? = some o2) (hm : P.follows .mixedOrders = true) (hs : Region.noSelect l.toArray = true) (hnd : noDefer l.toArray = true)
    (hB : lexLast .any l.toArray m m 0 (Array.replicate (m + 1 + 1) false) = true) (hW : waitsTwo .any l.toArray m o o2 = true) (hg : o.guard = none) (hg2 : o2.guard = none)
    (h : wpQuietIn F n P l.toArray (fun w' => ∃ n, w' = w.drewN n) (fun a' => ∀ w', (∃ n, w' = w.drewN n) → wpListIn F n P l.toArray Q [o, o2] a' w') (l.take m) a) : (Code.region id l.toArray true).wpIn F n P Q a w := by
  refine wpIn_region_any hm ?_
  rw [hsz]
  have hlm : (l.take m).length = m := by rw [List.length_take]; simp at hsz; omega
  have := wpAnyQL_lex (F := F) (n := n) (P := P) (C := fun w' => ∃ n, w' = w.drewN n) hs (l.take m) 0 (Array.replicate (m + 1 + 1) false) a (fun j hj => by rw [hlm] at hj; rw [List.getElem?_take_of_lt hj]; simp) (by rw [hlm]; exact hB) h
  rw [hlm] at this
  refine wpAnyIn_of_last2 (C := fun w' => ∃ n, w' = w.drewN n) (noDefer_spec hnd) (ready_two hom hom2 hW) (fun l u1 => not_two hom2 hW l u1) (fun a' w' hw' h' => ?_) m _ a _ (Closed.none _) (by rw [Array.getElem?_replicate, if_pos (by omega)]) (by rw [Array.getElem?_replicate, if_pos (by omega)]) ⟨1, rfl⟩ this
  have h2 := h' w' hw'
  unfold wpOpIn
  rw [hom, hom2]
  simp only [Region.wanted, hg, hg2, if_true]
  simpa [wpListIn, Region.wanted, hg, hg2] using h2
end
end Go
end
section
set_option linter.unusedSimpArgs false
namespace Go.Proofs.Ytiooalhfhnddjaa
open Go.RowKit Go.Shelf Go.Proofs.Ytiooalhfhnddjaa.MM Go.Proofs.Ytiooalhfhnddjaa.PX Go.Proofs.YtiooalhfhnddjaaW.PrintWords
attribute [local go_sem] Oper.semAt_some
set_option linter.unusedVariables false
theorem Check_calls (w : World) (A : Option Addr) (c : Nat) (g : List Op) (hr : Kd.C kOp w A g.length g) (hc : g.length ≤ c) :
    Calls Try.prog 74 #[.agg #[.slice A g.length c]] w fun e w' => e = .returned (.tuple #[.int .i64 (chk g).1, .int .i64 (chk g).2]) ∧ Below w.heap.size w w' := by
  obtain ⟨k, hk⟩ := graph_Check_is g
  exact graph_Check.calls k A c g _ _ w hr hc hk
theorem K_of {K : Act → World → Prop} {L : Array Value} {Df : List Deferred} {W : World} (h : ∀ u : Nat → Value, u = (fun i => L.getD i undef) → K ⟨L, Df⟩ W) : K ⟨L, Df⟩ W := h _ rfl
set_option pp.deepTerms true in
set_option pp.maxSteps 100000 in
set_option maxRecDepth 100000 in
set_option maxHeartbeats 0 in
theorem Reaches_calls (w : World) (A : Option Addr) (c : Nat) (g : List Op) (hr : Kd.C kOp w A g.length g) (hc : g.length ≤ c) (hil : ∀ o ∈ g, o.f1.length ≤ 1000000000) :
    Calls Try.prog 53 #[.agg #[.slice A g.length c]] w fun e w' => ∃ v, e = .returned v ∧ Kd.R kRow 125 w' w.heap.size (fun _ => True) v (if okg g then waysOf g else []) ∧ Below w.heap.size w w' := by
  refine (callsIn_wide (n := 6)).1 ?_
  refine callsIn_of_wp_marks Try.func53 rfl trivial ?_ rfl
  simp only [Try.ntmps53, List.size_toArray, List.length_cons, List.length_nil, Nat.reduceAdd, Nat.reduceSub, Array.replicate_succ, Array.replicate_zero, List.push_toArray, List.append_toArray, List.nil_append, List.cons_append]
  have hr0 := Kd.C_below hr (below_alloc (Below.refl _ w) (.cells #[.slice A g.length c] 24))
  have htr : Fence.wide.fn 74 := trivial
  have hok2 := chk_two g
  have hcc := Check_calls _ A c g hr0 hc
  obtain ⟨b, hb⟩ : ∃ b, b = okg g := ⟨_, rfl⟩
  have hbe : b = ((chk g).2 == 0) := hb
  have HLEN := Aside0.mk (@okg_len g)
  rw [← hb]
  have HB := Aside0.mk hb
  clear hb
  generalize (chk g).1 = e1, (chk g).2 = e2 at hok2 hcc hbe
  rcases hok2 with rfl | rfl | rfl
  · have hb1 : b = true := hbe
    subst hb1
    clear hbe
    have hl16 := HLEN.out HB.out.symm
    have hmk := mk_rows g.length hl16.2
    gi_wp2_with (gi_at_call 74; refine (callsIn_wide.2 hcc).mono ?_; rintro e w1 ⟨rfl, hb'⟩; have hcg : w1.cell? ⟨w.heap.size, 0, none⟩ = some (.slice A g.length c) := (hb'.cell (p := ⟨w.heap.size, 0, none⟩) (by simp)).trans (by simp))
    obtain ⟨Bn, hBn⟩ : ∃ Bn, Bn = w1.heap.size := ⟨_, rfl⟩
    rw [← hBn]
    have HBn := Aside0.mk hBn
    have hwb1 : Below w.heap.size w w1 := below_then (below_alloc (Below.refl _ w) _) (by simp) hb'
    have hgb : w1.heap[w.heap.size]? = some (.cells #[.slice A g.length c] 24 (0, 0)) := (hb'.block _ (by simp)).trans (heap_alloc_new w _)
    clear hBn
    refine wpIn_loop_num (fun m a' W => ∃ (Ba : Nat) (ds : List Nat) (rb : Nat → Nat) (M : Nat → Nat → Bool) (u : Nat → Value), a' = { tmps := #[.agg #[.slice A g.length c], .pointer (some ⟨w.heap.size, 0, none⟩), .slice none 0 0, .int .i64 e1, .int .i64 0, .pointer (some ⟨Bn, 0, none⟩), .pointer (some ⟨Bn + 1 + 1, 0, none⟩), .pointer (some ⟨Ba, 0, none⟩), u 8, u 9, .tuple #[.int .i64 e1, .int .i64 0], .agg #[.slice A g.length c], .tuple #[.int .i64 e1, .int .i64 0], .int .i64 e1, .int .i64 0, .int .i64 0, .bool false, .pointer (some ⟨w.heap.size, 0, none⟩), .slice A g.length c, .int .i64 g.length, .int .i64 g.length, .slice (some ⟨Bn + 1, 0, none⟩) g.length g.length, .int .i64 g.length, .int .i64 ((g.length : Int) - 1), u 24, u 25, u 26, u 27, u 28, u 29, u 30, u 31, u 32, u 33, u 34, u 35, u 36, u 37, u 38, u 39, u 40, u 41, u 42, u 43, u 44, u 45, u 46, u 47, u 48, u 49, u 50, u 51, u 52, u 53, u 54, u 55, u 56, u 57, u 58, u 59, u 60, u 61, u 62, u 63, u 64, u 65, u 66, u 67, u 68, u 69, u 70, u 71, u 72], defers := ds.map mark } ∧ m ≤ g.length ∧ RInv w W A c g Bn Ba m rb M ds) g.length ?h0 ?round
    case h0 =>
      refine ⟨Bn + 1 + 1 + 1, [], fun _ => 0, fun _ _ => false, fun _ => undef, rfl, Nat.le_refl _, ?_⟩
      exact RInv.start hwb1 hgb HBn.out.symm hl16
    case round =>
      rintro m a' W ⟨Ba, ds, rb, M, u, rfl, hm, hI⟩ K hK
      have k0 : W.cell? ⟨Bn + 1 + 1, 0, none⟩ = some (.slice (some ⟨Bn + 1, 0, none⟩) g.length g.length) := (cell_of_one hI.bo)
      cases m with
      | zero =>
        have k1 : W.cell? ⟨Ba, 0, none⟩ = some (.int .i64 (-1)) := (cell_of_one hI.ba)
        clear hK
        gi_wp2
        refine leaves_marks (B := w.heap.size) ds W hI.nodup hI.marks ?_
        intro W' hs
        refine ⟨_, results_tmp rfl _ _ _, _, rfl, ?_, hs.below hI.below⟩
        have := (hI.mat.of_blocks (fun k cs t h => hs.cells k cs t _ h)).toR (by omega)
        have he : ((List.range g.length).map fun j => (List.range g.length).map (M j)) = waysOf g := by
          unfold waysOf
          refine List.map_congr_left (fun j hj => List.map_congr_left (fun k hk => ?_))
          exact hI.rows j (Nat.zero_le _) (List.mem_range.1 hj) k (List.mem_range.1 hk)
        rw [he] at this
        exact this
      | succ a =>
        have k1 : W.cell? ⟨Ba, 0, none⟩ = some (.int .i64 (a : Int)) := by
          have := (cell_of_one hI.ba)
          rw [show ((a + 1 : Nat) : Int) - 1 = (a : Int) by omega] at this
          exact this
        have k2 : W.cell? ⟨Bn, 0, none⟩ = some (.int .i64 (g.length : Int)) := (cell_of_one hI.bn)
        have k3 : W.cell? ⟨Bn + 1, a, none⟩ = some (.slice none 0 0) := by
          have := hI.mat.cell_outer (j := a) (by omega)
          rw [if_pos (by omega)] at this
          exact this
        have k4 := hI.mat.free_outer a
        have s1 : Ba < W.heap.size := World.block_lt_of_cell? _ _ k1
        have s2 : Bn + 1 < W.heap.size := World.block_lt_of_cell? _ _ k3
        have s4 : Bn + 1 + 1 < W.heap.size := World.block_lt_of_cell? _ _ k0
        have s5 : Bn < W.heap.size := by omega
        have hmk2 := mk_row g.length hl16.2
        have ha1 : a < g.length := by omega
        have ha2 : (0 : Int) ≤ (a : Int) := by omega
        have ha3 : (a : Int) < (g.length : Int) := by omega
        have hlt : ∀ i ic, (i, ic) ∈ usesOf g (a : Int) → a < i ∧ i < g.length := uses_lt HB.out.symm a
        have hs3 : Bn + 1 ≠ W.heap.size := by omega
        gi_wp2
        gi_region
        have hM0 := hI.next ha1
        have hs0 : W.heap.size < ((W.setCell ⟨Bn + 1, a, none⟩ (.slice (some ⟨W.heap.size, 0, none⟩) g.length g.length)).alloc (.cells (rowCells g.length fun _ => false) 4)).drew.heap.size := by simp
        generalize ((W.setCell ⟨Bn + 1, a, none⟩ (.slice (some ⟨W.heap.size, 0, none⟩) g.length g.length)).alloc (.cells (rowCells g.length fun _ => false) 4)).drew = W2 at hM0 hs0 ⊢
        have hf0 : ∀ k, (fun i => if i = a then fun _ => false else M i) a k = false := fun k => by simp
        generalize (fun i => if i = a then fun _ => false else M i) = M2 at hM0 hf0
        have hrs : (fun i => if i = a then W.heap.size else rb i) a = W.heap.size := by simp
        generalize (fun i => if i = a then W.heap.size else rb i) = rb2 at hM0 hrs
        have HRS := Aside0.mk hrs
        have HF0 := Aside0.mk hf0
        clear hrs hf0 k0 k1 k2 k3 k4 s1 s2 s4 s5 hmk2 hs3
        have j0 : W2.cell? ⟨Bn + 1 + 1, 0, none⟩ = some (.slice (some ⟨Bn + 1, 0, none⟩) g.length g.length) := cell_of_one hM0.bo
        have j1 : W2.cell? ⟨Ba, 0, none⟩ = some (.int .i64 (a : Int)) := cell_of_one hM0.ba
        have j2 := hM0.mat.cell_row (Nat.le_refl a) ha1
        have j3 := hM0.mat.cell (Nat.le_refl a) ha1 ha1
        have j4 := hM0.mat.free (Nat.le_refl a) ha1 a
        gi_wp2
        gi_region
        have hM1 : RMid w (W2.setCell ⟨rb2 a, a, none⟩ (.bool true)).drew A c g Bn Ba a rb2 (fun i => if i = a then fun x => if x = a then true else M2 a x else M2 i) ds := (hM0.put ha1 (k := a) true).of_blocks (fun _ _ _ _ => rfl) (fun _ _ => rfl) (below_drew (hM0.put ha1 (k := a) true).below)
        have hs1 : W.heap.size < (W2.setCell ⟨rb2 a, a, none⟩ (.bool true)).drew.heap.size := by simp [World.setCell]; exact hs0
        generalize (W2.setCell ⟨rb2 a, a, none⟩ (.bool true)).drew = W3 at hM1 hs1 ⊢
        have hf1 : ∀ k, (fun i => if i = a then fun x => if x = a then true else M2 a x else M2 i) a k = decide (a = k) := fun k => by
          simp only [if_true, HF0.out]
          by_cases e : k = a
          · simp [e]
          · simp [e, Ne.symm e]
        generalize (fun i => if i = a then fun x => if x = a then true else M2 a x else M2 i) = M3 at hM1 hf1
        have HF1 := Aside0.mk hf1
        clear hf1 HF0 j0 j1 j2 j3 j4 hM0 hs0
        have l0 : W3.cell? ⟨w.heap.size, 0, none⟩ = some (.slice A g.length c) := cell_of_one hM1.bg
        have l1 : W3.cell? ⟨Ba, 0, none⟩ = some (.int .i64 (a : Int)) := cell_of_one hM1.ba
        have htu : Fence.wide.fn 90 := trivial
        gi_wp2_with (gi_at_call 90; refine (Uses_in Fence.wide _ trivial rfl A g.length c (a : Int) W3).mono ?_; rintro e w' ⟨rfl, rfl⟩)
        obtain ⟨W4, hW4⟩ : ∃ W4, W4 = (W3.alloc (.cells #[.slice A g.length c] 24)).alloc (.cells #[.int .i64 (a : Int)] 3) := ⟨_, rfl⟩
        rw [← hW4]
        have hM4 : RMid w W4 A c g Bn Ba a rb2 M3 ds := by rw [hW4]; exact (hM1.alloc _).alloc _
        have s4 : W4.heap.size = W3.heap.size + 1 + 1 := by rw [hW4]; simp
        have q0 : W4.cell? ⟨W3.heap.size, 0, none⟩ = some (.slice A g.length c) := by rw [hW4]; simp
        have q1 : W4.cell? ⟨W3.heap.size + 1, 0, none⟩ = some (.int .i64 (a : Int)) := by
          have := heap_alloc_new (W3.alloc (.cells #[.slice A g.length c] 24)) (.cells #[.int .i64 (a : Int)] 3)
          rw [World.size_alloc] at this
          rw [hW4]
          exact cell_of_one this
        have hds4 : ∀ D ∈ ds, D < W4.heap.size := fun D hD => (Array.getElem?_eq_some_iff.1 (hM4.marks D hD).2).1
        have hra := (hM4.mat.row a (Nat.le_refl _) ha1).1
        clear hW4 l0 l1
        refine wpIn_rangeFunc_ownF rfl (by omega) (gf := 124) (lb := #[.pointer (some ⟨W3.heap.size, 0, none⟩), .pointer (some ⟨W3.heap.size + 1, 0, none⟩)]) rfl trivial (enters_of Try.func124 (by kernel_rfl) rfl)
          (Uses_stops Fence.wide _ trivial rfl (by omega) W3.heap.size (W3.heap.size + 1) (fun k => k < w.heap.size ∨ k = W3.heap.size ∨ k = W3.heap.size + 1) w W4 A c g (a : Int) hr (by omega) hil (fun k hk => .inl hk) (.inr (.inl rfl)) (.inr (.inr rfl)) (fun k hk => by have := hM4.below.size; omega) (fun k hk => hM4.below.block k hk) q0 q1)
          (fun h1 h2 k hk => (h2 k hk).trans (h1 k hk)) (fun V l o o' hl ho _ _ k hk => World.putObj_heap_other (by have := hM4.below.size; omega)) (Below.refl _ _) (fun _ => rfl)
          (fun pre V => ∃ M, RMid w V A c g Bn Ba a rb2 M ds ∧ ∀ k, k < g.length → M a k = (decide (a = k) || pre.any (fun x => reachB g (x.1.1 : Int) (k : Int)))) (fun _ _ _ => False)
          ?_ (fun _ _ _ _ _ h _ _ => h) ⟨M3, hM4, fun k _ => by rw [HF1.out]; simp⟩
          (fun x => { tmps := #[.agg #[.slice A g.length c], .pointer (some ⟨w.heap.size, 0, none⟩), .slice none 0 0, .int .i64 e1, .int .i64 0, .pointer (some ⟨Bn, 0, none⟩), .pointer (some ⟨Bn + 1 + 1, 0, none⟩), .pointer (some ⟨Ba, 0, none⟩), .int .i64 (x.1.1 : Int), u 9, .tuple #[.int .i64 e1, .int .i64 0], .agg #[.slice A g.length c], .tuple #[.int .i64 e1, .int .i64 0], .int .i64 e1, .int .i64 0, .int .i64 0, .bool false, .pointer (some ⟨w.heap.size, 0, none⟩), .slice A g.length c, .int .i64 g.length, .int .i64 g.length, .slice (some ⟨Bn + 1, 0, none⟩) g.length g.length, .int .i64 g.length, .int .i64 ((g.length : Int) - 1), .int .i64 (a : Int), .bool true, u 26, u 27, .slice (some ⟨Bn + 1, 0, none⟩) g.length g.length, .int .i64 (a : Int), .int .i64 g.length, .slice (some ⟨W.heap.size, 0, none⟩) g.length g.length, .pointer (some ⟨Bn + 1, a, none⟩), .slice (some ⟨Bn + 1, 0, none⟩) g.length g.length, .int .i64 (a : Int), .pointer (some ⟨Bn + 1, a, none⟩), .slice (some ⟨rb2 a, 0, none⟩) g.length g.length, .int .i64 (a : Int), .pointer (some ⟨rb2 a, a, none⟩), .agg #[.slice A g.length c], .int .i64 (a : Int), .func (.func 124) #[] #[.pointer (some ⟨W3.heap.size, 0, none⟩), .pointer (some ⟨W3.heap.size + 1, 0, none⟩)], .int .i64 (x.1.1 : Int), .int .i64 (x.1.2 : Int), u 44, u 45, u 46, u 47, u 48, u 49, u 50, u 51, u 52, u 53, u 54, u 55, u 56, u 57, u 58, u 59, u 60, u 61, u 62, u 63, u 64, u 65, u 66, u 67, u 68, u 69, u 70, u 71, u 72], defers := [] }) ?assign ?body ?done ?stop
        · rintro pre V V' row ⟨M, h1, h2⟩ hg' hr'
          exact ⟨M, h1.turn hg' hr' hds4 hM4.below.size, h2⟩
        case assign =>
          intro l x V K hK'
          have hz : ∀ t : Array Value, ((#[42, 43] : Array Nat).zip (encP x.1)).foldl (fun t (p, v) => t.setIfInBounds p v) t = (t.setIfInBounds 42 (.int .i64 (x.1.1 : Int))).setIfInBounds 43 (.int .i64 (x.1.2 : Int)) := fun t => by simp [encP]
          rw [hz]
          clear hz
          gi_wp2
          exact hK'
        case stop => 
          intro D c pre V _ _ h
          exact h.elim
        case body =>
          rintro l pre ⟨⟨i, ic⟩, hx⟩ V ⟨M, hMi, hMa⟩ _
          obtain ⟨hi1, hi2⟩ := hlt i ic hx
          have z0 : V.cell? ⟨Bn, 0, none⟩ = some (.int .i64 (g.length : Int)) := cell_of_one hMi.bn
          have hMa0 := Aside0.mk hMa
          obtain ⟨P, hP⟩ : ∃ P : Nat → Bool, ∀ k, M a k = P k := ⟨_, fun _ => rfl⟩
          have HP := Aside0.mk hP
          clear hP hMa q0 q1
          dsimp only
          gi_wp2
          gi_loopw [45] (fun v45 wr => ∃ (cc : Nat) (M' : Nat → Nat → Bool), v45 = .int .i64 cc ∧ cc ≤ g.length ∧ RMid w wr A c g Bn Ba a rb2 M' ds ∧ (∀ k, M' a k = if k < cc then (P k || reachB g (i : Int) (k : Int)) else P k) ∧ KeepsOthers V wr ∧ Keep (fun k => k < w.heap.size ∨ k = W3.heap.size ∨ k = W3.heap.size + 1) V wr) (fun v _ => g.length - (intOf v).toNat)
          case atStart => exact ⟨0, M, rfl, Nat.zero_le _, hMi, fun k => by rw [if_neg (by omega)]; exact HP.out k, KeepsOthers.refl _, fun _ _ => rfl⟩
          case round =>
            obtain ⟨cc, M', rfl, hcc, hM', hMf, hko, hkk⟩ := hrel
            have HMF := Aside0.mk hMf
            clear hMf
            by_cases hlc : cc < g.length
            · have c1 : (0 : Int) ≤ (cc : Int) := by omega
              have c2 : (cc : Int) < (g.length : Int) := by omega
              have d1 : (0 : Int) ≤ (i : Int) := by omega
              have d2 : (i : Int) < (g.length : Int) := by omega
              have y0 : wr.cell? ⟨Bn + 1 + 1, 0, none⟩ = some (.slice (some ⟨Bn + 1, 0, none⟩) g.length g.length) := cell_of_one hM'.bo
              have y1 : wr.cell? ⟨Ba, 0, none⟩ = some (.int .i64 (a : Int)) := cell_of_one hM'.ba
              have y2 := hM'.mat.cell_row (Nat.le_refl a) ha1
              have y3 := hM'.mat.cell_row (j := i) (by omega) hi2
              have y4 := hM'.mat.cell (Nat.le_refl a) ha1 hlc
              have y5 := hM'.mat.cell (j := i) (by omega) hi2 hlc
              have y6 := hM'.mat.free (Nat.le_refl a) ha1 cc
              have hva : M' a cc = P cc := by rw [HMF.out, if_neg (by omega)]
              have hvi : M' i cc = reachB g (i : Int) (cc : Int) := hM'.rows i hi1 hi2 cc hlc
              obtain ⟨ba, hba⟩ : ∃ ba, ba = P cc := ⟨_, rfl⟩
              obtain ⟨bi, hbi⟩ : ∃ bi, bi = reachB g (i : Int) (cc : Int) := ⟨_, rfl⟩
              rw [hva, ← hba] at y4
              rw [hvi, ← hbi] at y5
              have HBA := Aside0.mk hba
              have HBI := Aside0.mk hbi
              clear hva hvi hba hbi
              have hrow := hM'.mat.row a (Nat.le_refl _) ha1
              have hkn : ∀ nq v, Keep (fun k => k < w.heap.size ∨ k = W3.heap.size ∨ k = W3.heap.size + 1) V ((wr.drewN nq).setCell ⟨rb2 a, cc, none⟩ (.bool v)) := fun nq v k hk => (Below.heap_setCell (wr.drewN nq) ⟨rb2 a, cc, none⟩ _ k (by have h1 := HRS.out; have h2 := hrow.1; simp only; omega)).trans (hkk k hk)
              have hkon : ∀ nq v, KeepsOthers V ((wr.drewN nq).setCell ⟨rb2 a, cc, none⟩ (.bool v)) := fun nq v => hko.trans ((show KeepsOthers wr (wr.drewN nq) from ⟨Nat.le_refl _, fun _ _ h _ => h⟩).trans (KeepsOthers.setCell (wr.drewN nq) _ _))
              have hMn := fun nq v => (hM'.drewN nq).put ha1 (k := cc) v
              have hMF' : ∀ v, v = (ba || bi) → ∀ k, (fun j => if j = a then fun x => if x = cc then v else M' a x else M' j) a k = if k < cc + 1 then (P k || reachB g (i : Int) (k : Int)) else P k := fun v hv k => by
                simp only [if_true, HMF.out]
                by_cases e : k = cc
                · subst e
                  rw [if_pos rfl, if_pos (by omega), hv, HBA.out, HBI.out]
                · rw [if_neg e]
                  by_cases e2 : k < cc
                  · rw [if_pos e2, if_pos (by omega)]
                  · rw [if_neg e2, if_neg (by omega)]
              clear hrow
              have HX := Aside0.mk (And.intro hkn (And.intro hkon (And.intro hMn hMF')))
              clear hkn hkon hMn hMF'
              cases ba
              · gi_wp2
                refine wpIn_region_last 22 (o := _) rfl rfl (by kernel_rfl) (by kernel_rfl) (by kernel_rfl) (by kernel_rfl) (by kernel_rfl) rfl ?_
                simp only [List.take_succ_cons, List.take_zero]
                repeat (gi_big_quiet_step (fail))
                refine wpQuietIn_nil ?_
                rintro w8 ⟨nq, rfl⟩
                gi_wp2
                go_roundw
                case rel => exact ⟨cc + 1, _, by go_num, by omega, HX.out.2.2.1 nq bi, (fun k => by have := HX.out.2.2.2 bi (by simp) k; simpa using this), HX.out.2.1 nq bi, HX.out.1 nq bi⟩
                case measure => simp [intOf]; omega
              · gi_wp2
                refine wpIn_region_last 22 (o := _) rfl rfl (by kernel_rfl) (by kernel_rfl) (by kernel_rfl) (by kernel_rfl) (by kernel_rfl) rfl ?_
                simp only [List.take_succ_cons, List.take_zero]
                repeat (gi_big_quiet_step (fail))
                refine wpQuietIn_nil ?_
                rintro w8 ⟨nq, rfl⟩
                gi_wp2
                go_roundw
                case rel => exact ⟨cc + 1, _, by go_num, by omega, HX.out.2.2.1 nq true, (fun k => by have := HX.out.2.2.2 true (by simp) k; simpa using this), HX.out.2.1 nq true, HX.out.1 nq true⟩
                case measure => simp [intOf]; omega
            · obtain rfl : cc = g.length := by omega
              gi_wp2
              refine ⟨hko, hkk, M', hM', fun k hk => ?_⟩
              rw [HMF.out, if_pos hk, ← HP.out k, hMa0.out k hk]
              simp [Bool.or_assoc]
        case done =>
          rintro D xs V hD hxs ⟨M, hMi, hMa⟩ hmk'
          have z1 : V.cell? ⟨Ba, 0, none⟩ = some (.int .i64 (a : Int)) := cell_of_one hMi.ba
          have z3 : Ba < V.heap.size := World.block_lt_of_cell? _ _ z1
          have z2 : V.heap.size ≠ Ba := by omega
          have hnext := hMi.done (fun k hk => by
            have hx2 := congrArg (fun l => l.any (fun x => reachB g (x.1 : Int) (k : Int))) hxs
            simp only [List.any_map] at hx2
            rw [hMa k hk, ← reach_step HB.out.symm ha1 hk, ← hx2]
            rfl) hmk' (fun h => by have := hds4 D h; omega) (by have := hM4.below.size; omega) (by have := hMi.hBa; omega)
          dsimp only
          gi_wp2
          refine K_of ?_
          rintro u' hu'
          refine hK a _ _ (Nat.lt_succ_self a) ⟨V.heap.size, D :: ds, rb2, M, u', ?_, by omega, hnext⟩
          subst hu'
          rfl
  all_goals
    have hb1 : b = false := hbe
    subst hb1
    clear hbe
    gi_wp2_with (gi_at_call 74; refine (callsIn_wide.2 hcc).mono ?_; rintro e w' ⟨rfl, hb'⟩)
    exact ⟨_, results_tmp rfl _ _ _, _, rfl, Kd.R_nil _ _ _ _ _, below_then (below_alloc (Below.refl _ w) _) (by simp) hb'⟩
end Go.Proofs.Ytiooalhfhnddjaa
end
section
set_option linter.unusedVariables false
set_option linter.unusedSimpArgs false
namespace Go.Proofs.Ytiooalhfhnddjaa
open Go.RowKit Go.Proofs.Ytiooalhfhnddjaa.MM Go.Proofs.Ytiooalhfhnddjaa.PX Go.Proofs.YtiooalhfhnddjaaW.PrintWords
theorem R_empty {α : Type} (d : Kd α) (e : Nat) (w : World) : Kd.R d e (w.alloc (.cells #[] e)) w.heap.size (fun _ => True) (.slice (some ⟨w.heap.size, 0, none⟩) 0 0) [] :=
  ⟨fun _ _ => trivial, [], World.ownsRow_made w #[] 0 (Nat.le_refl _) (Nat.zero_le _) (by simp), Reps.none _ _⟩
theorem infoInt : (Try.prog.info? 3).map (fun i => (i.zero, i.size, i.bytes)) = some (some (.int .i64 0), 1, 8) := by kernel_rfl
set_option maxRecDepth 100000 in
set_option maxHeartbeats 400000 in
theorem CloneInt_calls (w : World) (A : Option Addr) (c : Nat) (xs : List Int) (hr : Kd.C (Kd.int .i64) w A xs.length xs) (hl : xs.length ≤ 1000000000) :
    Calls Try.prog 54 #[.slice A xs.length c] w fun e w' => ∃ v, e = .returned v ∧ Kd.R (Kd.int .i64) 3 w' w.heap.size (fun _ => True) v xs ∧ Below w.heap.size w w' := by
  have he := fun w => Lib.run_eql_slice_nil (P := Try.prog) w 88 3 A xs.length c 0 0 Try.underlying88
  cases A with
  | none =>
    have h0 : xs = [] := by
      cases xs with
      | nil => rfl
      | cons x xs => obtain ⟨ad, h, _⟩ := hr.2.2 (by simp); cases h
    subst h0
    simp only [List.length_nil] at he ⊢
    go_enter Try.func54, Try.ntmps54
    go_wp2
    go_ret
    exact ⟨_, rfl, Kd.R_nil _ _ _ _ _, Below.refl _ _⟩
  | some ad =>
    go_enter Try.func54, Try.ntmps54
    go_wp2_with (at_builtin; refine Kd.R_append_rows (Kd.int .i64) (Rr := (Kd.int .i64).K w) (w0 := w) w.heap.size rfl (.tmp 5) (.tmp 6) 88 3 (.int .i64 0) 8 rfl Try.underlying88 infoInt rfl (by decide) (by omega) (.slice (some ⟨w.heap.size, 0, none⟩) 0 0) [] xs (some ad) xs.length c (fun _ => True) (fun _ => False) rfl rfl ?aO ?aR ?aK (fun _ hk => hk.elim) (fun _ _ => trivial) ?aB ?aS ?aL ?_; (case aO => exact R_empty _ _ _); (case aR => exact Kd.C_below hr (below_alloc (Below.refl _ _) _)); (case aK => exact fun _ _ h => h); (case aB => exact below_alloc (Below.refl _ _) _); (case aS => simp); (case aL => simp only [List.length_nil]; omega); intro v1 w1 hR1 hb1 hg1 hat1)
    go_ret
    exact ⟨_, rfl, by simpa using hR1, hb1⟩
end Go.Proofs.Ytiooalhfhnddjaa
end
section
set_option linter.unusedVariables false
set_option linter.unusedSimpArgs false
namespace Go.Proofs.Ytiooalhfhnddjaa
open Go.RowKit Go.Proofs.Ytiooalhfhnddjaa.MM Go.Proofs.Ytiooalhfhnddjaa.PX Go.Proofs.YtiooalhfhnddjaaW.PrintWords
theorem at_rows {w : World} {A : Option Addr} {n : Nat} {xs : List (List Bool)} (h : Kd.C kRow w A n xs) (a b : Nat) {row : List Bool} {v : Bool} (ha : xs[a]? = some row) (hb : row[b]? = some v) :
    ∃ ad rad rc, A = some ad ∧ w.cell? (ad.add a) = some (.slice (some rad) row.length rc) ∧ w.cell? (rad.add b) = some (.bool v) := by
  have han : a < n := by have := (List.getElem?_eq_some_iff.1 ha).1; rw [← h.1]; exact this
  have hbn := (List.getElem?_eq_some_iff.1 hb).1
  obtain ⟨ad, c, e, _, hK, hc0⟩ := Kd.C_get h ([] : List Bool) (a : Int) (by omega) (by omega)
  have hc : ∀ j u, c[j]? = some u → w.cell? (ad.add ((a : Int).toNat * 1 + j)) = some u := hc0
  obtain ⟨A0, c0, rfl, l0, g0⟩ := hK
  have hrow : xs.getD (a : Int).toNat ([] : List Bool) = row := by simp [List.getD_eq_getElem?_getD, ha]
  rw [hrow] at g0 hc
  obtain ⟨rad, e2, h2⟩ := Kd.at_bool g0 (b : Int) (by omega) (by omega)
  subst e2
  have hv : rdOf false row (b : Int) = v := by simp [rdOf, List.getD_eq_getElem?_getD, hb]
  rw [hv] at h2
  simp only [Int.toNat_natCast] at h2 hc
  exact ⟨ad, rad, c0, e, by have hq := hc 0 _ rfl; rwa [Nat.mul_one, Nat.add_zero] at hq, h2⟩
def bars (ways : List (List Bool)) (s a : Stamp) : Bool :=
  if a.f0 = s.f0 then decide (a.f1.f0 ≤ s.f1.f0) && decide (a.f1.f1 ≤ s.f1.f1) else ((ways.getD a.f0.toNat []).getD s.f0.toNat false) && decide (a.f1.f0 ≤ s.f1.f0)
def doneB (g : List Op) (ways : List (List Bool)) (l : List (Stamp × Int)) (s : Stamp) : Bool := goodB g s && !(up l).any (bars ways s)
theorem up_mem {l : List (Stamp × Int)} {a : Stamp} (h : a ∈ up l) : ∃ n, (a, n) ∈ l ∧ 0 < n := by
  unfold up at h
  obtain ⟨q, hq, rfl⟩ := List.mem_map.1 h
  obtain ⟨h1, h2⟩ := List.mem_filter.1 hq
  exact ⟨q.2, h1, of_decide_eq_true h2⟩
def InG (n : Nat) (l : List (Stamp × Int)) : Prop := ∀ q ∈ l, 0 ≤ q.1.f0 ∧ q.1.f0 < n
def Square (n : Nat) (ways : List (List Bool)) : Prop := ways.length = n ∧ ∀ r ∈ ways, r.length = n
theorem square_at {n : Nat} {ways : List (List Bool)} (h : Square n ways) {a b : Int} (ha : 0 ≤ a ∧ a < n) (hb : 0 ≤ b ∧ b < n) : ∃ row, ways[a.toNat]? = some row ∧ row.length = n ∧ row[b.toNat]? = some ((ways.getD a.toNat []).getD b.toNat false) := by
  obtain ⟨h1, h2⟩ := h
  have hl : a.toNat < ways.length := by omega
  have hrow := List.getElem?_eq_getElem hl
  have hlen := h2 _ (List.getElem_mem hl)
  refine ⟨_, hrow, hlen, ?_⟩
  have hb' : b.toNat < ways[a.toNat].length := by omega
  simp [List.getD_eq_getElem?_getD, hrow, List.getElem?_eq_getElem hb']
theorem goodB_loc {g : List Op} {s : Stamp} (h : goodB g s = true) : 0 ≤ s.f0 ∧ s.f0 < g.length := by
  unfold goodB at h
  simp only [Bool.and_eq_true, decide_eq_true_eq] at h
  exact ⟨h.2.1, h.2.2.1⟩
theorem alive_calls2 (w : World) {base p mb : Nat} {g : List Op} {ways : List (List Bool)} {l : List (Stamp × Int)} (h : TrkAt w base p mb g ways l) (hsz : l.length ≤ 1000000000) :
    Calls Try.prog 63 #[.pointer (some ⟨p, 0, none⟩)] w fun e w' => ∃ (A : Option Addr) (c : Nat) (r : List Stamp), e = .returned (.slice A r.length c) ∧ r.length ≤ c ∧ Kd.C kStamp w' A r.length r ∧ Aside0 (r.Perm (up l)) ∧ Below w.heap.size w w' ∧ r.length ≤ 1000000000 := by
  refine (alive_calls w h hsz).mono ?_
  rintro e w' ⟨v, r, rfl, hR, hp, hb⟩
  obtain ⟨A, c, rfl, hc, hr⟩ := Kd.R_reads hR
  refine ⟨A, c, r, rfl, hc, hr, ⟨hp⟩, hb, ?_⟩
  rw [hp.length_eq]
  unfold up
  rw [List.length_map]
  exact Nat.le_trans (List.length_filter_le _ _) hsz
set_option maxRecDepth 100000 in
set_option maxHeartbeats 4000000 in
theorem Done_calls (w : World) {base p mb : Nat} {g : List Op} {ways : List (List Bool)} {l : List (Stamp × Int)} (h : TrkAt w base p mb g ways l) (hsq : Square g.length ways) (hin : InG g.length l) (hgl : g.length ≤ 1000000000) (hsz : l.length ≤ 1000000000) (s : Stamp) :
    Calls Try.prog 20 #[.pointer (some ⟨p, 0, none⟩), .agg #[.int .i64 s.f0, .int .i64 s.f1.f0, .int .i64 s.f1.f1]] w fun e w' => e = .returned (.bool (doneB g ways l s)) ∧ Below w.heap.size w w' := by
  have HT := Aside0.mk h
  obtain ⟨gv, wv, h1, h2, h3, h4, h5, h6⟩ := h
  have hpl := (Array.getElem?_eq_some_iff.1 h3).1
  obtain ⟨gA, gc, rfl, hgc, hgr⟩ := Kd.R_reads h4
  obtain ⟨wA, wc, rfl, hwc, hwr⟩ := Kd.R_reads h5
  have hc0 : w.cell? ⟨p, 0, none⟩ = some (.slice gA g.length gc) := by simp [World.cell?, h3]
  have hc1 : w.cell? ⟨p, 1, none⟩ = some (.slice wA ways.length wc) := by simp [World.cell?, h3]
  have hgW := Kd.C_below hgr (below_alloc (Below.refl _ w) (.cells #[.int .i64 s.f0, .int .i64 s.f1.f0, .int .i64 s.f1.f1] 45))
  have hwl : ways.length = g.length := hsq.1
  have HWL := Aside0.mk hwl
  have H3 := Aside0.mk h3
  clear h3 h4 h5 hwl
  go_enter Try.func20, Try.ntmps20
  go_wp2_with fail
  go_region_held3 (fun w' => w'.cell? ⟨w.heap.size, 0, none⟩ = some (.int .i64 s.f0) ∧ w'.cell? ⟨w.heap.size, 1, none⟩ = some (.int .i64 s.f1.f0) ∧ w'.cell? ⟨w.heap.size, 2, none⟩ = some (.int .i64 s.f1.f1) ∧ w'.cell? ⟨p, 0, none⟩ = some (.slice gA g.length gc))
    (first
      | go_keep
      | (go_split_ands
         refine ⟨(hb2.cell (p := ⟨w.heap.size, 0, none⟩) (by simp)).trans ‹_›, (hb2.cell (p := ⟨w.heap.size, 1, none⟩) (by simp)).trans ‹_›, (hb2.cell (p := ⟨w.heap.size, 2, none⟩) (by simp)).trans ‹_›, (hb2.cell (p := ⟨p, 0, none⟩) (by simp; omega)).trans ‹_›⟩))
    ((go_at_call 57; refine (Good_calls _ gA gc g s ?hr hgc).mono ?_; (case hr => exact Kd.C_below hgW (below_drew (Below.refl _ _))); rintro e w2 ⟨rfl, hb2⟩))
  have hbx : Below w.heap.size w w2 := below_then (below_drew (below_alloc (Below.refl _ w) _)) (by simp) hb2
  cases hg : goodB g s with
  | false =>
    clear hb2
    have hd : Aside0 (doneB g ways l s = false) := ⟨by simp [doneB, hg]⟩
    go_wp2
    go_ret
    exact ⟨by rw [hd.out]; rfl, hbx⟩
  | true =>
    have k0 : w2.cell? ⟨w.heap.size, 0, none⟩ = some (.int .i64 s.f0) := by simp_all
    have k1 : w2.cell? ⟨w.heap.size, 1, none⟩ = some (.int .i64 s.f1.f0) := by simp_all
    have k2 : w2.cell? ⟨w.heap.size, 2, none⟩ = some (.int .i64 s.f1.f1) := by simp_all
    have hszw : w.heap.size < w2.heap.size := by have := hb2.size; simp at this; omega
    have hd : Aside0 (doneB g ways l s = !(up l).any (bars ways s)) := ⟨by simp [doneB, hg]⟩
    have hloc := goodB_loc hg
    clear hb2 hgW
    have hT2 := HT.out.below hbx
    go_wp2_with (go_at_call 63; refine (alive_calls2 _ hT2 hsz).mono ?_; rintro e w3 ⟨rA, rc, r, rfl, hrc, hrr, HP, hb3, hrl⟩)
    have hb30 := below_then hbx hbx.size hb3
    replace k0 := (hb3.cell (p := ⟨w.heap.size, 0, none⟩) hszw).trans k0
    replace k1 := (hb3.cell (p := ⟨w.heap.size, 1, none⟩) hszw).trans k1
    replace k2 := (hb3.cell (p := ⟨w.heap.size, 2, none⟩) hszw).trans k2
    have hsz3 : w.heap.size < w3.heap.size := Nat.lt_of_lt_of_le hszw hb3.size
    clear hb3 hszw hT2
    go_loopg [21] r.length (fun kq v21 w4 => ∃ k : Nat, v21 = .int .i64 k ∧ k + kq = r.length ∧ Below w3.heap.size w3 w4 ∧ Aside0 (∀ a ∈ r.take k, bars ways s a = false))
    case atStart => exact ⟨0, rfl, by simp, Below.refl _ _, ⟨by simp⟩⟩
    case round =>
      obtain ⟨k, rfl, hk, hb4, HA⟩ := hrel
      have HK := Aside0.mk hk
      have hb40 := below_then hb30 hb30.size hb4
      by_cases hlt : k < r.length
      · obtain ⟨ad, e1, x0, x1, x2⟩ := at_T45 hrr (k : Int) (by omega) (by omega)
        cases e1
        simp only [Int.toNat_natCast] at x0 x1 x2
        have hx : r[k]? = some (rd_T45 r k) := by
          unfold rd_T45
          simp [List.getD_eq_getElem?_getD, hlt]
        generalize rd_T45 r k = x at x0 x1 x2 hx
        have HX := Aside0.mk hx
        replace x0 := (hb4.cell (World.block_lt_of_cell? w3 _ x0)).trans x0
        replace x1 := (hb4.cell (World.block_lt_of_cell? w3 _ x1)).trans x1
        replace x2 := (hb4.cell (World.block_lt_of_cell? w3 _ x2)).trans x2
        replace k0 := (hb4.cell (p := ⟨w.heap.size, 0, none⟩) hsz3).trans k0
        replace k1 := (hb4.cell (p := ⟨w.heap.size, 1, none⟩) hsz3).trans k1
        replace k2 := (hb4.cell (p := ⟨w.heap.size, 2, none⟩) hsz3).trans k2
        have hc1' := (hb40.cell (World.block_lt_of_cell? w _ hc1)).trans hc1
        have hszr : w.heap.size < wr.heap.size := Nat.lt_of_lt_of_le hsz3 hb4.size
        have hpr : p < wr.heap.size := by omega
        have hxl : 0 ≤ x.f0 ∧ x.f0 < g.length := by
          obtain ⟨n, hn, _⟩ := up_mem (HP.out.mem_iff.1 (List.mem_of_getElem? hx))
          exact hin _ hn
        obtain ⟨row, hrow, hrl2, hv⟩ := square_at hsq hxl hloc
        obtain ⟨wd, rad, rcc, e2, y0, y1⟩ := at_rows hwr x.f0.toNat s.f0.toNat hrow hv
        subst e2
        replace y0 := (hb40.cell (World.block_lt_of_cell? w _ y0)).trans y0
        replace y1 := (hb40.cell (World.block_lt_of_cell? w _ y1)).trans y1
        rw [hrl2] at y0
        have hwb := World.block_lt_of_cell? _ _ y0
        have hrb := World.block_lt_of_cell? _ _ y1
        rw [HWL.out] at hc1'
        have hbv : Aside0 (bars ways s x = if x.f0 = s.f0 then decide (x.f1.f0 ≤ s.f1.f0) && decide (x.f1.f1 ≤ s.f1.f1) else ((ways.getD x.f0.toNat []).getD s.f0.toNat false) && decide (x.f1.f0 ≤ s.f1.f0)) := ⟨rfl⟩
        generalize hyv : (ways.getD x.f0.toNat []).getD s.f0.toNat false = yv at y1 hbv
        have hi1 : 0 ≤ x.f0 := hxl.1
        have hi2 : x.f0 < (g.length : Int) := hxl.2
        have hi3 : 0 ≤ s.f0 := hloc.1
        have hi4 : s.f0 < (g.length : Int) := hloc.2
        have HTRUE : bars ways s x = true → Aside0 (doneB g ways l s = false) := fun hb => ⟨by
          rw [hd.out, Bool.not_eq_false', List.any_eq_true]
          exact ⟨x, HP.out.mem_iff.1 (List.mem_of_getElem? hx), hb⟩⟩
        clear hx hv hrow hyv hk hrl2 hxl
        by_cases b1 : x.f0 = s.f0
        · have b1a : (x.f0 == s.f0) = true := beq_iff_eq.2 b1
          have b1b : (x.f0 != s.f0) = false := by simp [b1]
          have B1 := Aside0.mk b1
          clear b1 y0 y1 hwb hrb
          by_cases b2 : x.f1.f0 ≤ s.f1.f0
          · have b2a : decide (x.f1.f0 ≤ s.f1.f0) = true := decide_eq_true b2
            by_cases b3 : x.f1.f1 ≤ s.f1.f1
            · have b3a : decide (x.f1.f1 ≤ s.f1.f1) = true := decide_eq_true b3
              have HF := HTRUE (by rw [hbv.out, if_pos B1.out, b2a, b3a]; rfl)
              clear HTRUE hbv
              go_wp2_with fail
              go_quiet (fail)
              go_wp2
              go_ret
              exact ⟨by rw [HF.out]; rfl, pw_below_drewN (below_alloc hb40 _) _⟩
            · have b3a : decide (x.f1.f1 ≤ s.f1.f1) = false := decide_eq_false b3
              have HF : Aside0 (bars ways s x = false) := ⟨by rw [hbv.out, if_pos B1.out, b3a, Bool.and_false]⟩
              clear HTRUE hbv
              go_wp2_with fail
              go_quiet (fail)
              go_wp2
              go_roundg (gk - 1)
              case measure => have := HK.out; omega
              case rel => exact ⟨k + 1, by go_num, by have := HK.out; omega, pw_below_drewN (hb4.alloc hb4.size _) _, ⟨by
                rw [take_snoc_of HX.out]
                intro y hy
                rcases List.mem_append.1 hy with hy | hy
                · exact HA.out y hy
                · rw [List.mem_singleton.1 hy]; exact HF.out⟩⟩
          · have b2a : decide (x.f1.f0 ≤ s.f1.f0) = false := decide_eq_false b2
            have HF : Aside0 (bars ways s x = false) := ⟨by rw [hbv.out, if_pos B1.out, b2a]; rfl⟩
            clear HTRUE hbv
            go_wp2_with fail
            go_quiet (fail)
            go_wp2
            go_roundg (gk - 1)
            case measure => have := HK.out; omega
            case rel => exact ⟨k + 1, by go_num, by have := HK.out; omega, pw_below_drewN (hb4.alloc hb4.size _) _, ⟨by
              rw [take_snoc_of HX.out]
              intro y hy
              rcases List.mem_append.1 hy with hy | hy
              · exact HA.out y hy
              · rw [List.mem_singleton.1 hy]; exact HF.out⟩⟩
        · have b1a : (x.f0 == s.f0) = false := beq_eq_false_iff_ne.2 b1
          have b1b : (x.f0 != s.f0) = true := bne_iff_ne.2 b1
          have B1 := Aside0.mk b1
          clear b1
          cases yv with
          | false =>
            have HF : Aside0 (bars ways s x = false) := ⟨by rw [hbv.out, if_neg B1.out]; rfl⟩
            clear HTRUE hbv
            go_wp2_with fail
            go_quiet (fail)
            go_wp2
            go_roundg (gk - 1)
            case measure => have := HK.out; omega
            case rel => exact ⟨k + 1, by go_num, by have := HK.out; omega, pw_below_drewN (hb4.alloc hb4.size _) _, ⟨by
              rw [take_snoc_of HX.out]
              intro y hy
              rcases List.mem_append.1 hy with hy | hy
              · exact HA.out y hy
              · rw [List.mem_singleton.1 hy]; exact HF.out⟩⟩
          | true =>
            by_cases b2 : x.f1.f0 ≤ s.f1.f0
            · have b2a : decide (x.f1.f0 ≤ s.f1.f0) = true := decide_eq_true b2
              have HF := HTRUE (by rw [hbv.out, if_neg B1.out, b2a]; rfl)
              clear HTRUE hbv
              go_wp2_with fail
              go_quiet (fail)
              go_wp2
              go_ret
              exact ⟨by rw [HF.out]; rfl, pw_below_drewN (below_alloc hb40 _) _⟩
            · have b2a : decide (x.f1.f0 ≤ s.f1.f0) = false := decide_eq_false b2
              have HF : Aside0 (bars ways s x = false) := ⟨by rw [hbv.out, if_neg B1.out, b2a]; rfl⟩
              clear HTRUE hbv
              go_wp2_with fail
              go_quiet (fail)
              go_wp2
              go_roundg (gk - 1)
              case measure => have := HK.out; omega
              case rel => exact ⟨k + 1, by go_num, by have := HK.out; omega, pw_below_drewN (hb4.alloc hb4.size _) _, ⟨by
                rw [take_snoc_of HX.out]
                intro y hy
                rcases List.mem_append.1 hy with hy | hy
                · exact HA.out y hy
                · rw [List.mem_singleton.1 hy]; exact HF.out⟩⟩
      · obtain rfl : k = r.length := by omega
        rw [List.take_length] at HA
        clear hk
        have hd2 : Aside0 (doneB g ways l s = true) := ⟨by
          rw [hd.out, Bool.not_eq_true', List.any_eq_false]
          intro y hy
          rw [HA.out y (HP.out.mem_iff.2 hy)]
          exact Bool.false_ne_true⟩
        go_wp2
        go_ret
        exact ⟨by rw [hd2.out]; rfl, hb40⟩
end Go.Proofs.Ytiooalhfhnddjaa
end
section
set_option linter.unusedSimpArgs false
set_option linter.unusedSectionVars false
namespace Go.Proofs.Ytiooalhfhnddjaa
open Go.RowKit Go.Sort Go.Shelf Go.Proofs.Ytiooalhfhnddjaa.MM Go.Proofs.Ytiooalhfhnddjaa.PX Go.Proofs.YtiooalhfhnddjaaW.PrintWords
set_option linter.unusedVariables false
section
variable {α : Type} [Inhabited α] {enc : α → List Value} {k : Nat}
theorem pos_of_lt {t n k : Nat} (h : t < n * k) : 0 < k := Nat.pos_of_ne_zero (by rintro rfl; simp at h)
theorem flatMap_len (hk : ∀ x, (enc x).length = k) (ys : List α) : (ys.flatMap enc).length = ys.length * k := by
  induction ys with
  | nil => simp
  | cons y ys ih => rw [List.flatMap_cons, List.length_append, ih, hk, List.length_cons, Nat.add_mul, Nat.one_mul, Nat.add_comm]
theorem flatMap_cut (hk : ∀ x, (enc x).length = k) (ys : List α) {j : Nat} {p : α} (hj : ys[j]? = some p) : ((ys.flatMap enc).drop (j * k)).take k = enc p := by
  induction ys generalizing j with
  | nil => simp at hj
  | cons y ys ih =>
    rw [List.flatMap_cons]
    cases j with
    | zero =>
      simp at hj
      subst hj
      rw [Nat.zero_mul, List.drop_zero, ← hk y, List.take_left]
    | succ j =>
      rw [Nat.add_mul, Nat.one_mul, Nat.add_comm, ← List.drop_drop]
      conv => lhs; arg 2; arg 2; rw [← hk y]
      rw [List.drop_left]
      exact ih (by simpa using hj)
theorem flatMap_get (hk : ∀ x, (enc x).length = k) (ys : List α) {t : Nat} (ht : t < ys.length * k) : (ys.flatMap enc)[t]? = some ((enc (ys.getD (t / k) default)).getD (t % k) default) := by
  have hz := pos_of_lt ht
  have hq : t / k < ys.length := (Nat.div_lt_iff_lt_mul hz).2 ht
  have h1 := flatMap_cut hk ys (List.getElem?_eq_getElem hq)
  have hm : t % k < k := Nat.mod_lt _ hz
  have h2 : (ys.getD (t / k) default) = ys[t / k] := by simp [List.getD_eq_getElem?_getD, hq]
  rw [h2, ← h1, List.getD_eq_getElem?_getD, List.getElem?_take_of_lt hm, List.getElem?_drop, Nat.div_add_mod' t k]
  rw [List.getElem?_eq_getElem (by rw [flatMap_len hk]; exact ht)]
  rfl
theorem flat_get (hk : ∀ x, (enc x).length = k) (xs : List α) {t : Nat} (ht : t < xs.length * k) : ((enc xs.toArray[t / k]!)[t % k]!) = ((enc (xs.getD (t / k) default)).getD (t % k) default) := by
  have h0 : t / k < xs.length := (Nat.div_lt_iff_lt_mul (pos_of_lt ht)).2 ht
  have h1 : t % k < k := Nat.mod_lt _ (pos_of_lt ht)
  simp [h0]
theorem sorted_world (w : World) {g n : Nat} {os : Array Obj} {cur : Array Value} {e : TypeId} {fr : Nat × Nat} (d : Array α) (hb : w.heap[g]? = some (.cells cur e fr)) :
    (sortWorldK enc k w g 0 n d os).heap[g]? = some (.cells (putCells id 0 (flatK enc k d) cur) e fr) := by
  have hg : g < w.heap.size := (Array.getElem?_eq_some_iff.1 hb).1
  unfold sortWorldK putRowK
  rw [heap_grow_old _ _ (by simpa [putRow, mapBlock, Sort.ahead] using hg)]
  simp [putRow, mapBlock, Sort.ahead, Array.getElem?_modify, hb, onCells]
theorem sorted_grown (w : World) {g n : Nat} {os : Array Obj} (d : Array α) : w.grownBy (sortWorldK enc k w g 0 n d os) (some g) := by
  unfold sortWorldK putRowK
  refine ⟨rfl, rfl, rfl, by simp [grow, putRow, mapBlock, Sort.ahead], fun j hk hne => ?_⟩
  rw [heap_grow_old _ _ (by simpa [putRow, mapBlock, Sort.ahead] using hk)]
  have : g ≠ j := fun e => hne (by rw [e])
  simp [putRow, mapBlock, Sort.ahead, Array.getElem?_modify, this]
theorem row_sort (d : Kd α) (hk : ∀ x, (enc x).length = d.sz) (hM : ∀ {w base ok x cs}, d.M w base ok x cs → cs = enc x) (hM' : ∀ w base ok x, d.M w base ok x (enc x)) {e : Nat} {w : World} {base : Nat} {ok : Nat → Prop} {v : Value} {xs : List α} (h : d.R e w base ok v xs) :
    (v = .slice none 0 0 ∧ xs = []) ∨ ∃ g cap, v = .slice (some ⟨g, 0, none⟩) xs.toArray.size cap ∧ base ≤ g ∧ g < w.heap.size ∧ HoldsK enc d.sz w g 0 xs.toArray ∧
      ∀ (n : Nat) (os : Array Obj) (ys : List α), ys.length = xs.length → d.R e (sortWorldK enc d.sz w g 0 n ys.toArray os) base ok v ys := by
  obtain ⟨h0, inner, ⟨hil, ho⟩, hr⟩ := h
  rcases ho with ⟨rfl, hn⟩ | ⟨g, cap, cur, rfl, hg, hh, hc1, hc2, hc3, hc4⟩
  · exact .inl ⟨rfl, List.eq_nil_of_length_eq_zero hn⟩
  · refine .inr ⟨g, cap, by simp, hg, (Array.getElem?_eq_some_iff.1 hh).1, ?_, ?_⟩
    · intro t ht
      rw [size_flatK] at ht
      have ht' : t < xs.length * d.sz := by simpa using ht
      have hz : 0 < d.sz := pos_of_lt ht'
      refine ⟨?_, by simp [World.frozen?, hh]⟩
      rw [get_flatK enc d.sz _ t (by simpa using ht'), flat_get hk xs ht']
      have hq : t / d.sz < xs.length := (Nat.div_lt_iff_lt_mul hz).2 ht'
      have hm : t % d.sz < d.sz := Nat.mod_lt _ hz
      have h1 := hM (hr.2 (t / d.sz) _ (List.getElem?_eq_getElem hq))
      have h2 : (xs.getD (t / d.sz) default) = xs[t / d.sz] := by simp [List.getD_eq_getElem?_getD, hq]
      rw [h2, ← h1]
      have h3 : t / d.sz * d.sz + t % d.sz = t := Nat.div_add_mod' t d.sz
      simp only [World.cell?, hh, Nat.zero_add, Option.isSome_none, Bool.false_eq_true, if_false]
      have h4 : inner[t]? = cur[t]? := by rw [← hc4, List.getElem?_take_of_lt ht', Array.getElem?_toList]
      have h5 : t < inner.length := by omega
      rw [← h4, List.getD_eq_getElem?_getD, List.getElem?_take_of_lt hm, List.getElem?_drop, h3, List.getElem?_eq_getElem h5]
      rfl
    · intro n os ys hyl
      refine ⟨h0, (ys.flatMap enc), ⟨?_, .inr ⟨g, cap, _, by rw [hyl], hg, sorted_world w ys.toArray hh, by omega, hc2, by simp [putCells, hc3], ?_⟩⟩, ?_, ?_⟩
      · rw [flatMap_len hk]
      · apply List.ext_getElem?
        intro t
        by_cases ht : t < ys.length * d.sz
        · rw [List.getElem?_take_of_lt ht, Array.getElem?_toList, flatMap_get hk ys ht, ← flat_get hk ys ht]
          have hlt : t < cur.size := by rw [hc3]; exact Nat.lt_of_lt_of_le ht (Nat.mul_le_mul_right _ (by omega))
          have hsz : (flatK enc d.sz ys.toArray).size = ys.length * d.sz := by simp
          have h6 : (putCells id 0 (flatK enc d.sz ys.toArray) cur)[t]? = some ((flatK enc d.sz ys.toArray)[t]!) := by
            simp [putCells, hlt, ht]
          rw [h6, get_flatK enc d.sz _ t (by simpa using ht)]
        · rw [List.getElem?_take_eq_none (by omega), List.getElem?_eq_none (by rw [flatMap_len hk]; omega)]
      · rw [flatMap_len hk]
      · intro j p hj
        rw [flatMap_cut hk ys hj]
        exact hM' _ _ _ _
end
end Go.Proofs.Ytiooalhfhnddjaa
end
section
namespace Go.Proofs
open Go.Shelf
def Try.sortTimeL_ren : Go.Shelf.Ren := ⟨fun | 6 => 133 | 15 => 121 | 14 => 157 | 28 => 152 | 29 => 153 | 20 => 173 | 21 => 174 | 22 => 175 | 23 => 176 | 24 => 177 | 25 => 178 | 26 => 179 | 27 => 180 | 46 => 194 | 47 => 161 | 48 => 162 | 49 => 195 | 50 => 196 | 57 => 201 | n => n, fun | 22 => 64 | 24 => 43 | 25 => 200 | 3 => 3 | 39 => 137 | 0 => 0 | 53 => 89 | 55 => 56 | 4 => 4 | 46 => 206 | 45 => 205 | 50 => 210 | 5 => 5 | 9 => 9 | 66 => 219 | 70 => 223 | 76 => 241 | 77 => 32 | n => n, fun | n => n⟩
theorem Try.sortTimeL : Go.Proofs.SlLaysF0.n6 Try.prog Try.sortTimeL_ren := {
  mixed := by kernel_rfl
  f6 := ⟨Try.f133.name, by decide, Try.func133.trans (congrArg some (by kernel_rfl))⟩
  f14 := ⟨Try.f157.name, by decide, Try.func157.trans (congrArg some (by kernel_rfl))⟩
  f15 := Try.func121.trans (congrArg some (by kernel_rfl))
  f20 := ⟨Try.f173.name, by decide, Try.func173.trans (congrArg some (by kernel_rfl))⟩
  f21 := ⟨Try.f174.name, by decide, Try.func174.trans (congrArg some (by kernel_rfl))⟩
  f22 := ⟨Try.f175.name, by decide, Try.func175.trans (congrArg some (by kernel_rfl))⟩
  f23 := ⟨Try.f176.name, by decide, Try.func176.trans (congrArg some (by kernel_rfl))⟩
  f24 := ⟨Try.f177.name, by decide, Try.func177.trans (congrArg some (by kernel_rfl))⟩
  f25 := ⟨Try.f178.name, by decide, Try.func178.trans (congrArg some (by kernel_rfl))⟩
  f26 := ⟨Try.f179.name, by decide, Try.func179.trans (congrArg some (by kernel_rfl))⟩
  f27 := ⟨Try.f180.name, by decide, Try.func180.trans (congrArg some (by kernel_rfl))⟩
  f28 := Try.func152.trans (congrArg some (by kernel_rfl))
  f29 := Try.func153.trans (congrArg some (by kernel_rfl))
  f46 := ⟨Try.f194.name, by decide, Try.func194.trans (congrArg some (by kernel_rfl))⟩
  f47 := Try.func161.trans (congrArg some (by kernel_rfl))
  f48 := Try.func162.trans (congrArg some (by kernel_rfl))
  f49 := ⟨Try.f195.name, by decide, Try.func195.trans (congrArg some (by kernel_rfl))⟩
  f50 := ⟨Try.f196.name, by decide, Try.func196.trans (congrArg some (by kernel_rfl))⟩
  f57 := ⟨Try.f201.name, by decide, Try.func201.trans (congrArg some (by kernel_rfl))⟩
  t0 := Try.underlying0
  a0 := Try.isAgg0
  z0 := Try.sizeOf0
  v0 := Try.zeroValue0
  t3 := Try.underlying3
  a3 := Try.isAgg3
  z3 := Try.sizeOf3
  v3 := Try.zeroValue3
  t4 := Try.underlying4
  a4 := Try.isAgg4
  z4 := Try.sizeOf4
  v4 := Try.zeroValue4
  t5 := Try.underlying5
  a5 := Try.isAgg5
  z5 := Try.sizeOf5
  v5 := Try.zeroValue5
  t9 := Try.underlying9
  a9 := Try.isAgg9
  z9 := Try.sizeOf9
  v9 := Try.zeroValue9
  t22 := Try.underlying64
  a22 := Try.isAgg64
  z22 := Try.sizeOf64
  v22 := Try.zeroValue64
  t25 := Try.underlying200
  a25 := Try.isAgg200
  z25 := Try.sizeOf200
  v25 := Try.zeroValue200
  t39 := Try.underlying137
  a39 := Try.isAgg137
  z39 := Try.sizeOf137
  v39 := Try.zeroValue137
  t45 := Try.underlying205
  a45 := Try.isAgg205
  z45 := Try.sizeOf205
  v45 := Try.zeroValue205
  t46 := Try.underlying206
  a46 := Try.isAgg206
  z46 := Try.sizeOf206
  v46 := Try.zeroValue206
  t50 := Try.underlying210
  a50 := Try.isAgg210
  z50 := Try.sizeOf210
  v50 := Try.zeroValue210
  t53 := Try.underlying89
  a53 := Try.isAgg89
  z53 := Try.sizeOf89
  v53 := Try.zeroValue89
  t55 := Try.underlying56
  a55 := Try.isAgg56
  z55 := Try.sizeOf56
  v55 := Try.zeroValue56
  t66 := Try.underlying219
  a66 := Try.isAgg219
  z66 := Try.sizeOf219
  v66 := Try.zeroValue219
  t70 := Try.underlying223
  a70 := Try.isAgg223
  z70 := Try.sizeOf223
  v70 := Try.zeroValue223
  t76 := Try.underlying241
  a76 := Try.isAgg241
  z76 := Try.sizeOf241
  v76 := Try.zeroValue241
  t77 := Try.underlying32
  a77 := Try.isAgg32
  z77 := Try.sizeOf32
  v77 := Try.zeroValue32 }
def Try.sortStampL_ren : Go.Shelf.Ren := ⟨fun | 6 => 128 | 15 => 121 | 14 => 155 | 28 => 152 | 29 => 153 | 20 => 165 | 21 => 166 | 22 => 167 | 23 => 168 | 24 => 169 | 25 => 170 | 26 => 171 | 27 => 172 | 46 => 191 | 47 => 161 | 48 => 162 | 49 => 192 | 50 => 193 | 57 => 200 | n => n, fun | 22 => 26 | 24 => 45 | 25 => 166 | 3 => 3 | 39 => 137 | 0 => 0 | 53 => 89 | 55 => 56 | 4 => 4 | 46 => 206 | 45 => 205 | 50 => 210 | 5 => 5 | 9 => 9 | 66 => 219 | 70 => 223 | 76 => 241 | 77 => 32 | n => n, fun | n => n⟩
theorem Try.sortStampL : Go.Proofs.SlLaysF0.n6 Try.prog Try.sortStampL_ren := {
  mixed := by kernel_rfl
  f6 := ⟨Try.f128.name, by decide, Try.func128.trans (congrArg some (by kernel_rfl))⟩
  f14 := ⟨Try.f155.name, by decide, Try.func155.trans (congrArg some (by kernel_rfl))⟩
  f15 := Try.func121.trans (congrArg some (by kernel_rfl))
  f20 := ⟨Try.f165.name, by decide, Try.func165.trans (congrArg some (by kernel_rfl))⟩
  f21 := ⟨Try.f166.name, by decide, Try.func166.trans (congrArg some (by kernel_rfl))⟩
  f22 := ⟨Try.f167.name, by decide, Try.func167.trans (congrArg some (by kernel_rfl))⟩
  f23 := ⟨Try.f168.name, by decide, Try.func168.trans (congrArg some (by kernel_rfl))⟩
  f24 := ⟨Try.f169.name, by decide, Try.func169.trans (congrArg some (by kernel_rfl))⟩
  f25 := ⟨Try.f170.name, by decide, Try.func170.trans (congrArg some (by kernel_rfl))⟩
  f26 := ⟨Try.f171.name, by decide, Try.func171.trans (congrArg some (by kernel_rfl))⟩
  f27 := ⟨Try.f172.name, by decide, Try.func172.trans (congrArg some (by kernel_rfl))⟩
  f28 := Try.func152.trans (congrArg some (by kernel_rfl))
  f29 := Try.func153.trans (congrArg some (by kernel_rfl))
  f46 := ⟨Try.f191.name, by decide, Try.func191.trans (congrArg some (by kernel_rfl))⟩
  f47 := Try.func161.trans (congrArg some (by kernel_rfl))
  f48 := Try.func162.trans (congrArg some (by kernel_rfl))
  f49 := ⟨Try.f192.name, by decide, Try.func192.trans (congrArg some (by kernel_rfl))⟩
  f50 := ⟨Try.f193.name, by decide, Try.func193.trans (congrArg some (by kernel_rfl))⟩
  f57 := ⟨Try.f200.name, by decide, Try.func200.trans (congrArg some (by kernel_rfl))⟩
  t0 := Try.underlying0
  a0 := Try.isAgg0
  z0 := Try.sizeOf0
  v0 := Try.zeroValue0
  t3 := Try.underlying3
  a3 := Try.isAgg3
  z3 := Try.sizeOf3
  v3 := Try.zeroValue3
  t4 := Try.underlying4
  a4 := Try.isAgg4
  z4 := Try.sizeOf4
  v4 := Try.zeroValue4
  t5 := Try.underlying5
  a5 := Try.isAgg5
  z5 := Try.sizeOf5
  v5 := Try.zeroValue5
  t9 := Try.underlying9
  a9 := Try.isAgg9
  z9 := Try.sizeOf9
  v9 := Try.zeroValue9
  t22 := Try.underlying26
  a22 := Try.isAgg26
  z22 := Try.sizeOf26
  v22 := Try.zeroValue26
  t25 := Try.underlying166
  a25 := Try.isAgg166
  z25 := Try.sizeOf166
  v25 := Try.zeroValue166
  t39 := Try.underlying137
  a39 := Try.isAgg137
  z39 := Try.sizeOf137
  v39 := Try.zeroValue137
  t45 := Try.underlying205
  a45 := Try.isAgg205
  z45 := Try.sizeOf205
  v45 := Try.zeroValue205
  t46 := Try.underlying206
  a46 := Try.isAgg206
  z46 := Try.sizeOf206
  v46 := Try.zeroValue206
  t50 := Try.underlying210
  a50 := Try.isAgg210
  z50 := Try.sizeOf210
  v50 := Try.zeroValue210
  t53 := Try.underlying89
  a53 := Try.isAgg89
  z53 := Try.sizeOf89
  v53 := Try.zeroValue89
  t55 := Try.underlying56
  a55 := Try.isAgg56
  z55 := Try.sizeOf56
  v55 := Try.zeroValue56
  t66 := Try.underlying219
  a66 := Try.isAgg219
  z66 := Try.sizeOf219
  v66 := Try.zeroValue219
  t70 := Try.underlying223
  a70 := Try.isAgg223
  z70 := Try.sizeOf223
  v70 := Try.zeroValue223
  t76 := Try.underlying241
  a76 := Try.isAgg241
  z76 := Try.sizeOf241
  v76 := Try.zeroValue241
  t77 := Try.underlying32
  a77 := Try.isAgg32
  z77 := Try.sizeOf32
  v77 := Try.zeroValue32 }
def Try.cloneMapL_ren : Go.Shelf.Ren := ⟨fun | 5 => 96 | 7 => 126 | n => n, fun | 23 => 113 | 25 => 45 | 3 => 3 | 4 => 4 | 20 => 20 | n => n, fun | n => n⟩
theorem Try.cloneMapL : Go.Proofs.SlLaysW.n5 Try.prog Try.cloneMapL_ren := {
  mixed := by kernel_rfl
  f5 := ⟨Try.f96.name, by decide, Try.func96.trans (congrArg some (by kernel_rfl))⟩
  f7 := Try.func126.trans (congrArg some (by kernel_rfl))
  t4 := Try.underlying4
  a4 := Try.isAgg4
  z4 := Try.sizeOf4
  v4 := Try.zeroValue4
  t20 := Try.underlying20
  a20 := Try.isAgg20
  z20 := Try.sizeOf20
  v20 := Try.zeroValue20
  t23 := Try.underlying113
  a23 := Try.isAgg113
  z23 := Try.sizeOf113
  v23 := Try.zeroValue113 }
end Go.Proofs
end
section
set_option linter.unusedSimpArgs false
set_option linter.unusedSectionVars false
namespace Go.Proofs.Ytiooalhfhnddjaa
open Go.RowKit Go.Sort Go.Shelf Go.Proofs.Ytiooalhfhnddjaa.MM Go.Proofs.Ytiooalhfhnddjaa.PX Go.Proofs.YtiooalhfhnddjaaW.PrintWords
set_option linter.unusedVariables false
theorem isNaN_calls (x : Int) (w : World) : Calls Try.prog 156 #[.int .i64 x] w fun e w' => e = .returned (.bool false) ∧ w' = w := by
  go_enter Try.func156, Try.ntmps156
  go_wp2
  go_ret
  exact ⟨by simp, rfl⟩
theorem Compare_calls (x y : Int) (w : World) : Calls Try.prog 130 #[.int .i64 x, .int .i64 y] w fun e w' => e = .returned (.int .i64 (Lib.compareInt x y)) ∧ w' = w := by
  unfold Lib.compareInt
  go_enter Try.func130, Try.ntmps130
  by_cases h1 : x < y
  · have h2 : decide (x < y) = true := decide_eq_true h1
    go_wp2_with (go_at_call 156; refine (isNaN_calls _ _).mono ?_; rintro e w' ⟨rfl, rfl⟩)
    go_ret
    exact ⟨by simp, rfl⟩
  · have h2 : decide (x < y) = false := decide_eq_false h1
    by_cases h3 : x > y
    · have h4 : decide (y < x) = true := decide_eq_true h3
      go_wp2_with (go_at_call 156; refine (isNaN_calls _ _).mono ?_; rintro e w' ⟨rfl, rfl⟩)
      go_ret
      exact ⟨by simp, rfl⟩
    · have h4 : decide (y < x) = false := decide_eq_false h3
      go_wp2_with (go_at_call 156; refine (isNaN_calls _ _).mono ?_; rintro e w' ⟨rfl, rfl⟩)
      go_ret
      exact ⟨by simp, rfl⟩
theorem compare_neg (x y : Int) : Lib.compareInt x y < 0 ↔ x < y := by
  unfold Lib.compareInt
  split
  · simp [*]
  · split <;> simp <;> omega
theorem sort_own {α : Type} [Inhabited α] {ρ : Ren} (L : SlLaysF0.n6 Try.prog ρ) (d : Kd α) (enc : α → List Value) (hk : ∀ x, (enc x).length = d.sz) (h1 : ∀ x, ∀ v ∈ enc x, v.oneCell' = true) (hM : ∀ {w base ok x cs}, d.M w base ok x cs → cs = enc x) (hM' : ∀ w base ok x, d.M w base ok x (enc x))
    (aE : ∀ w, (isAgg (ρ.t 24)).run Try.prog w = .ok true w) (zE : ∀ w, (Go.sizeOf (ρ.t 24)).run Try.prog w = .ok d.sz w) (cf : α → α → Int) (hO : SWO (ltOf cf)) (g : Nat) (eg : ∀ args w, (callFunc g args).run Try.prog w = .ok (.enter g args) w)
    (hcmp : ∀ x y W, Calls Try.prog g #[.agg (enc x).toArray, .agg (enc y).toArray] W fun e w' => e = .returned (.int .i64 (cf x y)) ∧ ∃ q os', w' = grow (W.drewN q) os')
    {e : Nat} {w : World} {base : Nat} {ok : Nat → Prop} {v : Value} {xs : List α} (h : d.R e w base ok v xs) (hl : xs.length < 4611686018427387904) :
    Calls Try.prog (ρ.f 6) #[v, .func (.func g) #[] #[]] w fun e' w' => e' = .returned (.tuple #[]) ∧ ∃ ys : List α, ys.Perm xs ∧ ys.Pairwise (fun a b => ltOf cf b a = false) ∧ d.R e w' base ok v ys ∧ w.grownBy w' v.ownBlock := by
  rcases row_sort d hk hM hM' h with ⟨rfl, rfl⟩ | ⟨b, cap, rfl, hg, hlt, hH, hR⟩
  · refine (AnyF.slices_SortFunc_none L none 0 _ w).mono ?_
    rintro e' w' ⟨rfl, rfl⟩
    exact ⟨rfl, [], .refl _, .nil, h, ⟨rfl, rfl, rfl, Nat.le_refl _, fun _ _ _ => rfl⟩⟩
  · refine (AnyQ.slices_SortFunc L d.sz aE zE enc hk h1 cf hO g #[] b 0 cap xs.toArray w eg (fun _ _ _ _ x y => hcmp x y _) hH hlt (by simpa using hl)).mono ?_
    rintro e' w' ⟨rfl, d', n, os, hp, hs, rfl⟩
    obtain ⟨hsz, _, hperm⟩ := hp
    have e1 : d'.extract 0 xs.toArray.size = d' := by rw [← hsz]; exact Array.extract_size
    rw [e1, Array.extract_size] at hperm
    refine ⟨rfl, d'.toList, by simpa using hperm, ?_, hR n os d'.toList (by simpa using hsz), sorted_grown w d'⟩
    rw [List.pairwise_iff_getElem]
    intro i j hi hj hij
    have hi' : i < d'.size := by simpa using hi
    have hj' : j < d'.size := by simpa using hj
    have := hs i j (Nat.zero_le _) hij (by rw [← hsz]; exact hj')
    simpa [hi', hj'] using this
def encT (t : Time) : List Value := [.int .i64 t.f0, .int .i64 t.f1]
instance : Inhabited Time := ⟨z43⟩
theorem encT_M {w : World} {base : Nat} {ok : Nat → Prop} {x : Time} {cs : List Value} (h : kTime.M w base ok x cs) : cs = encT x := by
  obtain ⟨c1, c2, rfl, h1, h2⟩ := h
  have e1 : c1 = [.int .i64 x.f0] := h1
  have e2 : c2 = [.int .i64 x.f1] := h2
  rw [e1, e2]
  rfl
def cfT (a b : Time) : Int := Lib.compareInt a.f0 b.f0
theorem swoT : SWO (ltOf cfT) := by
  refine ⟨fun x => ?_, fun x y z h1 h2 => ?_, fun x y z h1 h2 => ?_⟩
  · simp [ltOf, cfT, compare_neg]
  · simp only [ltOf, cfT, compare_neg, decide_eq_true_eq] at *
    omega
  · simp only [ltOf, cfT, compare_neg, decide_eq_false_iff_not] at *
    omega
theorem cmpT_calls (x y : Time) (W : World) : Calls Try.prog 134 #[.agg (encT x).toArray, .agg (encT y).toArray] W fun e w' => e = .returned (.int .i64 (cfT x y)) ∧ ∃ q os', w' = grow (W.drewN q) os' := by
  unfold encT cfT
  go_enter Try.func134, Try.ntmps134
  go_wp2_with (go_at_call 130; refine (Compare_calls _ _ _).mono ?_; rintro e w' ⟨rfl, rfl⟩)
  go_ret
  exact ⟨rfl, 0, _, by rw [alloc_eq_grow, alloc_eq_grow, grow_grow]; rfl⟩
theorem SortTime_calls {w : World} {base : Nat} {ok : Nat → Prop} {v : Value} {xs : List Time} (h : kTime.R 43 w base ok v xs) (hl : xs.length < 4611686018427387904) :
    Calls Try.prog 133 #[v, .func (.func 134) #[] #[]] w fun e' w' => e' = .returned (.tuple #[]) ∧ ∃ ys : List Time, ys.Perm xs ∧ ys.Pairwise (fun a b => a.f0 ≤ b.f0) ∧ kTime.R 43 w' base ok v ys ∧ w.grownBy w' v.ownBlock := by
  refine (sort_own Try.sortTimeL kTime encT (fun _ => rfl) (fun x v hv => by simp [encT] at hv; rcases hv with rfl | rfl <;> rfl) encT_M (fun w base ok x => k43_mkM w base ok x) Try.isAgg43 Try.sizeOf43 cfT swoT 134 (enters_of Try.func134 (by kernel_rfl) rfl) cmpT_calls h hl).mono ?_
  rintro e w' ⟨rfl, ys, hp, hs, hR, hg⟩
  refine ⟨rfl, ys, hp, hs.imp ?_, hR, hg⟩
  intro a b hab
  simp only [ltOf, cfT, compare_neg, decide_eq_false_iff_not] at hab
  omega
end Go.Proofs.Ytiooalhfhnddjaa
end
section
set_option linter.unusedVariables false
set_option linter.unusedSimpArgs false
namespace Go.Proofs.Ytiooalhfhnddjaa
open Go.RowKit Go.Proofs.Ytiooalhfhnddjaa.MM Go.Proofs.Ytiooalhfhnddjaa.PX Go.Proofs.YtiooalhfhnddjaaW.PrintWords
def tAt (L : List Time) (j : Nat) : Time := rd_T43 L (j : Int)
def badB (L : List Time) (i j : Nat) : Bool := tgood (tAt L j) && tle (tAt L j) (tAt L i) && (decide (tAt L j ≠ tAt L i) || decide (j < i))
def keepB (L : List Time) (i : Nat) : Bool := tgood (tAt L i) && !(List.range L.length).any (badB L i)
def outs (L : List Time) (i : Nat) : List Time := ((List.range i).filter (keepB L)).map (tAt L)
theorem outs_keep {L : List Time} {i : Nat} (h : keepB L i = true) : outs L (i + 1) = outs L i ++ [tAt L i] := by simp [outs, List.range_succ, List.filter_append, h]
theorem outs_drop {L : List Time} {i : Nat} (h : keepB L i = false) : outs L (i + 1) = outs L i := by simp [outs, List.range_succ, List.filter_append, h]
theorem outs_len (L : List Time) (i : Nat) : (outs L i).length ≤ i := by
  unfold outs
  rw [List.length_map]
  exact Nat.le_trans (List.length_filter_le _ _) (by simp)
theorem keep_no {L : List Time} {i j : Nat} (hj : j < L.length) (h : badB L i j = true) : keepB L i = false := by
  unfold keepB
  rw [List.any_eq_true.2 ⟨j, List.mem_range.2 hj, h⟩]
  simp
theorem keep_yes {L : List Time} {i : Nat} (hg : tgood (tAt L i) = true) (h : ∀ j, j < L.length → badB L i j = false) : keepB L i = true := by
  unfold keepB
  rw [hg, Bool.true_and, Bool.not_eq_true', List.any_eq_false]
  intro j hj
  rw [h j (List.mem_range.1 hj)]
  exact Bool.false_ne_true
theorem keep_bad {L : List Time} {i : Nat} (hg : tgood (tAt L i) = false) : keepB L i = false := by
  unfold keepB
  rw [hg, Bool.false_and]
end Go.Proofs.Ytiooalhfhnddjaa
end
section
set_option linter.unusedSimpArgs false
namespace Go.Proofs.Ytiooalhfhnddjaa
open Go.RowKit Go.Proofs.Ytiooalhfhnddjaa.MM Go.Proofs.Ytiooalhfhnddjaa.PX Go.Proofs.YtiooalhfhnddjaaW.PrintWords
set_option linter.unusedVariables false
theorem tGood_calls (w : World) (t : Time) : Calls Try.prog 125 #[.agg #[.int .i64 t.f0, .int .i64 t.f1]] w fun e w' => e = .returned (.bool (tgood t)) ∧ Below w.heap.size w w' := by
  refine stamp_Good.calls _ _ _ w ?_
  unfold stamp_Good.f tgood
  by_cases h0 : 0 ≤ t.f0 <;> by_cases h1 : 0 ≤ t.f1 <;> simp [h0, h1]
theorem tLe_calls (w : World) (a b : Time) : Calls Try.prog 132 #[.agg #[.int .i64 a.f0, .int .i64 a.f1], .agg #[.int .i64 b.f0, .int .i64 b.f1]] w fun e w' => e = .returned (.bool (tle a b)) ∧ Below w.heap.size w w' := by
  refine stamp_Le.calls _ _ _ _ _ w ?_
  unfold stamp_Le.f tle
  by_cases h0 : a.f0 ≤ b.f0 <;> by_cases h1 : a.f1 ≤ b.f1 <;> simp [h0, h1]
theorem infoTime : (Try.prog.info? 43).map (fun i => (i.zero, i.size, i.bytes)) = some (some (.agg #[(.int .i64 0), (.int .i64 0)]), 2, 16) := by kernel_rfl
theorem own_lo {α : Type} {d : Kd α} {e : Nat} {w : World} {base : Nat} {ok : Nat → Prop} {v : Value} {xs : List α} (h : Kd.R d e w base ok v xs) {k : Nat} (hk : some k = v.ownBlock) : base ≤ k := by
  have := (Kd.R_bound h).1 k hk.symm
  exact this.2.1
set_option maxRecDepth 100000 in
set_option maxHeartbeats 4000000 in
theorem Front_calls (w : World) (A : Option Addr) (c : Nat) (L : List Time) (hr : Kd.C kTime w A L.length L) (hln : L.length ≤ 1000000000) :
    Calls Try.prog 107 #[.slice A L.length c] w fun e w' => ∃ v F, e = .returned v ∧ Kd.R kTime 43 w' w.heap.size (fun _ => True) v F ∧ F.Perm (outs L L.length) ∧ F.Pairwise (fun a b => a.f0 ≤ b.f0) ∧ Below w.heap.size w w' := by
  go_enter Try.func107, Try.ntmps107
  go_wp2; go_step3; go_wp2; go_step3; go_wp2
  go_loopg [3, 10] L.length (fun kq v3 v10 wr => ∃ i : Nat, v10 = .int .i64 i ∧ i + kq = L.length ∧ Kd.R kTime 43 wr w.heap.size (fun _ => True) v3 (outs L i) ∧ Below w.heap.size w wr)
  case atStart => exact ⟨0, rfl, by simp, Kd.R_nil _ _ _ _ _, Below.refl _ _⟩
  case round =>
    obtain ⟨i, rfl, hk, hR, hb⟩ := hrel
    by_cases hlt : i < L.length
    · obtain ⟨ad, e1, x0, x1⟩ := at_T43 hr (i : Int) (by omega) (by omega)
      cases e1
      simp only [Int.toNat_natCast] at x0 x1
      have htA : rd_T43 L (i : Int) = tAt L i := rfl
      rw [htA] at x0 x1
      clear htA
      have HK := Aside0.mk hk
      have hlen := outs_len L i
      replace x0 := (hb.cell (World.block_lt_of_cell? w _ x0)).trans x0
      replace x1 := (hb.cell (World.block_lt_of_cell? w _ x1)).trans x1
      generalize ht : tAt L i = t at x0 x1
      have HT := Aside0.mk ht
      clear ht hk
      cases htg : tgood t with
      | false =>
        go_wp2_with (go_at_call 125; refine (tGood_calls _ t).mono ?_; rw [htg]; rintro e w1 ⟨rfl, hb1⟩)
        have hbx := below_then (below_alloc hb (.cells #[.int .i64 t.f0, .int .i64 t.f1] 43)) (Nat.le_trans hb.size (by simp)) hb1
        have hR1 := Kd.R_below (Kd.R_alloc hR (.cells #[.int .i64 t.f0, .int .i64 t.f1] 43)) hb1
        go_roundg (gk - 1)
        case measure => have := HK.out; omega
        case rel => exact ⟨i + 1, by go_num, by have := HK.out; omega, by rw [outs_drop (keep_bad (by rw [HT.out, htg]))]; exact hR1, hbx⟩
      | true =>
        go_wp2_with (go_at_call 125; refine (tGood_calls _ t).mono ?_; rw [htg]; rintro e w1 ⟨rfl, hb1⟩)
        have hbx := below_then (below_alloc hb (.cells #[.int .i64 t.f0, .int .i64 t.f1] 43)) (Nat.le_trans hb.size (by simp)) hb1
        have hR1 := Kd.R_below (Kd.R_alloc hR (.cells #[.int .i64 t.f0, .int .i64 t.f1] 43)) hb1
        have t0 : w1.cell? ⟨wr.heap.size, 0, none⟩ = some (.int .i64 t.f0) := (hb1.cell (p := ⟨wr.heap.size, 0, none⟩) (by simp)).trans (by simp)
        have t1 : w1.cell? ⟨wr.heap.size, 1, none⟩ = some (.int .i64 t.f1) := (hb1.cell (p := ⟨wr.heap.size, 1, none⟩) (by simp)).trans (by simp)
        have hts : wr.heap.size < w1.heap.size := by have := hb1.size; simp at this; omega
        obtain ⟨Bt, hBt⟩ : ∃ Bt, Bt = wr.heap.size := ⟨_, rfl⟩
        rw [← hBt] at t0 t1 hts ⊢
        clear hb1 hBt hR x0 x1
        obtain ⟨go, rfl⟩ : ∃ go, go = gk := ⟨_, rfl⟩
        go_loopg [20] L.length (fun kq v20 w4 => ∃ j : Nat, v20 = .int .i64 j ∧ j + kq = L.length ∧ Below w1.heap.size w1 w4 ∧ Aside0 (∀ j', j' < j → badB L i j' = false))
        case atStart => exact ⟨0, rfl, by simp, Below.refl _ _, ⟨fun j' h => by omega⟩⟩
        case round =>
          obtain ⟨j, rfl, hj, hb4, HA⟩ := hrel
          have HJ := Aside0.mk hj
          have hb40 := below_then hbx hbx.size hb4
          by_cases hlj : j < L.length
          · obtain ⟨ad, e2, y0, y1⟩ := at_T43 hr (j : Int) (by omega) (by omega)
            cases e2
            simp only [Int.toNat_natCast] at y0 y1
            have htA : rd_T43 L (j : Int) = tAt L j := rfl
            rw [htA] at y0 y1
            clear htA
            replace y0 := (hb40.cell (World.block_lt_of_cell? w _ y0)).trans y0
            replace y1 := (hb40.cell (World.block_lt_of_cell? w _ y1)).trans y1
            generalize ho : tAt L j = o at y0 y1
            have hbad : Aside0 (badB L i j = (tgood o && tle o t && (decide (o ≠ t) || decide (j < i)))) := ⟨by rw [badB, ho, HT.out]⟩
            have s0 := (hb4.cell (p := ⟨Bt, 0, none⟩) hts).trans t0
            have s1 := (hb4.cell (p := ⟨Bt, 1, none⟩) hts).trans t1
            have HJL := Aside0.mk hlj
            clear ho hj
            cases hog : tgood o with
            | false =>
              have hb0 : Aside0 (badB L i j = false) := ⟨by rw [hbad.out, hog]; rfl⟩
              go_wp2_with (go_at_call 125; refine (tGood_calls _ o).mono ?_; rw [hog]; rintro e w5 ⟨rfl, hb5⟩)
              go_roundg (gk - 1)
              case measure => have := HJ.out; omega
              case rel => exact ⟨j + 1, by go_num, by have := HJ.out; omega, below_then (below_alloc hb4 _) (Nat.le_trans hb4.size (by simp)) hb5, ⟨fun j' h => by
                rcases Nat.lt_or_ge j' j with h1 | h1
                · exact HA.out j' h1
                · obtain rfl : j' = j := by omega
                  exact hb0.out⟩⟩
            | true =>
              have hobs := World.block_lt_of_cell? _ _ s0
              cases hole : tle o t with
              | false =>
                have hb0 : Aside0 (badB L i j = false) := ⟨by rw [hbad.out, hog, hole]; rfl⟩
                go_wp2_with (first | (go_at_call 125; refine (tGood_calls _ o).mono ?_; rw [hog]; rintro e w5 ⟨rfl, hb5⟩; have hb50 := below_then (below_alloc (Below.refl wr.heap.size wr) (.cells #[.int .i64 o.f0, .int .i64 o.f1] 43)) (by simp) hb5; have q0 : w5.cell? ⟨wr.heap.size, 0, none⟩ = some (.int .i64 o.f0) := (hb5.cell (p := ⟨wr.heap.size, 0, none⟩) (by simp)).trans (by simp); have q1 : w5.cell? ⟨wr.heap.size, 1, none⟩ = some (.int .i64 o.f1) := (hb5.cell (p := ⟨wr.heap.size, 1, none⟩) (by simp)).trans (by simp); have r0 := (hb50.cell (p := ⟨Bt, 0, none⟩) hobs).trans s0; have r1 := (hb50.cell (p := ⟨Bt, 1, none⟩) hobs).trans s1; have hq5 := World.block_lt_of_cell? _ _ q0; have hr5 := World.block_lt_of_cell? _ _ r0) | (go_at_call 132; refine (tLe_calls _ o t).mono ?_; rw [hole]; rintro e w6 ⟨rfl, hb6⟩; have hb60 := below_then hb50 hb50.size hb6))
                go_roundg (gk - 1)
                case measure => have := HJ.out; omega
                case rel => exact ⟨j + 1, by go_num, by have := HJ.out; omega, below_then hb4 hb4.size hb60, ⟨fun j' h => by
                  rcases Nat.lt_or_ge j' j with h1 | h1
                  · exact HA.out j' h1
                  · obtain rfl : j' = j := by omega
                    exact hb0.out⟩⟩
              | true =>
                by_cases hne0 : o.f0 = t.f0
                · have e0 : (o.f0 == t.f0) = true := beq_iff_eq.2 hne0
                  by_cases hne1 : o.f1 = t.f1
                  · have e1 : (o.f1 == t.f1) = true := beq_iff_eq.2 hne1
                    have hot : Aside0 (o = t) := ⟨by cases o; cases t; simp_all⟩
                    clear hne0 hne1
                    by_cases hji : j < i
                    · have hjia : decide (j < i) = true := decide_eq_true (by omega)
                      have hb1 : Aside0 (badB L i j = true) := ⟨by rw [hbad.out, hog, hole]; simp [hji]⟩
                      clear hji
                      go_wp2_with (first | (go_at_call 125; refine (tGood_calls _ o).mono ?_; rw [hog]; rintro e w5 ⟨rfl, hb5⟩; have hb50 := below_then (below_alloc (Below.refl wr.heap.size wr) (.cells #[.int .i64 o.f0, .int .i64 o.f1] 43)) (by simp) hb5; have q0 : w5.cell? ⟨wr.heap.size, 0, none⟩ = some (.int .i64 o.f0) := (hb5.cell (p := ⟨wr.heap.size, 0, none⟩) (by simp)).trans (by simp); have q1 : w5.cell? ⟨wr.heap.size, 1, none⟩ = some (.int .i64 o.f1) := (hb5.cell (p := ⟨wr.heap.size, 1, none⟩) (by simp)).trans (by simp); have r0 := (hb50.cell (p := ⟨Bt, 0, none⟩) hobs).trans s0; have r1 := (hb50.cell (p := ⟨Bt, 1, none⟩) hobs).trans s1; have hq5 := World.block_lt_of_cell? _ _ q0; have hr5 := World.block_lt_of_cell? _ _ r0) | (go_at_call 132; refine (tLe_calls _ o t).mono ?_; rw [hole]; rintro e w6 ⟨rfl, hb6⟩; have hb60 := below_then hb50 hb50.size hb6; replace q0 := (hb6.cell hq5).trans q0; replace q1 := (hb6.cell (p := ⟨wr.heap.size, 1, none⟩) hq5).trans q1; replace r0 := (hb6.cell hr5).trans r0; replace r1 := (hb6.cell (p := ⟨Bt, 1, none⟩) hr5).trans r1))
                      go_roundg (go - 1)
                      case measure => have := HK.out; omega
                      case rel => exact ⟨i + 1, by go_num, by have := HK.out; omega, by rw [outs_drop (keep_no HJL.out hb1.out)]; exact Kd.R_below hR1 (below_then hb4 hb4.size hb60), below_then hbx hbx.size (below_then hb4 hb4.size hb60)⟩
                    · have hjia : decide (j < i) = false := decide_eq_false (by omega)
                      have hb0 : Aside0 (badB L i j = false) := ⟨by rw [hbad.out, hog, hole]; simp [hji, hot.out]⟩
                      clear hji
                      go_wp2_with (first | (go_at_call 125; refine (tGood_calls _ o).mono ?_; rw [hog]; rintro e w5 ⟨rfl, hb5⟩; have hb50 := below_then (below_alloc (Below.refl wr.heap.size wr) (.cells #[.int .i64 o.f0, .int .i64 o.f1] 43)) (by simp) hb5; have q0 : w5.cell? ⟨wr.heap.size, 0, none⟩ = some (.int .i64 o.f0) := (hb5.cell (p := ⟨wr.heap.size, 0, none⟩) (by simp)).trans (by simp); have q1 : w5.cell? ⟨wr.heap.size, 1, none⟩ = some (.int .i64 o.f1) := (hb5.cell (p := ⟨wr.heap.size, 1, none⟩) (by simp)).trans (by simp); have r0 := (hb50.cell (p := ⟨Bt, 0, none⟩) hobs).trans s0; have r1 := (hb50.cell (p := ⟨Bt, 1, none⟩) hobs).trans s1; have hq5 := World.block_lt_of_cell? _ _ q0; have hr5 := World.block_lt_of_cell? _ _ r0) | (go_at_call 132; refine (tLe_calls _ o t).mono ?_; rw [hole]; rintro e w6 ⟨rfl, hb6⟩; have hb60 := below_then hb50 hb50.size hb6; replace q0 := (hb6.cell hq5).trans q0; replace q1 := (hb6.cell (p := ⟨wr.heap.size, 1, none⟩) hq5).trans q1; replace r0 := (hb6.cell hr5).trans r0; replace r1 := (hb6.cell (p := ⟨Bt, 1, none⟩) hr5).trans r1))
                      go_roundg (gk - 1)
                      case measure => have := HJ.out; omega
                      case rel => exact ⟨j + 1, by go_num, by have := HJ.out; omega, below_then hb4 hb4.size hb60, ⟨fun j' h => by
                        rcases Nat.lt_or_ge j' j with h1 | h1
                        · exact HA.out j' h1
                        · obtain rfl : j' = j := by omega
                          exact hb0.out⟩⟩
                  · have e1 : (o.f1 == t.f1) = false := beq_eq_false_iff_ne.2 hne1
                    have hb1 : Aside0 (badB L i j = true) := ⟨by rw [hbad.out, hog, hole]; simp [show o ≠ t from fun h => hne1 (by rw [h])]⟩
                    clear hne0 hne1
                    go_wp2_with (first | (go_at_call 125; refine (tGood_calls _ o).mono ?_; rw [hog]; rintro e w5 ⟨rfl, hb5⟩; have hb50 := below_then (below_alloc (Below.refl wr.heap.size wr) (.cells #[.int .i64 o.f0, .int .i64 o.f1] 43)) (by simp) hb5; have q0 : w5.cell? ⟨wr.heap.size, 0, none⟩ = some (.int .i64 o.f0) := (hb5.cell (p := ⟨wr.heap.size, 0, none⟩) (by simp)).trans (by simp); have q1 : w5.cell? ⟨wr.heap.size, 1, none⟩ = some (.int .i64 o.f1) := (hb5.cell (p := ⟨wr.heap.size, 1, none⟩) (by simp)).trans (by simp); have r0 := (hb50.cell (p := ⟨Bt, 0, none⟩) hobs).trans s0; have r1 := (hb50.cell (p := ⟨Bt, 1, none⟩) hobs).trans s1; have hq5 := World.block_lt_of_cell? _ _ q0; have hr5 := World.block_lt_of_cell? _ _ r0) | (go_at_call 132; refine (tLe_calls _ o t).mono ?_; rw [hole]; rintro e w6 ⟨rfl, hb6⟩; have hb60 := below_then hb50 hb50.size hb6; replace q0 := (hb6.cell hq5).trans q0; replace q1 := (hb6.cell (p := ⟨wr.heap.size, 1, none⟩) hq5).trans q1; replace r0 := (hb6.cell hr5).trans r0; replace r1 := (hb6.cell (p := ⟨Bt, 1, none⟩) hr5).trans r1))
                    go_roundg (go - 1)
                    case measure => have := HK.out; omega
                    case rel => exact ⟨i + 1, by go_num, by have := HK.out; omega, by rw [outs_drop (keep_no HJL.out hb1.out)]; exact Kd.R_below hR1 (below_then hb4 hb4.size hb60), below_then hbx hbx.size (below_then hb4 hb4.size hb60)⟩
                · have e0 : (o.f0 == t.f0) = false := beq_eq_false_iff_ne.2 hne0
                  have hb1 : Aside0 (badB L i j = true) := ⟨by rw [hbad.out, hog, hole]; simp [show o ≠ t from fun h => hne0 (by rw [h])]⟩
                  clear hne0
                  go_wp2_with (first | (go_at_call 125; refine (tGood_calls _ o).mono ?_; rw [hog]; rintro e w5 ⟨rfl, hb5⟩; have hb50 := below_then (below_alloc (Below.refl wr.heap.size wr) (.cells #[.int .i64 o.f0, .int .i64 o.f1] 43)) (by simp) hb5; have q0 : w5.cell? ⟨wr.heap.size, 0, none⟩ = some (.int .i64 o.f0) := (hb5.cell (p := ⟨wr.heap.size, 0, none⟩) (by simp)).trans (by simp); have q1 : w5.cell? ⟨wr.heap.size, 1, none⟩ = some (.int .i64 o.f1) := (hb5.cell (p := ⟨wr.heap.size, 1, none⟩) (by simp)).trans (by simp); have r0 := (hb50.cell (p := ⟨Bt, 0, none⟩) hobs).trans s0; have r1 := (hb50.cell (p := ⟨Bt, 1, none⟩) hobs).trans s1; have hq5 := World.block_lt_of_cell? _ _ q0; have hr5 := World.block_lt_of_cell? _ _ r0) | (go_at_call 132; refine (tLe_calls _ o t).mono ?_; rw [hole]; rintro e w6 ⟨rfl, hb6⟩; have hb60 := below_then hb50 hb50.size hb6; replace q0 := (hb6.cell hq5).trans q0; replace q1 := (hb6.cell (p := ⟨wr.heap.size, 1, none⟩) hq5).trans q1; replace r0 := (hb6.cell hr5).trans r0; replace r1 := (hb6.cell (p := ⟨Bt, 1, none⟩) hr5).trans r1))
                  go_roundg (go - 1)
                  case measure => have := HK.out; omega
                  case rel => exact ⟨i + 1, by go_num, by have := HK.out; omega, by rw [outs_drop (keep_no HJL.out hb1.out)]; exact Kd.R_below hR1 (below_then hb4 hb4.size hb60), below_then hbx hbx.size (below_then hb4 hb4.size hb60)⟩
          · obtain rfl : j = L.length := by omega
            clear hj
            have hkp : Aside0 (keepB L i = true) := ⟨keep_yes (by rw [HT.out, htg]) HA.out⟩
            have s0 := (hb4.cell (p := ⟨Bt, 0, none⟩) hts).trans t0
            have s1 := (hb4.cell (p := ⟨Bt, 1, none⟩) hts).trans t1
            have hR2 := Kd.R_below hR1 hb4
            go_wp2_with (at_builtin; refine app1 kTime (w0 := w) w.heap.size rfl (.tmp 43) (.tmp 45) 64 43 (.agg #[.int .i64 0, .int .i64 0]) 16 rfl Try.underlying64 infoTime rfl (by decide) (by omega) u3 (outs L i) t [.int .i64 t.f0, .int .i64 t.f1] rfl rfl ?aN ?aP ?aO ?aB ?aS ?aL ?_; (case aN => simp); (case aP => exact k43_mkM _ _ _ t); (case aO => exact hR2); (case aB => exact hb40); (case aS => exact hb40.size); (case aL => omega); intro v1 w2 hR3 hb3 hg3 hat3)
            go_roundg (go - 1)
            case measure => have := HK.out; omega
            case rel => exact ⟨i + 1, by go_num, by have := HK.out; omega, by rw [outs_keep hkp.out, HT.out]; exact hR3, hb3⟩
    · obtain rfl : i = L.length := by omega
      clear hk
      have hol := outs_len L L.length
      go_wp2_with (go_at_call 133; refine (SortTime_calls hR (by omega)).mono ?_; rintro e w2 ⟨rfl, F, hp, hs, hR2, hg2⟩)
      rw [Exit.noGoto_ret]
      go_ret
      exact ⟨_, F, rfl, hR2, hp, hs, hb.grown hg2 hb.size (fun k e => own_lo hR e.symm)⟩
end Go.Proofs.Ytiooalhfhnddjaa
end
section
set_option linter.unusedSimpArgs false
namespace Go.Proofs.Ytiooalhfhnddjaa
open Go.RowKit Go.Proofs.Ytiooalhfhnddjaa.MM Go.Proofs.Ytiooalhfhnddjaa.PX Go.Proofs.YtiooalhfhnddjaaW.PrintWords
set_option linter.unusedVariables false
theorem reach_good_is {g : List Op} (h : okg g = true) (s : Stamp) : reach_good.f g s.f0 s.f1.f0 s.f1.f1 = some (goodB g s) := by
  obtain ⟨k, hk⟩ := reach_Good_is g s
  unfold reach_Good.f at hk
  cases hc : graph_Check.f k g with
  | none => rw [hc] at hk; cases hk
  | some r =>
    rw [hc] at hk
    simp only [Option.bind_some] at hk
    obtain ⟨k2, hk2⟩ := graph_Check_is g
    have hm : ∀ (a b : Nat) (x y : Int × Int), graph_Check.f a g = some x → graph_Check.f b g = some y → x = y := by
      intro a b x y hx hy
      have h1 : ∀ (d a : Nat) (x : Int × Int), graph_Check.f a g = some x → graph_Check.f (a + d) g = some x := by
        intro d
        induction d with
        | zero => intro a x h; exact h
        | succ d ih => intro a x h; exact graph_Check.mono g (a + d) x (ih a x h)
      have h2 := h1 b a x hx
      have h3 := h1 a b y hy
      rw [Nat.add_comm] at h2
      rw [h2] at h3
      exact Option.some.inj h3
    have hr := hm k k2 r _ hc hk2
    have h0 : (chk g).2 = 0 := by simpa [okg] using h
    rw [hr] at hk
    rw [if_pos h0] at hk
    cases hg : reach_good.f g s.f0 s.f1.f0 s.f1.f1 with
    | none => rw [hg] at hk; cases hk
    | some b => rw [hg] at hk; exact hk
theorem good_calls (w : World) (A : Option Addr) (c : Nat) (g : List Op) (s : Stamp) (h : okg g = true) (hr : Kd.C kOp w A g.length g) (hc : g.length ≤ c) :
    Calls Try.prog 92 #[.agg #[.slice A g.length c], .agg #[.int .i64 s.f0, .int .i64 s.f1.f0, .int .i64 s.f1.f1]] w fun e w' => e = .returned (.bool (goodB g s)) ∧ Below w.heap.size w w' :=
  reach_good.calls A c g _ _ _ _ w hr hc (reach_good_is h s)
theorem tOut_calls (w : World) (t : Time) : Calls Try.prog 106 #[.agg #[.int .i64 t.f0, .int .i64 t.f1]] w fun e w' => e = .returned (.agg #[.int .i64 t.f0, .int .i64 0]) ∧ Below w.heap.size w w' :=
  stamp_Out.calls _ _ _ _ w (by rfl)
def timeOf (g : List Op) (loc : Int) (s : Stamp) : Option Time :=
  if goodB g s then if s.f0 = loc then some s.f1 else if reachB g s.f0 loc then some ⟨s.f1.f0, 0⟩ else none else none
def timesOf (g : List Op) (loc : Int) (S : List Stamp) : List Time := S.filterMap (timeOf g loc)
theorem ways_square (g : List Op) : Square g.length (waysOf g) := by
  refine ⟨by simp [waysOf], fun r hr => ?_⟩
  unfold waysOf at hr
  obtain ⟨a, _, rfl⟩ := List.mem_map.1 hr
  simp
theorem ways_at {g : List Op} {a b : Int} (ha : 0 ≤ a ∧ a < g.length) (hb : 0 ≤ b ∧ b < g.length) : ((waysOf g).getD a.toNat []).getD b.toNat false = reachB g a b := by
  have h1 : a.toNat < g.length := by omega
  have h2 : b.toNat < g.length := by omega
  unfold waysOf
  simp [List.getD_eq_getElem?_getD, h1, h2]
  rw [Int.max_eq_left ha.1, Int.max_eq_left hb.1]
def frontOk (g : List Op) (loc : Int) : Bool := okg g && decide (0 ≤ loc ∧ loc < g.length)
set_option maxRecDepth 100000 in
set_option maxHeartbeats 4000000 in
theorem RFront_calls (w : World) (A : Option Addr) (c : Nat) (g : List Op) (hr : Kd.C kOp w A g.length g) (hc : g.length ≤ c) (hil : ∀ o ∈ g, o.f1.length ≤ 1000000000)
    (sA : Option Addr) (sc : Nat) (S : List Stamp) (hS : Kd.C kStamp w sA S.length S) (hSl : S.length ≤ 1000000000) (loc : Int) :
    Calls Try.prog 73 #[.agg #[.slice A g.length c], .slice sA S.length sc, .int .i64 loc] w fun e w' => ∃ v F, e = .returned v ∧ Kd.R kTime 43 w' w.heap.size (fun _ => True) v F ∧ Below w.heap.size w w' ∧
      F.Pairwise (fun a b => a.f0 ≤ b.f0) ∧ F.Perm (if frontOk g loc then outs (timesOf g loc S) (timesOf g loc S).length else []) := by
  have hr0 := Kd.C_below hr (below_alloc (Below.refl _ w) (.cells #[.slice A g.length c] 24))
  obtain ⟨T, hT⟩ : ∃ T, T = (if frontOk g loc then outs (timesOf g loc S) (timesOf g loc S).length else []) := ⟨_, rfl⟩
  rw [← hT]
  have HT := Aside0.mk hT
  clear hT
  have hRC := Reaches_calls _ A c g hr0 hc hil
  obtain ⟨ways, hways⟩ : ∃ ways, ways = (if okg g then waysOf g else []) := ⟨_, rfl⟩
  rw [← hways] at hRC
  have HW := Aside0.mk hways
  have hwl : ways.length = if okg g then g.length else 0 := by rw [hways]; split <;> simp [waysOf]
  have HWL := Aside0.mk hwl
  clear hways hwl
  go_enter Try.func73, Try.ntmps73
  have hout : loc < 0 ∨ (ways.length : Int) ≤ loc → Aside0 (T = []) := fun h => ⟨by
    have hwl := HWL.out
    rw [HT.out, if_neg]
    unfold frontOk
    cases hok : okg g
    · simp
    · rw [hok] at hwl
      simp at hwl
      simp
      omega⟩
  by_cases hl0 : loc < 0
  · have hd : decide (loc < 0) = true := decide_eq_true hl0
    have hTn := hout (.inl hl0)
    go_wp2_with (go_at_call 53; refine hRC.mono ?_; rintro e w1 ⟨v, rfl, hw, hb1⟩)
    go_ret
    exact ⟨_, [], rfl, Kd.R_nil _ _ _ _ _, below_then (below_alloc (Below.refl _ w) _) (by simp) hb1, .nil, by rw [hTn.out]⟩
  · have hd : decide (loc < 0) = false := decide_eq_false hl0
    by_cases hl1 : (ways.length : Int) ≤ loc
    · have hd1 : decide ((ways.length : Int) ≤ loc) = true := decide_eq_true hl1
      have hTn := hout (.inr hl1)
      go_wp2_with (go_at_call 53; refine hRC.mono ?_; rintro e w1 ⟨v, rfl, hw, hb1⟩; obtain ⟨wA, wc, rfl, hwc, hwr⟩ := Kd.R_reads hw)
      go_ret
      exact ⟨_, [], rfl, Kd.R_nil _ _ _ _ _, below_then (below_alloc (Below.refl _ w) _) (by simp) hb1, .nil, by rw [hTn.out]⟩
    · have hd1 : decide ((ways.length : Int) ≤ loc) = false := decide_eq_false hl1
      have hokg : okg g = true := by
        have hwl := HWL.out
        cases hok : okg g
        · rw [hok] at hwl
          simp at hwl
          rw [hwl] at hl1
          simp at hl1
          omega
        · rfl
      have hwl : ways.length = g.length := by rw [HWL.out, hokg]; rfl
      have hTy : Aside0 (T = outs (timesOf g loc S) (timesOf g loc S).length) := ⟨by
        rw [HT.out, if_pos]
        unfold frontOk
        rw [hokg]
        simp
        omega⟩
      have HWY : Aside0 (ways = waysOf g) := ⟨by rw [HW.out, hokg]; rfl⟩
      clear hout HT HWL HW
      go_wp2_with (go_at_call 53; refine hRC.mono ?_; rintro e w1 ⟨v, rfl, hw, hb1⟩; obtain ⟨wA, wc, rfl, hwc, hwr⟩ := Kd.R_reads hw)
      have hb10 := below_then (below_alloc (Below.refl _ w) (.cells #[.slice A g.length c] 24)) (by simp) hb1
      have k0 : w1.cell? ⟨w.heap.size, 0, none⟩ = some (.slice A g.length c) := (hb1.cell (p := ⟨w.heap.size, 0, none⟩) (by simp)).trans (by simp)
      have hs1 : w.heap.size < w1.heap.size := by have := hb1.size; simp at this; omega
      have hS1 := Kd.C_below hS hb10
      have hr1 := Kd.C_below hr hb10
      clear hb1 hw
      go_loopg [8, 23] S.length (fun kq v8 v23 wr => ∃ i : Nat, v23 = .int .i64 i ∧ i + kq = S.length ∧ Kd.R kTime 43 wr w1.heap.size (fun _ => True) v8 (timesOf g loc (S.take i)) ∧ Below w1.heap.size w1 wr)
      case atStart => exact ⟨0, rfl, by simp, Kd.R_nil _ _ _ _ _, Below.refl _ _⟩
      case round =>
        obtain ⟨i, rfl, hk, hR, hb⟩ := hrel
        have hb0 := below_then hb10 hb10.size hb
        by_cases hlt : i < S.length
        · obtain ⟨ad, e1, x0, x1, x2⟩ := at_T45 hS1 (i : Int) (by omega) (by omega)
          cases e1
          simp only [Int.toNat_natCast] at x0 x1 x2
          have hx : S[i]? = some (rd_T45 S i) := by
            unfold rd_T45
            simp [List.getD_eq_getElem?_getD, hlt]
          generalize rd_T45 S i = x at x0 x1 x2 hx
          have HX := Aside0.mk hx
          have HK := Aside0.mk hk
          replace x0 := (hb.cell (World.block_lt_of_cell? w1 _ x0)).trans x0
          replace x1 := (hb.cell (World.block_lt_of_cell? w1 _ x1)).trans x1
          replace x2 := (hb.cell (World.block_lt_of_cell? w1 _ x2)).trans x2
          replace k0 := (hb.cell (p := ⟨w.heap.size, 0, none⟩) hs1).trans k0
          have hsr : w.heap.size < wr.heap.size := Nat.lt_of_lt_of_le hs1 hb.size
          have htl : (timesOf g loc (S.take i)).length ≤ i := Nat.le_trans (List.length_filterMap_le _ _) (by rw [List.length_take]; omega)
          have HN : ∀ o, timeOf g loc x = o → Aside0 (timesOf g loc (S.take (i + 1)) = timesOf g loc (S.take i) ++ o.toList) := fun o ho => ⟨by
            rw [take_snoc_of HX.out, timesOf, List.filterMap_append]
            congr 1
            simp only [List.filterMap_cons, List.filterMap_nil, ho]
            cases o <;> rfl⟩
          clear hx hk
          cases hgx : goodB g x with
          | false =>
            have hn := HN none (by simp [timeOf, hgx])
            go_wp2_with (go_at_call 92; refine (good_calls _ A c g x hokg ?hr hc).mono ?_; (case hr => exact Kd.C_below hr1 (below_alloc hb _)); rw [hgx]; rintro e w5 ⟨rfl, hb5⟩; have hb51 := below_then (below_alloc (Below.refl wr.heap.size wr) (.cells #[.int .i64 x.f0, .int .i64 x.f1.f0, .int .i64 x.f1.f1] 45)) (by simp) hb5; have q0 : w5.cell? ⟨wr.heap.size, 0, none⟩ = some (.int .i64 x.f0) := (hb5.cell (p := ⟨wr.heap.size, 0, none⟩) (by simp)).trans (by simp); have q1 : w5.cell? ⟨wr.heap.size, 1, none⟩ = some (.int .i64 x.f1.f0) := (hb5.cell (p := ⟨wr.heap.size, 1, none⟩) (by simp)).trans (by simp); have q2 : w5.cell? ⟨wr.heap.size, 2, none⟩ = some (.int .i64 x.f1.f1) := (hb5.cell (p := ⟨wr.heap.size, 2, none⟩) (by simp)).trans (by simp); have hR5 := Kd.R_below (Kd.R_alloc hR (.cells #[.int .i64 x.f0, .int .i64 x.f1.f0, .int .i64 x.f1.f1] 45)) hb5; have hbw1 := below_then hb hb.size hb51; have hbw0 := below_then hb0 hb0.size hb51; have hq5 : wr.heap.size < w5.heap.size := World.block_lt_of_cell? _ _ q0)
            go_roundg (gk - 1)
            case measure => have := HK.out; omega
            case rel => exact ⟨i + 1, by go_num, by have := HK.out; omega, by rw [hn.out]; simpa using hR5, hbw1⟩
          | true =>
            have hxl := goodB_loc hgx
            by_cases h0 : x.f0 = loc
            · have h0b : (x.f0 == loc) = true := beq_iff_eq.2 h0
              have hn := HN (some x.f1) (by simp [timeOf, hgx, h0])
              clear h0
              go_wp2_with (first | (go_at_call 92; refine (good_calls _ A c g x hokg ?hr hc).mono ?_; (case hr => exact Kd.C_below hr1 (below_alloc hb _)); rw [hgx]; rintro e w5 ⟨rfl, hb5⟩; have hb51 := below_then (below_alloc (Below.refl wr.heap.size wr) (.cells #[.int .i64 x.f0, .int .i64 x.f1.f0, .int .i64 x.f1.f1] 45)) (by simp) hb5; have q0 : w5.cell? ⟨wr.heap.size, 0, none⟩ = some (.int .i64 x.f0) := (hb5.cell (p := ⟨wr.heap.size, 0, none⟩) (by simp)).trans (by simp); have q1 : w5.cell? ⟨wr.heap.size, 1, none⟩ = some (.int .i64 x.f1.f0) := (hb5.cell (p := ⟨wr.heap.size, 1, none⟩) (by simp)).trans (by simp); have q2 : w5.cell? ⟨wr.heap.size, 2, none⟩ = some (.int .i64 x.f1.f1) := (hb5.cell (p := ⟨wr.heap.size, 2, none⟩) (by simp)).trans (by simp); have hR5 := Kd.R_below (Kd.R_alloc hR (.cells #[.int .i64 x.f0, .int .i64 x.f1.f0, .int .i64 x.f1.f1] 45)) hb5; have hbw1 := below_then hb hb.size hb51; have hbw0 := below_then hb0 hb0.size hb51; have hq5 : wr.heap.size < w5.heap.size := World.block_lt_of_cell? _ _ q0) | (at_builtin; refine app1 kTime (w0 := w1) w1.heap.size rfl (.tmp 37) (.tmp 40) 64 43 (.agg #[.int .i64 0, .int .i64 0]) 16 rfl Try.underlying64 infoTime rfl (by decide) (by omega) u8 (timesOf g loc (S.take i)) x.f1 [.int .i64 x.f1.f0, .int .i64 x.f1.f1] rfl rfl ?aN ?aP ?aO ?aB ?aS ?aL ?_; (case aN => simp); (case aP => exact k43_mkM _ _ _ x.f1); (case aO => exact hR5); (case aB => exact hbw1); (case aS => exact hbw1.size); (case aL => omega); intro v1 w7 hR7 hb7 hg7 hat7))
              go_roundg (gk - 1)
              case measure => have := HK.out; omega
              case rel => exact ⟨i + 1, by go_num, by have := HK.out; omega, by rw [hn.out]; exact hR7, hb7⟩
            · have h0b : (x.f0 == loc) = false := beq_eq_false_iff_ne.2 h0
              obtain ⟨row, hrow, hrl2, hv⟩ := square_at (by rw [HWY.out]; exact ways_square g : Square g.length ways) hxl (by omega : 0 ≤ loc ∧ loc < g.length)
              obtain ⟨wd, rad, rcc, e2, y0, y1⟩ := at_rows hwr x.f0.toNat loc.toNat hrow hv
              subst e2
              rw [hrl2] at y0
              rw [HWY.out, ways_at hxl (by omega)] at y1
              have H0 := Aside0.mk h0
              clear hrow hv hrl2 h0
              have hi1 : 0 ≤ x.f0 := hxl.1
              have hi2 : x.f0 < (g.length : Int) := hxl.2
              have hi3 : 0 ≤ loc := by omega
              have hi4 : loc < (g.length : Int) := by omega
              have hy0 := World.block_lt_of_cell? _ _ y0
              have hy1 := World.block_lt_of_cell? _ _ y1
              cases hre : reachB g x.f0 loc with
              | false =>
                rw [hre] at y1
                have hn := HN none (by simp [timeOf, hgx, H0.out, hre])
                go_wp2_with (first | (go_at_call 92; refine (good_calls _ A c g x hokg ?hr hc).mono ?_; (case hr => exact Kd.C_below hr1 (below_alloc hb _)); rw [hgx]; rintro e w5 ⟨rfl, hb5⟩; have hb51 := below_then (below_alloc (Below.refl wr.heap.size wr) (.cells #[.int .i64 x.f0, .int .i64 x.f1.f0, .int .i64 x.f1.f1] 45)) (by simp) hb5; have q0 : w5.cell? ⟨wr.heap.size, 0, none⟩ = some (.int .i64 x.f0) := (hb5.cell (p := ⟨wr.heap.size, 0, none⟩) (by simp)).trans (by simp); have q1 : w5.cell? ⟨wr.heap.size, 1, none⟩ = some (.int .i64 x.f1.f0) := (hb5.cell (p := ⟨wr.heap.size, 1, none⟩) (by simp)).trans (by simp); have q2 : w5.cell? ⟨wr.heap.size, 2, none⟩ = some (.int .i64 x.f1.f1) := (hb5.cell (p := ⟨wr.heap.size, 2, none⟩) (by simp)).trans (by simp); have hR5 := Kd.R_below (Kd.R_alloc hR (.cells #[.int .i64 x.f0, .int .i64 x.f1.f0, .int .i64 x.f1.f1] 45)) hb5; have hbw1 := below_then hb hb.size hb51; have hbw0 := below_then hb0 hb0.size hb51; have hq5 : wr.heap.size < w5.heap.size := World.block_lt_of_cell? _ _ q0; have z0 := (hbw1.cell hy0).trans y0; have z1 := (hbw1.cell hy1).trans y1))
                go_roundg (gk - 1)
                case measure => have := HK.out; omega
                case rel => exact ⟨i + 1, by go_num, by have := HK.out; omega, by rw [hn.out]; simpa using hR5, hbw1⟩
              | true =>
                rw [hre] at y1
                have hn := HN (some ⟨x.f1.f0, 0⟩) (by simp [timeOf, hgx, H0.out, hre])
                go_wp2_with (first | (go_at_call 92; refine (good_calls _ A c g x hokg ?hr hc).mono ?_; (case hr => exact Kd.C_below hr1 (below_alloc hb _)); rw [hgx]; rintro e w5 ⟨rfl, hb5⟩; have hb51 := below_then (below_alloc (Below.refl wr.heap.size wr) (.cells #[.int .i64 x.f0, .int .i64 x.f1.f0, .int .i64 x.f1.f1] 45)) (by simp) hb5; have q0 : w5.cell? ⟨wr.heap.size, 0, none⟩ = some (.int .i64 x.f0) := (hb5.cell (p := ⟨wr.heap.size, 0, none⟩) (by simp)).trans (by simp); have q1 : w5.cell? ⟨wr.heap.size, 1, none⟩ = some (.int .i64 x.f1.f0) := (hb5.cell (p := ⟨wr.heap.size, 1, none⟩) (by simp)).trans (by simp); have q2 : w5.cell? ⟨wr.heap.size, 2, none⟩ = some (.int .i64 x.f1.f1) := (hb5.cell (p := ⟨wr.heap.size, 2, none⟩) (by simp)).trans (by simp); have hR5 := Kd.R_below (Kd.R_alloc hR (.cells #[.int .i64 x.f0, .int .i64 x.f1.f0, .int .i64 x.f1.f1] 45)) hb5; have hbw1 := below_then hb hb.size hb51; have hbw0 := below_then hb0 hb0.size hb51; have hq5 : wr.heap.size < w5.heap.size := World.block_lt_of_cell? _ _ q0; have z0 := (hbw1.cell hy0).trans y0; have z1 := (hbw1.cell hy1).trans y1) | (go_at_call 106; refine (tOut_calls _ x.f1).mono ?_; rintro e w6 ⟨rfl, hb6⟩; have hR6 := Kd.R_below hR5 hb6; have hbw6 := below_then hbw1 hbw1.size hb6) | (at_builtin; refine app1 kTime (w0 := w1) w1.heap.size rfl (.tmp 51) (.tmp 55) 64 43 (.agg #[.int .i64 0, .int .i64 0]) 16 rfl Try.underlying64 infoTime rfl (by decide) (by omega) u8 (timesOf g loc (S.take i)) ⟨x.f1.f0, 0⟩ [.int .i64 x.f1.f0, .int .i64 0] rfl rfl ?aN ?aP ?aO ?aB ?aS ?aL ?_; (case aN => simp); (case aP => exact k43_mkM _ _ _ ⟨x.f1.f0, 0⟩); (case aO => exact hR6); (case aB => exact hbw6); (case aS => exact hbw6.size); (case aL => omega); intro v1 w7 hR7 hb7 hg7 hat7))
                go_roundg (gk - 1)
                case measure => have := HK.out; omega
                case rel => exact ⟨i + 1, by go_num, by have := HK.out; omega, by rw [hn.out]; exact hR7, hb7⟩
        · obtain rfl : i = S.length := by omega
          clear hk
          rw [List.take_length] at hR
          obtain ⟨tA, tc, rfl, htc, htr⟩ := Kd.R_reads hR
          have htl : (timesOf g loc S).length ≤ S.length := List.length_filterMap_le _ _
          go_wp2_with (go_at_call 107; refine (Front_calls _ tA tc _ htr (by omega)).mono ?_; rintro e w2 ⟨v, F, rfl, hF, hp, hs, hb2⟩)
          go_ret
          exact ⟨_, F, rfl, Kd.R_lower hF hb0.size, below_then hb0 hb0.size hb2, hs, by rw [hTy.out]; exact hp⟩
end Go.Proofs.Ytiooalhfhnddjaa
end
section
set_option linter.unusedSimpArgs false
namespace Go.Proofs.Ytiooalhfhnddjaa
open Go.RowKit Go.Proofs.Ytiooalhfhnddjaa.MM Go.Proofs.Ytiooalhfhnddjaa.PX Go.Proofs.YtiooalhfhnddjaaW.PrintWords
set_option linter.unusedVariables false
theorem infoOp : (Try.prog.info? 95).map (fun i => (i.zero, i.size, i.bytes)) = some (some (.agg #[.int .i64 0, .slice none 0 0, .int .i64 0, .int .u32 0, .int .i64 0, .int .i64 0, .int .u32 0]), 7, 72) := by kernel_rfl
def NewPost (w : World) (g : List Op) (e : Ending) (w' : World) : Prop :=
  Below w.heap.size w w' ∧ if okg g then ∃ p mb, e = .returned (.tuple #[.pointer (some ⟨p, 0, none⟩), .int .i64 0]) ∧ TrkAt w' w.heap.size p mb g (waysOf g) [] else e = .returned (.tuple #[.pointer none, .int .i64 13])
set_option maxRecDepth 100000 in
set_option maxHeartbeats 4000000 in
theorem New_calls (w : World) (A : Option Addr) (c : Nat) (g : List Op) (hr : Kd.C kOp w A g.length g) (hc : g.length ≤ c) (hil : ∀ o ∈ g, o.f1.length ≤ 1000000000) :
    Calls Try.prog 15 #[.agg #[.slice A g.length c]] w (NewPost w g) := by
  have hr0 := Kd.C_below hr (below_alloc (Below.refl _ w) (.cells #[.slice A g.length c] 24))
  have hRC := Reaches_calls _ A c g hr0 hc hil
  obtain ⟨ways, hways⟩ : ∃ ways, ways = (if okg g then waysOf g else []) := ⟨_, rfl⟩
  rw [← hways] at hRC
  have hwl : ways.length = if okg g then g.length else 0 := by rw [hways]; split <;> simp [waysOf]
  have hmm := @run_makeMap Try.prog
  have HG := Aside0.mk (@okg_len g)
  have HIL := Aside0.mk hil
  cases hok : okg g with
  | false =>
    rw [hok] at hwl
    have hn : ways = [] := List.eq_nil_of_length_eq_zero hwl
    subst hn
    clear hways hwl
    have HOK := Aside0.mk hok
    go_enter Try.func15, Try.ntmps15
    go_wp2_with (go_at_call 53; refine hRC.mono ?_; rintro e w1 ⟨v, rfl, hw, hb1⟩; obtain ⟨wA, wc, rfl, hwc, hwr⟩ := Kd.R_reads hw)
    go_ret2
    exact ⟨below_then (below_alloc (Below.refl _ w) _) (by simp) hb1, by rw [HOK.out]; rfl⟩
  | true =>
    rw [hok] at hwl hways
    simp only [if_true] at hwl hways
    have hl16 := HG.out hok
    have HOK := Aside0.mk hok
    have HWY := Aside0.mk hways
    have hne : ((g.length : Int) == 0) = false := by rw [beq_eq_false_iff_ne]; omega
    clear hok hways HG
    go_enter Try.func15, Try.ntmps15
    go_wp2_with (go_at_call 53; refine hRC.mono ?_; rintro e w1 ⟨v, rfl, hw, hb1⟩; obtain ⟨wA, wc, rfl, hwc, hwr⟩ := Kd.R_reads hw; rw [hwl] at hw ⊢; have k0 : w1.cell? ⟨w.heap.size, 0, none⟩ = some (.slice A g.length c) := (hb1.cell (p := ⟨w.heap.size, 0, none⟩) (by simp)).trans (by simp); have hs1 : w.heap.size < w1.heap.size := World.block_lt_of_cell? _ _ k0)
    have hb10 := below_then (below_alloc (Below.refl _ w) (.cells #[.slice A g.length c] 24)) (by simp) hb1
    have hw0 := Kd.R_lower hw (base' := w.heap.size) (by simp)
    clear hb1 hw hwc hwr
    obtain ⟨Bo, hBo⟩ : ∃ Bo, Bo = w1.heap.size := ⟨_, rfl⟩
    rw [← hBo]
    obtain ⟨W1, hW1⟩ : ∃ W1, W1 = w1.alloc (.cells #[.slice none 0 0] 24) := ⟨_, rfl⟩
    rw [← hW1]
    have hbW : Below w.heap.size w W1 := by rw [hW1]; exact below_alloc hb10 _
    have hwW : Kd.R kRow 125 W1 w.heap.size (fun _ => True) (.slice wA g.length wc) ways := by rw [hW1]; exact Kd.R_alloc hw0 _
    have hbo : W1.heap[Bo]? = some (.cells #[.slice none 0 0] 24 (0, 0)) := by rw [hW1, hBo]; exact heap_alloc_new w1 _
    have hrW := Kd.C_below hr hbW
    have hBow : w.heap.size < Bo := by omega
    clear hBo hW1 k0 hs1 hw0 hb10 hr0
    go_loopg [16] g.length (fun kq v16 wr => ∃ (i : Nat) (vo : Value), v16 = .int .i64 i ∧ i + kq = g.length ∧ wr.heap[Bo]? = some (.cells #[vo] 24 (0, 0)) ∧ Kd.R kOp 95 wr W1.heap.size (fun _ => True) vo (g.take i) ∧ (∀ k, k < W1.heap.size → k ≠ Bo → wr.heap[k]? = W1.heap[k]?) ∧ Below w.heap.size w wr ∧ W1.heap.size ≤ wr.heap.size)
    case atStart => exact ⟨0, _, rfl, by simp, hbo, Kd.R_nil _ _ _ _ _, fun _ _ _ => rfl, hbW, Nat.le_refl _⟩
    case round =>
      obtain ⟨i, vo, rfl, hk, hbr, hR, hkeep, hb, hsz⟩ := hrel
      by_cases hlt : i < g.length
      · obtain ⟨ad, A1, c1, e1, x0, x1, x2, x3, x4, x5, x6, hc1, hins⟩ := at_T95 hr (i : Int) (by omega) (by omega)
        cases e1
        simp only [Int.toNat_natCast] at x0 x1 x2 x3 x4 x5 x6
        have ho : g[i]? = some (rd_T95 g i) := by
          unfold rd_T95
          simp [List.getD_eq_getElem?_getD, hlt]
        generalize rd_T95 g i = o at x0 x1 x2 x3 x4 x5 x6 hc1 hins ho
        have hol := HIL.out o (List.mem_of_getElem? ho)
        replace x0 := (hb.cell (World.block_lt_of_cell? w _ x0)).trans x0
        replace x1 := (hb.cell (World.block_lt_of_cell? w _ x1)).trans x1
        replace x2 := (hb.cell (World.block_lt_of_cell? w _ x2)).trans x2
        replace x3 := (hb.cell (World.block_lt_of_cell? w _ x3)).trans x3
        replace x4 := (hb.cell (World.block_lt_of_cell? w _ x4)).trans x4
        replace x5 := (hb.cell (World.block_lt_of_cell? w _ x5)).trans x5
        replace x6 := (hb.cell (World.block_lt_of_cell? w _ x6)).trans x6
        have HO := Aside0.mk ho
        have HK := Aside0.mk hk
        clear ho hk
        have hbol : Bo < wr.heap.size := blk_lt hbr
        have hins7 : Kd.C (Kd.int .i64) (wr.alloc (.cells #[.int .i64 o.f0, .slice A1 o.f1.length c1, .int .i64 o.f2, .int .u32 o.f3, .int .i64 o.f4, .int .i64 o.f5, .int .u32 o.f6] 95)) A1 o.f1.length o.f1 := Kd.C_below hins (below_alloc hb _)
        have hC := Aside0.mk (CloneInt_calls _ A1 c1 o.f1 hins7 hol)
        have hB7 := Aside0.mk (heap_alloc_new wr (.cells #[.int .i64 o.f0, .slice A1 o.f1.length c1, .int .i64 o.f2, .int .u32 o.f3, .int .i64 o.f4, .int .i64 o.f5, .int .u32 o.f6] 95))
        have hbr7 := Aside0.mk (blk_alloc hbr (.cells #[.int .i64 o.f0, .slice A1 o.f1.length c1, .int .i64 o.f2, .int .u32 o.f3, .int .i64 o.f4, .int .i64 o.f5, .int .u32 o.f6] 95))
        have hb70 := Aside0.mk (below_alloc hb (.cells #[.int .i64 o.f0, .slice A1 o.f1.length c1, .int .i64 o.f2, .int .u32 o.f3, .int .i64 o.f4, .int .i64 o.f5, .int .u32 o.f6] 95))
        clear hins7 hins hc1
        have hbol := blk_lt hbr
        have hne1 : wr.heap.size ≠ Bo := by omega
        have hne2 : Bo ≠ wr.heap.size := by omega
        have hR7e := Aside0.mk (Kd.R_alloc (Kd.R_elderB hR wr.heap.size (Nat.le_refl _)) (.cells #[.int .i64 o.f0, .slice A1 o.f1.length c1, .int .i64 o.f2, .int .u32 o.f3, .int .i64 o.f4, .int .i64 o.f5, .int .u32 o.f6] 95))
        have hvo := Aside0.mk (Kd.R_lt hR)
        have hvb := Aside0.mk (Kd.R_base hR)
        have hlen : Aside0 ((g.take i).length = i) := ⟨by rw [List.length_take]; omega⟩
        clear hbr hR
        go_wp2_with (first | (go_at_call 54; refine hC.out.mono ?_; rintro e w8 ⟨v, rfl, hv8, hb8⟩; obtain ⟨vA, vc, rfl, hvc, hvr⟩ := Kd.R_reads hv8; clear hvr; have hB8 := Aside0.mk (blk_below hB7.out hb8); have hl8 := Nat.lt_of_lt_of_le (show wr.heap.size < _ by simp) hb8.size; have d0 : w8.cell? ⟨wr.heap.size, 0, none⟩ = some (.int .i64 o.f0) := (blk_cell hB8.out 0).trans rfl; have d1 : w8.cell? ⟨wr.heap.size, 1, none⟩ = some (.slice A1 o.f1.length c1) := (blk_cell hB8.out 1).trans rfl; have d2 : w8.cell? ⟨wr.heap.size, 2, none⟩ = some (.int .i64 o.f2) := (blk_cell hB8.out 2).trans rfl; have d3 : w8.cell? ⟨wr.heap.size, 3, none⟩ = some (.int .u32 o.f3) := (blk_cell hB8.out 3).trans rfl; have d4 : w8.cell? ⟨wr.heap.size, 4, none⟩ = some (.int .i64 o.f4) := (blk_cell hB8.out 4).trans rfl; have d5 : w8.cell? ⟨wr.heap.size, 5, none⟩ = some (.int .i64 o.f5) := (blk_cell hB8.out 5).trans rfl; have d6 : w8.cell? ⟨wr.heap.size, 6, none⟩ = some (.int .u32 o.f6) := (blk_cell hB8.out 6).trans rfl; have df : w8.frozen? ⟨wr.heap.size, 1, none⟩ = false := blk_frozen hB8.out 1; have hbr8 := Aside0.mk (blk_below hbr7.out hb8); have dB : w8.cell? ⟨Bo, 0, none⟩ = some vo := (blk_cell hbr8.out 0).trans rfl; have dBf : w8.frozen? ⟨Bo, 0, none⟩ = false := blk_frozen hbr8.out 0; have hR9 := Aside0.mk (Kd.R_far (Kd.R_below hR7e.out hb8) (p := ⟨wr.heap.size, 1, none⟩) (fun k hk => hk.2) (.slice vA o.f1.length vc)); have hB9 := Aside0.mk (blk_far hbr8.out (p := ⟨wr.heap.size, 1, none⟩) hne2 (.slice vA o.f1.length vc)); have hv9 := Aside0.mk (Kd.R_set hv8 hB8.out (by decide) 1 (.slice vA o.f1.length vc)); clear hv8) | (at_builtin; refine app1 kOp (w0 := (w8.setCell ⟨wr.heap.size, 1, none⟩ (.slice vA o.f1.length vc))) W1.heap.size rfl (.tmp 25) (.tmp 27) 22 95 (.agg #[.int .i64 0, .slice none 0 0, .int .i64 0, .int .u32 0, .int .i64 0, .int .i64 0, .int .u32 0]) 72 rfl Try.underlying22 infoOp rfl (by decide) (by omega) vo (g.take i) o [.int .i64 o.f0, .slice vA o.f1.length vc, .int .i64 o.f2, .int .u32 o.f3, .int .i64 o.f4, .int .i64 o.f5, .int .u32 o.f6] rfl rfl ?aN ?aP ?aO ?aB ?aS ?aL ?_; (case aN => simp); (case aP => exact k95_mkM _ _ _ o (Kd.R_mono (Kd.R_lower (Kd.R_bound hv9.out) (by simp; omega)) (fun k hk he => by have h1 := hk.2.1; have h2 := hvo.out k he.symm; simp at h1; omega))); (case aO => exact Kd.R_drop hR9.out); (case aB => exact Below.refl _ _); (case aS => simp; omega); (case aL => have := hlen.out; omega); intro v1 w10 hR10 hb10 hg10 hat10; obtain ⟨v1A, v1c, rfl, hv1c, hv1r⟩ := Kd.R_reads hR10; clear hv1r; have hB10 := Aside0.mk (blk_grown hB9.out hg10 (Kd.R_ne hR9.out hB9.out (by decide))); have z0 : w10.cell? ⟨Bo, 0, none⟩ = some vo := (blk_cell hB10.out 0).trans rfl; have z1 : w10.frozen? ⟨Bo, 0, none⟩ = false := blk_frozen hB10.out 0; have HR10 := Aside0.mk hR10; have HG10 := Aside0.mk hg10; clear hR10 hg10 hat10))
        have hgo := HG10.out
        go_roundg (gk - 1)
        case measure => have := HK.out; omega
        case rel =>
          have hbw9 : Below w.heap.size w (w8.setCell ⟨wr.heap.size, 1, none⟩ (.slice vA o.f1.length vc)) := (below_then hb70.out hb70.out.size hb8).setCell (p := ⟨wr.heap.size, 1, none⟩) (by have := hb.size; simp; omega) _
          have hbw10 : Below w.heap.size w w10 := hbw9.grown hgo hbw9.size (fun k e => Nat.le_trans hbW.size (hvb.out k e))
          have hml : min i g.length + 1 = (g.take i ++ [o]).length := by simp
          rw [hml]
          refine ⟨i + 1, _, by go_num, by have := HK.out; omega, blk_set hB10.out 0 _, ?_, fun k hk hkb => ?_, hbw10.setCell (p := ⟨Bo, 0, none⟩) (by simp; omega) _, ?_⟩
          · rw [take_snoc_of HO.out]
            exact Kd.R_set HR10.out hB10.out (by decide) 0 _
          · have hk8 : k < (wr.alloc (.cells #[.int .i64 o.f0, .slice A1 o.f1.length c1, .int .i64 o.f2, .int .u32 o.f3, .int .i64 o.f4, .int .i64 o.f5, .int .u32 o.f6] 95)).heap.size := by simp; omega
            have hk9 : k < (w8.setCell ⟨wr.heap.size, 1, none⟩ (.slice vA o.f1.length vc)).heap.size := by have := hb8.size; simp at this hk8 ⊢; omega
            have e1 := Below.heap_setCell w10 ⟨Bo, 0, none⟩ (.slice v1A (g.take i ++ [o]).length v1c) k hkb
            have e2 := hgo.block k hk9 (fun e => by have := hvb.out k e.symm; omega)
            have e3 := Below.heap_setCell w8 ⟨wr.heap.size, 1, none⟩ (.slice vA o.f1.length vc) k (by simp; omega)
            exact e1.trans (e2.trans (e3.trans ((hb8.block k hk8).trans ((Below.heap_alloc wr _ k (by omega)).trans (hkeep k hk hkb)))))
          · have h1 := hgo.size
            have h2 := hb8.size
            simp at h1 h2 ⊢
            omega
      · obtain rfl : i = g.length := by omega
        clear hk
        rw [List.take_length] at hR
        have k0 : wr.cell? ⟨Bo, 0, none⟩ = some vo := by rw [blk_cell hbr]; rfl
        have hwr2 : Kd.R kRow 125 wr w.heap.size (fun _ => True) (.slice wA g.length wc) ways := Kd.R_mono (Kd.R_step (Kd.R_types hwW hbo (by decide)) (fun k hk hlt => hkeep k hlt hk.2)) (fun _ _ => trivial)
        have hR2 := Kd.R_lower hR hbW.size
        go_wp2
        go_ret2
        refine ⟨below_alloc (below_alloc hb _) _, ?_⟩
        rw [HOK.out]
        refine ⟨wr.heap.size + 1, wr.heap.size, rfl, vo, .slice wA g.length wc, by have := hb.size; omega, hb.size, ?_, Kd.R_alloc (Kd.R_alloc hR2 _) _, ?_, ?_⟩
        · have := heap_alloc_new (wr.alloc (.map #[] 0)) (.cells #[vo, .slice wA g.length wc, .map (some wr.heap.size)] 115)
          rw [World.size_alloc] at this
          exact this
        · rw [← HWY.out]
          exact Kd.R_alloc (Kd.R_alloc hwr2 _) _
        · exact (mapAt_new wr).alloc _
end Go.Proofs.Ytiooalhfhnddjaa
end
