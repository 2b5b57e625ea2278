/- Lemmas for the statement in the last text of this claim: contracts of the functions that it calls, and plain facts. No condition. -/
import Derived.WalkKit
import Derived.Maps.RangeWalk
import Derived.Maps.OwnSet
import Derived.WideKeyEntry
import Derived.DeepKeys4
set_option linter.unusedVariables false
set_option linter.unusedSimpArgs false
set_option linter.unusedSectionVars false
section
set_option linter.unusedVariables false
set_option linter.unusedSimpArgs false
namespace Go.Proofs.Ytiooalhfhnddjaa.MM
open Go.RowKit Go.MapKept Go.WideElems Go.ChangeMaps
section
variable {α β : Type} [DecidableEq α]
def lput (l : List (α × β)) (k : α) (v : β) : List (α × β) := if (l.lookup k).isSome then l.map (fun p => if p.1 = k then (p.1, v) else p) else l ++ [(k, v)]
def ldel (l : List (α × β)) (k : α) : List (α × β) := l.filter (fun p => decide (p.1 ≠ k))
def Keys1 (l : List (α × β)) : Prop := (l.map Prod.fst).Nodup
omit [DecidableEq α] in
theorem keys1_cons {p : α × β} {l : List (α × β)} (h : Keys1 (p :: l)) : (∀ q ∈ l, q.1 ≠ p.1) ∧ Keys1 l := by
  unfold Keys1 at h
  rw [List.map_cons, List.nodup_cons] at h
  refine ⟨fun q hq e => h.1 (e ▸ List.mem_map.2 ⟨q, hq, rfl⟩), h.2⟩
theorem lookup_none {l : List (α × β)} {k : α} (h : ∀ p ∈ l, p.1 ≠ k) : l.lookup k = none := by
  induction l with
  | nil => rfl
  | cons p l ih =>
    obtain ⟨a, b⟩ := p
    have h1 : k ≠ a := fun e => h (a, b) List.mem_cons_self e.symm
    rw [List.lookup_cons, beq_false_of_ne h1]
    exact ih (fun q hq => h q (List.mem_cons_of_mem _ hq))
theorem lookup_get {l : List (α × β)} (hn : Keys1 l) {j : Nat} {k : α} {v : β} (h : l[j]? = some (k, v)) : l.lookup k = some v := by
  induction l generalizing j with
  | nil => simp at h
  | cons p l ih =>
    obtain ⟨a, b⟩ := p
    obtain ⟨h1, h2⟩ := keys1_cons hn
    cases j with
    | zero => simp at h; obtain ⟨rfl, rfl⟩ := h; simp
    | succ j =>
      simp only [List.getElem?_cons_succ] at h
      have hm := h1 _ (List.mem_of_getElem? h)
      rw [List.lookup_cons, beq_false_of_ne hm]
      exact ih h2 h
theorem lookup_mem {l : List (α × β)} (hn : Keys1 l) {k : α} {v : β} : (k, v) ∈ l ↔ l.lookup k = some v := by
  constructor
  · intro h
    obtain ⟨j, hj⟩ := List.mem_iff_getElem?.1 h
    exact lookup_get hn hj
  · intro h
    induction l with
    | nil => simp at h
    | cons p l ih =>
      obtain ⟨a, b⟩ := p
      rw [List.lookup_cons] at h
      by_cases e : k = a
      · subst e
        simp at h
        subst h
        exact List.mem_cons_self
      · rw [beq_false_of_ne e] at h
        exact List.mem_cons_of_mem _ (ih (keys1_cons hn).2 h)
theorem lookup_isSome {l : List (α × β)} {k : α} : (l.lookup k).isSome = true ↔ k ∈ l.map Prod.fst := by
  induction l with
  | nil => simp
  | cons p l ih =>
    obtain ⟨a, b⟩ := p
    rw [List.lookup_cons]
    by_cases e : k = a
    · subst e; simp
    · rw [beq_false_of_ne e]
      simp only [List.map_cons, List.mem_cons]
      rw [ih]
      simp [e]
theorem lookup_none_iff {l : List (α × β)} {k : α} : l.lookup k = none ↔ ∀ p ∈ l, p.1 ≠ k := by
  refine ⟨fun h p hp e => ?_, lookup_none⟩
  have : (l.lookup k).isSome = true := lookup_isSome.2 (List.mem_map.2 ⟨p, hp, e⟩)
  rw [h] at this
  cases this
theorem lookup_append {l m : List (α × β)} {k : α} : (l ++ m).lookup k = (l.lookup k).or (m.lookup k) := by
  induction l with
  | nil => simp
  | cons p l ih =>
    obtain ⟨a, b⟩ := p
    rw [List.cons_append, List.lookup_cons, List.lookup_cons]
    by_cases e : k = a
    · subst e; simp
    · rw [beq_false_of_ne e]; exact ih
theorem lput_keys {l : List (α × β)} (hn : Keys1 l) (k : α) (v : β) : Keys1 (lput l k v) := by
  unfold lput Keys1
  split
  · have : (l.map (fun p => if p.1 = k then (p.1, v) else p)).map Prod.fst = l.map Prod.fst := by
      rw [List.map_map]
      refine List.map_congr_left (fun p _ => ?_)
      simp only [Function.comp]
      split <;> rfl
    rw [this]; exact hn
  · rename_i h
    rw [List.map_append]
    refine List.nodup_append.2 ⟨hn, by simp, fun a ha b hb e => ?_⟩
    simp only [List.map_cons, List.map_nil, List.mem_singleton] at hb
    subst hb
    subst e
    exact h (lookup_isSome.2 ha)
theorem lookup_map_other {l : List (α × β)} {k k' : α} {v : β} (hne : k' ≠ k) : (l.map (fun p => if p.1 = k then (p.1, v) else p)).lookup k' = l.lookup k' := by
  induction l with
  | nil => rfl
  | cons p l ih =>
    obtain ⟨a, b⟩ := p
    simp only [List.map_cons]
    by_cases e : a = k
    · rw [if_pos e, List.lookup_cons, List.lookup_cons, beq_false_of_ne (by rw [e]; exact hne)]
      exact ih
    · rw [if_neg e, List.lookup_cons, List.lookup_cons]
      rw [ih]
theorem lookup_map_same {l : List (α × β)} {k : α} {v : β} (h : (l.lookup k).isSome = true) : (l.map (fun p => if p.1 = k then (p.1, v) else p)).lookup k = some v := by
  induction l with
  | nil => simp at h
  | cons p l ih =>
    obtain ⟨a, b⟩ := p
    simp only [List.map_cons]
    by_cases e : a = k
    · subst e
      simp
    · rw [if_neg e, List.lookup_cons, beq_false_of_ne (Ne.symm e)]
      rw [List.lookup_cons, beq_false_of_ne (Ne.symm e)] at h
      exact ih h
theorem lookup_lput (l : List (α × β)) (k k' : α) (v : β) : (lput l k v).lookup k' = if k' = k then some v else l.lookup k' := by
  unfold lput
  split
  · rename_i h
    split
    · rename_i e; subst e; exact lookup_map_same h
    · rename_i e; exact lookup_map_other e
  · rename_i h
    rw [lookup_append]
    split
    · rename_i e
      subst e
      have h0 : l.lookup k' = none := by cases hh : l.lookup k' <;> simp_all
      rw [h0]
      simp
    · rename_i e
      have h1 : ([(k, v)] : List (α × β)).lookup k' = none := by rw [List.lookup_cons, beq_false_of_ne e]; rfl
      rw [h1, Option.or_none]
theorem lookup_ldel (l : List (α × β)) (k k' : α) : (ldel l k).lookup k' = if k' = k then none else l.lookup k' := by
  unfold ldel
  induction l with
  | nil => split <;> rfl
  | cons p l ih =>
    obtain ⟨a, b⟩ := p
    by_cases e : a = k
    · subst e
      rw [List.filter_cons_of_neg (by simp), ih]
      split
      · rfl
      · rename_i h; rw [List.lookup_cons, beq_false_of_ne h]
    · rw [List.filter_cons_of_pos (by simp [e]), List.lookup_cons, List.lookup_cons, ih]
      by_cases h : k' = a
      · subst h; simp [e]
      · rw [beq_false_of_ne h]
theorem ldel_erase {l : List (α × β)} (hn : Keys1 l) {j : Nat} {k : α} {v : β} (h : l[j]? = some (k, v)) : l.eraseIdx j = ldel l k := by
  unfold ldel
  induction l generalizing j with
  | nil => simp at h
  | cons p l ih =>
    obtain ⟨a, b⟩ := p
    obtain ⟨h1, h2⟩ := keys1_cons hn
    cases j with
    | zero =>
      simp at h
      obtain ⟨rfl, rfl⟩ := h
      rw [List.filter_cons_of_neg (by simp), List.eraseIdx_zero, List.tail_cons]
      exact (List.filter_eq_self.2 (fun q hq => by simpa using h1 q hq)).symm
    | succ j =>
      simp only [List.getElem?_cons_succ] at h
      have hm := h1 _ (List.mem_of_getElem? h)
      rw [List.eraseIdx_cons_succ, ih h2 h, List.filter_cons_of_pos (by simpa using Ne.symm hm)]
theorem ldel_none {l : List (α × β)} {k : α} (h : ∀ p ∈ l, p.1 ≠ k) : ldel l k = l := List.filter_eq_self.2 (fun q hq => by simpa using h q hq)
end
structure KeyEnc (P : Program) (k : TypeId) {α : Type} (enc : α → Value) : Prop where
  inj : ∀ {a b : α}, enc a = enc b → a = b
  check : ∀ (w : World) (em : Bool) (x : α), (Instr.checkKey em 10000 k (enc x)).run P w = .ok () w
  find : ∀ (w : World) (x : α) (es : List MapEntry), (∀ e ∈ es, ∃ y, e.key = enc y) →
    ((Instr.findKey k (enc x) es).run P w = .ok none w ∧ ∀ e ∈ es, e.key ≠ enc x) ∨ ∃ j e, (Instr.findKey k (enc x) es).run P w = .ok (some (j, e.val)) w ∧ es[j]? = some e ∧ e.key = enc x
  stays : ∀ (w : World) (x : α), (Instr.keyThatStays (enc x) (enc x)).run P w = .ok (enc x) w
section
variable {α β : Type} [DecidableEq α] {eK : α → Value} {eV : β → Value} {P : Program} {w w' : World} {b : Nat} {l : List (α × β)} {t k e : TypeId}
def kv (x : MapEntry) : Value × Value := (x.key, x.val)
def enc2 (eK : α → Value) (eV : β → Value) (p : α × β) : Value × Value := (eK p.1, eV p.2)
def mapAt (w : World) (b : Nat) (eK : α → Value) (eV : β → Value) (l : List (α × β)) : Prop :=
  ∃ es clock, w.heap[b]? = some (.map es clock) ∧ Stamped es clock ∧ es.toList.map kv = l.map (enc2 eK eV)
omit [DecidableEq α] in
theorem keys_of {es : Array MapEntry} {clock : Nat} (hs : Stamped es clock) (hl : es.toList.map kv = l.map (enc2 eK eV)) : Keys1 l := by
  obtain ⟨_, _, h3⟩ := (stamped_iff es clock).1 hs
  have h4 : (es.toList.map kv).Pairwise (fun x y => x.1 ≠ y.1) := List.pairwise_map.2 h3
  rw [hl] at h4
  have h5 := List.pairwise_map.1 h4
  unfold Keys1 List.Nodup
  exact List.pairwise_map.2 (h5.imp (fun h e1 => h (by simp only [enc2, e1])))
omit [DecidableEq α] in
theorem mapAt.keys (h : mapAt w b eK eV l) : Keys1 l := by
  obtain ⟨es, clock, _, hs, hl⟩ := h
  exact keys_of hs hl
omit [DecidableEq α] in
theorem mapAt.lt (h : mapAt w b eK eV l) : b < w.heap.size := by
  obtain ⟨es, clock, hb, _⟩ := h
  exact (Array.getElem?_eq_some_iff.1 hb).1
omit [DecidableEq α] in
theorem mapAt.of_block (h : mapAt w b eK eV l) (hb : w'.heap[b]? = w.heap[b]?) : mapAt w' b eK eV l := by
  obtain ⟨es, clock, hh, r⟩ := h
  exact ⟨es, clock, hb.trans hh, r⟩
omit [DecidableEq α] in
theorem mapAt.below (h : mapAt w b eK eV l) (hb : Below w.heap.size w w') : mapAt w' b eK eV l := h.of_block (hb.block b h.lt)
omit [DecidableEq α] in
theorem mapAt.grown {row : Option Nat} (h : mapAt w b eK eV l) (hg : w.grownBy w' row) (hne : some b ≠ row) : mapAt w' b eK eV l := h.of_block (hg.block b h.lt hne)
omit [DecidableEq α] in
theorem mapAt.alloc (h : mapAt w b eK eV l) (o : Obj) : mapAt (w.alloc o) b eK eV l := h.of_block (heap_alloc_old w o h.lt)
omit [DecidableEq α] in
theorem mapAt_new (w : World) : mapAt (w.alloc (.map #[] 0)) w.heap.size eK eV [] := ⟨#[], 0, heap_alloc_new w _, stamped_empty 0, rfl⟩
omit [DecidableEq α] in
theorem key_form {es : Array MapEntry} (hl : es.toList.map kv = l.map (enc2 eK eV)) : ∀ x ∈ es.toList, ∃ y, x.key = eK y := by
  intro x hx
  have : kv x ∈ l.map (enc2 eK eV) := hl ▸ List.mem_map.2 ⟨x, hx, rfl⟩
  obtain ⟨p, _, hp⟩ := List.mem_map.1 this
  exact ⟨p.1, (congrArg Prod.fst hp).symm⟩
omit [DecidableEq α] in
theorem get_form {es : Array MapEntry} (hl : es.toList.map kv = l.map (enc2 eK eV)) {j : Nat} {x : MapEntry} (h : es.toList[j]? = some x) : ∃ p, l[j]? = some p ∧ x.key = eK p.1 ∧ x.val = eV p.2 := by
  have h1 : (es.toList.map kv)[j]? = some (kv x) := by rw [List.getElem?_map, h]; rfl
  rw [hl, List.getElem?_map] at h1
  obtain ⟨p, hp, he⟩ := Option.map_eq_some_iff.1 h1
  exact ⟨p, hp, (congrArg Prod.fst he).symm, (congrArg Prod.snd he).symm⟩
theorem find_form (K : KeyEnc P k eK) {es : Array MapEntry} {clock : Nat} (hs : Stamped es clock) (hl : es.toList.map kv = l.map (enc2 eK eV)) (x : α) :
    (∀ u : World, (Instr.findKey k (eK x) es.toList).run P u = .ok none u) ∧ l.lookup x = none ∧ (∀ p ∈ l, p.1 ≠ x) ∧ (∀ y ∈ es.toList, y.key ≠ eK x) ∨
    ∃ j y v, (∀ u : World, (Instr.findKey k (eK x) es.toList).run P u = .ok (some (j, eV v)) u) ∧ es.toList[j]? = some y ∧ y.key = eK x ∧ y.val = eV v ∧ l[j]? = some (x, v) ∧ l.lookup x = some v := by
  have hn := keys_of hs hl
  cases hlk : l.lookup x with
  | none =>
    left
    have hne := lookup_none_iff.1 hlk
    have hk : ∀ y ∈ es.toList, y.key ≠ eK x := by
      intro y hy e1
      obtain ⟨j, hj⟩ := List.mem_iff_getElem?.1 hy
      obtain ⟨p, hp, h1, _⟩ := get_form hl hj
      exact hne p (List.mem_of_getElem? hp) (K.inj (h1.symm.trans e1))
    refine ⟨fun u => ?_, rfl, hne, hk⟩
    rcases K.find u x es.toList (key_form hl) with ⟨h1, _⟩ | ⟨j, y, _, h2, h3⟩
    · exact h1
    · exact absurd h3 (hk y (List.mem_of_getElem? h2))
  | some v =>
    right
    have hm := (lookup_mem hn).2 hlk
    obtain ⟨j, hj⟩ := List.mem_iff_getElem?.1 hm
    have h1 : (l.map (enc2 eK eV))[j]? = some (eK x, eV v) := by rw [List.getElem?_map, hj]; rfl
    rw [← hl, List.getElem?_map] at h1
    obtain ⟨y, hy, he⟩ := Option.map_eq_some_iff.1 h1
    have hyk : y.key = eK x := congrArg Prod.fst he
    have hyv : y.val = eV v := congrArg Prod.snd he
    refine ⟨j, y, v, fun u => ?_, hy, hyk, hyv, hj, rfl⟩
    rcases K.find u x es.toList (key_form hl) with ⟨_, h2⟩ | ⟨j', y', h2, h3, h4⟩
    · exact absurd hyk (h2 y (List.mem_of_getElem? hy))
    · obtain ⟨p, hp, g1, g2⟩ := get_form hl h3
      have e1 : p.1 = x := K.inj (g1.symm.trans h4)
      have e2 := lookup_get hn (k := p.1) (v := p.2) hp
      have hjj : j' = j := by
        obtain ⟨_, _, h3'⟩ := (stamped_iff es clock).1 hs
        have hj1 := (List.getElem?_eq_some_iff.1 h3)
        have hj2 := (List.getElem?_eq_some_iff.1 hy)
        obtain ⟨q1, r1⟩ := hj1
        obtain ⟨q2, r2⟩ := hj2
        rcases Nat.lt_trichotomy j' j with hlt | heq | hgt
        · exact absurd (by rw [r1, r2, h4, hyk]) (List.pairwise_iff_getElem.1 h3' j' j q1 q2 hlt)
        · exact heq
        · exact absurd (by rw [r1, r2, h4, hyk]) (List.pairwise_iff_getElem.1 h3' j j' q2 q1 hgt)
      subst hjj
      rw [hy] at h3
      injection h3 with h3
      subst h3
      rw [h2, hyv]
theorem mapAt.look (h : mapAt w b eK eV l) (K : KeyEnc P k eK) (ht : P.underlying t = some (.map k e)) (z : β) (hz : ∀ u : World, (zeroValue e).run P u = .ok (eV z) u) (x : α) :
    (Instr.lookup t (.map (some b)) (eK x) false).run P w = .ok (eV ((l.lookup x).getD z)) w := by
  obtain ⟨es, clock, hb, hs, hl⟩ := h
  rcases find_form K hs hl x with ⟨h1, h2, _⟩ | ⟨j, y, v, h1, _, _, _, _, h2⟩
  · simp [Instr.lookup, run_underlying ht, MapKept.run_getObj_map hb, K.check, h1, h2, hz, Result.andThen]
  · simp [Instr.lookup, run_underlying ht, MapKept.run_getObj_map hb, K.check, h1, h2, Result.andThen]
omit [DecidableEq α] in
theorem grownBy_setBlock (w : World) (b : Nat) (o : Obj) : w.grownBy (setBlock w b o) (some b) :=
  ⟨rfl, rfl, rfl, by simp [setBlock], fun j hj hne => by
    simp only [setBlock, Array.getElem?_setIfInBounds]
    rw [if_neg (fun e1 => hne (by rw [e1]))]⟩
omit [DecidableEq α] in
theorem size_setBlock (w : World) (b : Nat) (o : Obj) : (setBlock w b o).heap.size = w.heap.size := by simp [setBlock]
omit [DecidableEq α] in
theorem at_setBlock (w : World) {b : Nat} (o : Obj) (hb : b < w.heap.size) : (setBlock w b o).heap[b]? = some o := by simp [setBlock, hb]
omit [DecidableEq α] in
theorem modify_map {es : List MapEntry} {j : Nat} {y : MapEntry} {f : MapEntry → MapEntry} {v : β} {x : α} (hl : es.map kv = l.map (enc2 eK eV)) (hj : l[j]? = some (x, v)) {v' : β} (hy : es[j]? = some y) (hf : kv (f y) = (eK x, eV v')) :
    (es.modify j f).map kv = (l.set j (x, v')).map (enc2 eK eV) := by
  apply List.ext_getElem?
  intro i
  have hi : (es.map kv)[i]? = (l.map (enc2 eK eV))[i]? := by rw [hl]
  rw [List.getElem?_map, List.getElem?_map, List.getElem?_modify, List.getElem?_set]
  rw [List.getElem?_map, List.getElem?_map] at hi
  by_cases e1 : j = i
  · subst e1
    have := (List.getElem?_eq_some_iff.1 hj).1
    simp [hy, hf, this, enc2]
  · simp [e1, hi]
theorem set_put {l : List (α × β)} (hn : Keys1 l) {j : Nat} {x : α} {v v' : β} (hj : l[j]? = some (x, v)) : l.set j (x, v') = lput l x v' := by
  unfold lput
  rw [lookup_get hn hj]
  simp only [Option.isSome_some, if_true]
  induction l generalizing j with
  | nil => simp at hj
  | cons p l ih =>
    obtain ⟨a, c⟩ := p
    obtain ⟨h1, h2⟩ := keys1_cons hn
    cases j with
    | zero =>
      simp at hj
      obtain ⟨rfl, rfl⟩ := hj
      rw [List.set_cons_zero, List.map_cons, if_pos rfl]
      congr 1
      symm
      calc l.map (fun p => if p.1 = a then (p.1, v') else p) = l.map id := List.map_congr_left (fun q hq => by rw [if_neg (h1 q hq)]; rfl)
        _ = l := List.map_id _
    | succ j =>
      simp only [List.getElem?_cons_succ] at hj
      have hm := h1 _ (List.mem_of_getElem? hj)
      rw [List.set_cons_succ, List.map_cons, if_neg (fun e1 => hm e1.symm), ih h2 hj]
theorem mapAt.entry (h : mapAt w b eK eV l) (K : KeyEnc P k eK) (ht : P.underlying t = some (.map k e)) (z : β) (hz : ∀ u : World, (zeroValue e).run P u = .ok (eV z) u) (x : α) :
    ∃ (st : Int) (w1 : World), (Instr.mapEntry t (.map (some b)) (eK x)).run P w = .ok (.tuple #[eV ((l.lookup x).getD z), .int .i64 st]) w1 ∧
      (Instr.lookup t (.map (some b)) (eK x) false).run P w1 = .ok (eV ((l.lookup x).getD z)) w1 ∧ w.grownBy w1 (some b) ∧ w1.heap.size = w.heap.size ∧
      ∀ v : β, ∃ w2, (Instr.entryStore t (.map (some b)) (.int .i64 st) (eV v)).run P w1 = .ok () w2 ∧ mapAt w2 b eK eV (lput l x v) ∧ w.grownBy w2 (some b) ∧ w2.heap.size = w.heap.size := by
  have hlt := h.lt
  have h0 := h
  obtain ⟨es, clock, hb, hs, hl⟩ := h
  have hn := keys_of hs hl
  obtain ⟨s1, s2, _⟩ := (stamped_iff es clock).1 hs
  rcases find_form K hs hl x with ⟨h1, h2, h3, h4⟩ | ⟨j, y, v0, h1, h3, h4, h5, h6, h2⟩
  · have hb1 : (setBlock w b (.map (es.push ⟨eK x, eV z, clock⟩) (clock + 1))).heap[b]? = some (.map (es.push ⟨eK x, eV z, clock⟩) (clock + 1)) := at_setBlock _ _ hlt
    have hm1 : mapAt (setBlock w b (.map (es.push ⟨eK x, eV z, clock⟩) (clock + 1))) b eK eV (l ++ [(x, z)]) := ⟨_, _, hb1, stamped_push hs h4, by rw [Array.toList_push, List.map_append, hl]; simp [kv, enc2]⟩
    refine ⟨clock, setBlock w b (.map (es.push ⟨eK x, eV z, clock⟩) (clock + 1)), ?_, ?_, grownBy_setBlock _ _ _, size_setBlock _ _ _, fun v => ⟨setBlock w b (.map (es.push ⟨eK x, eV v, clock⟩) (clock + 1)), ?_, ⟨_, _, at_setBlock _ _ hlt, stamped_push hs h4, ?_⟩, grownBy_setBlock _ _ _, size_setBlock _ _ _⟩⟩
    · simp [Instr.mapEntry, run_underlying ht, MapKept.run_getObj_map hb, K.check, h1, h2, hz, MapKept.run_setObj_map _ hb, Result.andThen, setBlock, goInt]
    · rw [hm1.look K ht z hz x, lookup_append, h2]
      simp
    · have hidx : (es.push ⟨eK x, eV z, clock⟩).findIdx? (fun e => ((e.born : Nat) : Int) == ((clock : Nat) : Int)) = some es.size := by
        rw [findIdx_arr]
        exact findIdx_born (l := (es.push ⟨eK x, eV z, clock⟩).toList) (j := es.size) (e0 := ⟨eK x, eV z, clock⟩) (by
          simp only [Array.toList_push, List.map_append, List.map_cons, List.map_nil]
          refine List.nodup_append.2 ⟨s2, by simp, fun a ha c hc e1 => ?_⟩
          simp only [List.mem_singleton] at hc
          obtain ⟨x', hx, rfl⟩ := List.mem_map.1 ha
          have := s1 x' hx
          omega) (by simp)
      have hmod : (es.push ⟨eK x, eV z, clock⟩).modify es.size (fun e => { e with val := eV v }) = es.push ⟨eK x, eV v, clock⟩ := by
        apply Array.ext'
        rw [Array.toList_modify, Array.toList_push, Array.toList_push, ← Array.length_toList, modify_last]
      simp only [Instr.entryStore, Sem.run_bind, MapKept.run_getObj_map hb1, Result.andThen, asInt, asIntOf]
      simp [hidx, hmod, setObj, Sem.run, setBlock, hlt]
    · rw [Array.toList_push, List.map_append, hl]
      unfold lput
      rw [h2]
      simp [kv, enc2]
  · have hj : es[j]? = some y := by simpa using h3
    have hsame : es.modify j (fun e => { e with key := eK x }) = es := by
      apply Array.ext'
      rw [Array.toList_modify, modify_eq_set _ _ _ _ h3]
      have : ({ y with key := eK x } : MapEntry) = y := by rw [← h4]
      rw [this]
      exact set_self _ _ _ h3
    have hsb : setBlock w b (.map es clock) = w := by
      unfold setBlock
      have : w.heap.setIfInBounds b (.map es clock) = w.heap := by
        apply Array.ext_getElem?
        intro i
        rw [Array.getElem?_setIfInBounds]
        split
        · rename_i e1; subst e1; rw [hb]
        · rfl
      rw [this]
    refine ⟨y.born, w, ?_, ?_, ⟨rfl, rfl, rfl, Nat.le_refl _, fun _ _ _ => rfl⟩, rfl, fun v => ⟨setBlock w b (.map (es.modify j fun e => { e with val := eV v }) clock), ?_, ⟨_, _, at_setBlock _ _ hlt, stamped_modify hs j _ (fun _ _ => rfl) (fun _ _ _ => rfl), ?_⟩, grownBy_setBlock _ _ _, size_setBlock _ _ _⟩⟩
    · have hrun : (setObj b (.map es clock)).run P w = .ok () w := by rw [MapKept.run_setObj_map _ hb]; exact congrArg (Result.ok ()) hsb
      simp [Instr.mapEntry, run_underlying ht, MapKept.run_getObj_map hb, K.check, h1, hj, h4, K.stays, hsame, hrun, Result.andThen, goInt, h2]
    · exact h0.look K ht z hz x
    · have hidx : es.findIdx? (fun e => ((e.born : Nat) : Int) == ((y.born : Nat) : Int)) = some j := by
        rw [findIdx_arr]
        exact findIdx_born s2 h3
      simp only [Instr.entryStore, Sem.run_bind, MapKept.run_getObj_map hb, Result.andThen, asInt, asIntOf]
      simp [hidx, MapKept.run_setObj_map _ hb, setBlock]
    · rw [Array.toList_modify, modify_map hl h6 h3 (v' := v) (by simp [kv, h4]), set_put hn h6]
theorem mapAt.del (h : mapAt w b eK eV l) (K : KeyEnc P k eK) (ht : P.underlying t = some (.map k e)) (x : α) :
    ∃ w', (∀ ty, (Builtin.delete_ #[t, k] ty #[.map (some b), eK x]).run P w = .ok (.tuple #[]) w') ∧ mapAt w' b eK eV (ldel l x) ∧ w.grownBy w' (some b) ∧ w'.heap.size = w.heap.size := by
  have hlt := h.lt
  obtain ⟨es, clock, hb, hs, hl⟩ := h
  have hn := keys_of hs hl
  rcases find_form K hs hl x with ⟨h1, h2, h3, h4⟩ | ⟨j, y, v0, h1, h3, h4, h5, h6, h2⟩
  · refine ⟨setBlock w b (.map es clock), ?_, ⟨_, _, at_setBlock _ _ hlt, hs, ?_⟩, grownBy_setBlock _ _ _, size_setBlock _ _ _⟩
    · intro ty; simp [Builtin.delete_, run_underlying ht, MapKept.run_getObj_map hb, K.check, h1, MapKept.run_setObj_map _ hb, Result.andThen, setBlock]
    · rw [hl, ldel_none h3]
  · have hjl : j < es.toList.length := (List.getElem?_eq_some_iff.1 h3).1
    have hjs : j < es.size := by simpa using hjl
    have hsub : (es.eraseIdxIfInBounds j).toList = es.toList.eraseIdx j := by
      unfold Array.eraseIdxIfInBounds
      rw [dif_pos hjs]
      simp
    refine ⟨setBlock w b (.map (es.eraseIdxIfInBounds j) clock), ?_, ⟨_, _, at_setBlock _ _ hlt, stamped_erase hs j, ?_⟩, grownBy_setBlock _ _ _, size_setBlock _ _ _⟩
    · intro ty; simp [Builtin.delete_, run_underlying ht, MapKept.run_getObj_map hb, K.check, h1, MapKept.run_setObj_map _ hb, Result.andThen, setBlock]
    · rw [hsub, map_eraseIdx, hl, ← map_eraseIdx, ldel_erase hn h6]
def iterAt (w : World) (r b : Nat) (eK : α → Value) (eV : β → Value) (l todo : List (α × β)) : Prop :=
  ∃ es clock since seen c0, w.heap[b]? = some (.map es clock) ∧ Stamped es clock ∧ es.toList.map kv = l.map (enc2 eK eV) ∧ w.heap[r]? = some (.mapIter (some b) since seen c0) ∧ (∀ x ∈ es.toList, x.born < since) ∧ (since ≤ c0 ∧ since ≤ clock) ∧
    (es.toList.filter fun x => !seen.contains x.born).map kv = todo.map (enc2 eK eV)
omit [DecidableEq α] in
theorem iterAt.mapAt {r : Nat} {todo : List (α × β)} (h : iterAt w r b eK eV l todo) : mapAt w b eK eV l := by
  obtain ⟨es, clock, since, seen, c0, h1, h2, h3, _⟩ := h
  exact ⟨es, clock, h1, h2, h3⟩
omit [DecidableEq α] in
theorem iterAt.lt {r : Nat} {todo : List (α × β)} (h : iterAt w r b eK eV l todo) : r < w.heap.size := by
  obtain ⟨es, clock, since, seen, c0, h1, h2, h3, h4, _⟩ := h
  exact (Array.getElem?_eq_some_iff.1 h4).1
omit [DecidableEq α] in
theorem iterAt.ne {r : Nat} {todo : List (α × β)} (h : iterAt w r b eK eV l todo) : r ≠ b := by
  obtain ⟨es, clock, since, seen, c0, h1, h2, h3, h4, _⟩ := h
  rintro rfl
  rw [h1] at h4
  cases h4
omit [DecidableEq α] in
theorem iterAt.keys_todo {r : Nat} {todo : List (α × β)} (h : iterAt w r b eK eV l todo) : Keys1 todo := by
  obtain ⟨es, clock, since, seen, c0, h1, h2, h3, h4, h5, h6, h7⟩ := h
  obtain ⟨_, _, h8⟩ := (stamped_iff es clock).1 h2
  have h9 : ((es.toList.filter fun x => !seen.contains x.born).map kv).Pairwise (fun x y => x.1 ≠ y.1) := List.pairwise_map.2 (h8.sublist List.filter_sublist)
  rw [h7] at h9
  have h10 := List.pairwise_map.1 h9
  unfold Keys1 List.Nodup
  exact List.pairwise_map.2 (h10.imp (fun h e1 => h (by simp only [enc2, e1])))
omit [DecidableEq α] in
theorem iterAt.sub {r : Nat} {todo : List (α × β)} (h : iterAt w r b eK eV l todo) (hi : ∀ {x y : β}, eV x = eV y → x = y) (hk : ∀ {x y : α}, eK x = eK y → x = y) {q : α × β} (hq : q ∈ todo) : q ∈ l := by
  obtain ⟨es, clock, since, seen, c0, h1, h2, h3, h4, h5, h6, h7⟩ := h
  have h8 : enc2 eK eV q ∈ (es.toList.filter fun x => !seen.contains x.born).map kv := h7 ▸ List.mem_map.2 ⟨q, hq, rfl⟩
  obtain ⟨x, hx, hxe⟩ := List.mem_map.1 h8
  have h9 : kv x ∈ l.map (enc2 eK eV) := h3 ▸ List.mem_map.2 ⟨x, (List.mem_filter.1 hx).1, rfl⟩
  obtain ⟨q', hq', hqe⟩ := List.mem_map.1 h9
  have e1 : enc2 eK eV q' = enc2 eK eV q := hqe.trans hxe
  have : q' = q := Prod.ext (hk (congrArg Prod.fst e1)) (hi (congrArg Prod.snd e1))
  rw [← this]
  exact hq'
omit [DecidableEq α] in
theorem iterAt.no_cells {r : Nat} {todo : List (α × β)} (h : iterAt w r b eK eV l todo) : ∀ cs q f, w.heap[r]? ≠ some (.cells cs q f) := by
  obtain ⟨es, clock, since, seen, c0, h1, h2, h3, h4, _⟩ := h
  intro cs q f e1
  rw [h4] at e1
  cases e1
omit [DecidableEq α] in
theorem mapAt.no_cells (h : mapAt w b eK eV l) : ∀ cs q f, w.heap[b]? ≠ some (.cells cs q f) := by
  obtain ⟨es, clock, h1, _⟩ := h
  intro cs q f e1
  rw [h1] at e1
  cases e1
omit [DecidableEq α] in
theorem iterAt.of_blocks {r : Nat} {todo : List (α × β)} (h : iterAt w r b eK eV l todo) (hb : w'.heap[b]? = w.heap[b]?) (hr : w'.heap[r]? = w.heap[r]?) : iterAt w' r b eK eV l todo := by
  obtain ⟨es, clock, since, seen, c0, h1, h2, h3, h4, r⟩ := h
  exact ⟨es, clock, since, seen, c0, hb.trans h1, h2, h3, hr.trans h4, r⟩
omit [DecidableEq α] in
theorem iterAt.below {r : Nat} {todo : List (α × β)} (h : iterAt w r b eK eV l todo) (hb : Below w.heap.size w w') : iterAt w' r b eK eV l todo := h.of_blocks (hb.block _ h.mapAt.lt) (hb.block _ h.lt)
omit [DecidableEq α] in
theorem iterAt.grown {r : Nat} {todo : List (α × β)} {row : Option Nat} (h : iterAt w r b eK eV l todo) (hg : w.grownBy w' row) (h1 : some b ≠ row) (h2 : some r ≠ row) : iterAt w' r b eK eV l todo := h.of_blocks (hg.block _ h.mapAt.lt h1) (hg.block _ h.lt h2)
omit [DecidableEq α] in
theorem iterAt.alloc {r : Nat} {todo : List (α × β)} (h : iterAt w r b eK eV l todo) (o : Obj) : iterAt (w.alloc o) r b eK eV l todo := h.of_blocks (heap_alloc_old w o h.mapAt.lt) (heap_alloc_old w o h.lt)
omit [DecidableEq α] in
/-- 'range m'. -/
theorem mapAt.range (h : mapAt w b eK eV l) (ht : P.underlying t = some (.map k e)) :
    (Instr.range t (.map (some b))).run P w = .ok (.pointer (some ⟨w.heap.size, 0, none⟩)) (w.alloc (.mapIter (some b) (h.choose_spec.choose) #[] (h.choose_spec.choose))) ∧
      iterAt (w.alloc (.mapIter (some b) (h.choose_spec.choose) #[] (h.choose_spec.choose))) w.heap.size b eK eV l l := by
  obtain ⟨hb, hs, hl⟩ := h.choose_spec.choose_spec
  generalize h.choose_spec.choose = clock at hb hs hl ⊢
  generalize h.choose = es at hb hs hl ⊢
  have hlt : b < w.heap.size := (Array.getElem?_eq_some_iff.1 hb).1
  refine ⟨?_, es, clock, clock, #[], clock, ?_, hs, hl, heap_alloc_new w _, ((stamped_iff es clock).1 hs).1, ⟨Nat.le_refl _, Nat.le_refl _⟩, ?_⟩
  · simp [Instr.range, run_underlying ht, MapKept.run_getObj_map hb, Result.andThen, newObj, Sem.run, World.alloc_eq]
  · rw [heap_alloc_old w _ hlt]; exact hb
  · rw [← hl]
    congr 1
    exact List.filter_eq_self.2 (fun x _ => by simp)
omit [DecidableEq α] in
theorem filter_born {left : List MapEntry} (hn : (left.map (·.born)).Nodup) {i : Nat} {y : MapEntry} (h : left[i]? = some y) : left.filter (fun x => x.born != y.born) = left.eraseIdx i := by
  induction left generalizing i with
  | nil => simp at h
  | cons a r ih =>
    simp only [List.map_cons, List.nodup_cons] at hn
    cases i with
    | zero =>
      simp only [List.getElem?_cons_zero, Option.some.injEq] at h
      subst h
      rw [List.filter_cons_of_neg (by simp), List.eraseIdx_zero, List.tail_cons]
      refine List.filter_eq_self.2 (fun x hx => ?_)
      simp only [bne_iff_ne, ne_eq]
      exact fun e1 => hn.1 (List.mem_map.2 ⟨x, hx, e1⟩)
    | succ i =>
      simp only [List.getElem?_cons_succ] at h
      rw [List.filter_cons_of_pos (by
        simp only [bne_iff_ne, ne_eq]
        exact fun e1 => hn.1 (List.mem_map.2 ⟨y, List.mem_of_getElem? h, e1.symm⟩)), ih hn.2 h, List.eraseIdx_cons_succ]
omit [DecidableEq α] in
/-- 'next': nothing is left, or one of those that are still to come, whichever. -/
theorem iterAt.next {r : Nat} {todo : List (α × β)} (h : iterAt w r b eK eV l todo) (ty : TypeId) :
    (todo = [] ∧ (Instr.next (.pointer (some ⟨r, 0, none⟩)) false ty).run P w = .ok (.tuple #[.bool false]) w) ∨
    ∃ i p w', todo[i]? = some p ∧ (Instr.next (.pointer (some ⟨r, 0, none⟩)) false ty).run P w = .ok (.tuple #[.bool true, eK p.1, eV p.2]) w' ∧ iterAt w' r b eK eV l (todo.eraseIdx i) ∧ w.grownBy w' (some r) ∧ w'.heap.size = w.heap.size ∧
      (Instr.entry (.pointer (some ⟨r, 0, none⟩))).run P w' = .ok (.tuple #[eK p.1, eV p.2]) w' := by
  have hrb := h.ne
  have hlt := h.lt
  have hltb := h.mapAt.lt
  obtain ⟨es, clock, since, seen, c0, h1, h2, h3, h4, h5, h6, h7⟩ := h
  obtain ⟨s1, s2, _⟩ := (stamped_iff es clock).1 h2
  have hleft : (leftOf es seen).toList = es.toList.filter fun x => !seen.contains x.born := by simp [leftOf]
  rcases run_next_at (P := P) w ty r b since c0 seen es clock h4 h1 h5 h6.1 with ⟨h8, h9⟩ | ⟨y, hy, w1, hw1, hrun⟩
  · left
    refine ⟨?_, h9⟩
    have : (leftOf es seen).toList = [] := by rw [Array.toList_eq_nil_iff]; exact Array.eq_empty_of_size_eq_zero h8
    rw [← hleft, this] at h7
    simpa using h7.symm
  · right
    rw [hleft] at hy
    obtain ⟨i, hi⟩ := List.mem_iff_getElem?.1 hy
    have g1 : ((es.toList.filter fun x => !seen.contains x.born).map kv)[i]? = some (kv y) := by rw [List.getElem?_map, hi]; rfl
    rw [h7, List.getElem?_map] at g1
    obtain ⟨p, hp, he⟩ := Option.map_eq_some_iff.1 g1
    have k1 : y.key = eK p.1 := (congrArg Prod.fst he).symm
    have k2 : y.val = eV p.2 := (congrArg Prod.snd he).symm
    have hw1h : w1.heap = w.heap := by rcases hw1 with rfl | rfl <;> rfl
    have hw1g : w.grownBy w1 (some r) := by rcases hw1 with rfl | rfl <;> exact ⟨rfl, rfl, rfl, Nat.le_refl _, fun _ _ _ => rfl⟩
    have hltr : r < w1.heap.size := by rw [hw1h]; exact hlt
    have hgr := grownBy_setBlock w1 r (.mapIter (some b) since (seen.push y.born) clock)
    have hb' : (setBlock w1 r (.mapIter (some b) since (seen.push y.born) clock)).heap[b]? = some (.map es clock) := by
      rw [hgr.block b (by rw [hw1h]; exact hltb) (fun e1 => hrb (Option.some.inj e1).symm), hw1h]; exact h1
    have hr' := at_setBlock w1 (.mapIter (some b) since (seen.push y.born) clock) hltr
    have hym : y ∈ es.toList := (List.mem_filter.1 hy).1
    refine ⟨i, p, setBlock w1 r (.mapIter (some b) since (seen.push y.born) clock), hp, ?_, ⟨es, clock, since, seen.push y.born, clock, hb', h2, h3, hr', h5, ?_, ?_⟩, ?_, ?_, ?_⟩
    · rw [hrun, k1, k2]
    · exact ⟨h6.2, h6.2⟩
    · have : (es.toList.filter fun x => !(seen.push y.born).contains x.born) = (es.toList.filter fun x => !seen.contains x.born).eraseIdx i := by
        rw [← filter_born (List.Nodup.sublist (List.filter_sublist.map _) s2) hi, List.filter_filter]
        refine List.filter_congr (fun x _ => ?_)
        rw [Array.contains_push]
        cases (seen.contains x.born) <;> simp [bne, Bool.beq_comm]
      rw [this, map_eraseIdx, h7, ← map_eraseIdx]
    · exact ⟨hgr.os.trans hw1g.os, hgr.tape.trans hw1g.tape, hgr.output.trans hw1g.output, by rw [size_setBlock, hw1h]; exact Nat.le_refl _, fun j hj hne => (hgr.block j (by rw [hw1h]; exact hj) hne).trans (by rw [hw1h])⟩
    · rw [size_setBlock, hw1h]
    · rw [← k1, ← k2]
      exact run_entry_at _ r b since seen es clock y hr' hb' hym s2
end
end Go.Proofs.Ytiooalhfhnddjaa.MM
end
