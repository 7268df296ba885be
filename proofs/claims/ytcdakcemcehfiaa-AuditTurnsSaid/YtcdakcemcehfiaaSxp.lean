/- The walk library, part p: a map of the walk's own gone through, in whatever order. -/
import Derived.Test.YtcdakcemcehfiaaSxo
namespace Go.Proofs.Ytcdakcemcehfiaa
open Go Go.RowKit

/-- An iterator over a map of one's own: the places that it has handed out. -/
def iterR (b bm n : Nat) (seen : List Nat) : Res where
  fp x := x = b
  ok _ w := w.heap[b]? = some (.mapIter (some bm) n seen.toArray n)
  lt := by
    rintro A w x h rfl
    exact lt_of_heap h
  keep := by
    rintro A A' w w' h hw hA
    exact (hw b (lt_of_heap h) (.inl rfl)).trans h

theorem getObj_iter {P : Program} {w : World} {r : Nat} {m : Option Nat} {a c : Nat} {s : Array Nat} (hb : w.heap[r]? = some (.mapIter m a s c)) : (getObj r).run P w = .ok (.mapIter m a s c) w := by
  simp [getObj, Sem.run, hb]
theorem setObj_iter {P : Program} {w : World} {r : Nat} {m : Option Nat} {a c : Nat} {s : Array Nat} (o : Obj) (hb : w.heap[r]? = some (.mapIter m a s c)) : (setObj r o).run P w = .ok () { w with heap := w.heap.setIfInBounds r o } := by
  simp [setObj, Sem.run, hb]

/-- The entries of a map, of which each bears its place. -/
theorem find_place : ∀ {l : List MapEntry} {k0 p : Nat}, (∀ (i : Nat) (e : MapEntry), l[i]? = some e → e.born = k0 + i) → ∀ e, l[p]? = some e → l.find? (·.born == k0 + p) = some e
  | [], _, _, _, e, h => by simp at h
  | x :: l, k0, 0, hb, e, h => by
    have := hb 0 x rfl
    simp at h
    subst h
    simp [this]
  | x :: l, k0, p + 1, hb, e, h => by
    have h0 := hb 0 x rfl
    have hne : (x.born == k0 + (p + 1)) = false := by
      rw [h0]; simp
    rw [List.find?_cons, hne]
    have := find_place (l := l) (k0 := k0 + 1) (p := p) (fun i e h => by have := hb (i + 1) e (by simpa using h); omega) e (by simpa using h)
    rw [show k0 + (p + 1) = k0 + 1 + p by omega]
    exact this

theorem next_run {P : Program} {w : World} {bi bm n : Nat} {es : Array MapEntry} {seen : List Nat} (ty : TypeId) (hb : w.heap[bm]? = some (.map es es.size)) (hn : es.size = n) (hbi : w.heap[bi]? = some (.mapIter (some bm) n seen.toArray n))
    (hbo : ∀ (i : Nat) (e : MapEntry), es[i]? = some e → e.born = i) :
    ((∀ p, p < n → p ∈ seen) ∧ (Instr.next (.pointer (some ⟨bi, 0, none⟩)) false ty).run P w = .ok (.tuple #[.bool false]) w) ∨
    ∃ (p : Nat) (u v : Value) (q : Nat), p < n ∧ p ∉ seen ∧ (Instr.next (.pointer (some ⟨bi, 0, none⟩)) false ty).run P w = .ok (.tuple #[.bool true, u, v]) { w with heap := w.heap.setIfInBounds bi (.mapIter (some bm) n (seen ++ [p]).toArray n), drawn := w.drawn + q } := by
  subst hn
  have hlt : ∀ x ∈ es.toList, x.born < es.size := fun x hx => by
    obtain ⟨i, hi⟩ := List.getElem?_of_mem hx
    have h1 : es[i]? = some x := by simpa using hi
    rw [hbo i x h1]
    rcases Nat.lt_or_ge i es.size with h | h
    · exact h
    · rw [Array.getElem?_eq_none h] at h1; cases h1
  have htest : (!seen.toArray.isEmpty && !es.isEmpty && es.all (fun x => decide (x.born ≥ es.size))) = false := by
    cases he : es.isEmpty with
    | true => simp
    | false =>
      have hall : es.all (fun x => decide (x.born ≥ es.size)) = false := by
        rw [Bool.eq_false_iff]
        intro h
        rw [Array.all_eq_true_iff_forall_mem] at h
        have h0 : 0 < es.size := by
          rcases Nat.eq_zero_or_pos es.size with h0 | h0
          · simp [Array.isEmpty, h0] at he
          · exact h0
        have h1 := h _ (Array.getElem_mem h0)
        have h2 := hlt es[0] (by simp)
        simp at h1
        omega
      simp [hall]
  simp only [Instr.next, Sem.run_bind, getObj_iter hbi, getMap hb, Result.andThen_ok, htest, Bool.false_eq_true, if_false]
  have hmem : ∀ x ∈ (Array.filter (fun e => !seen.toArray.contains e.born) es).toList, x ∈ es.toList ∧ x.born ∉ seen := fun x hx => by
    simp only [Array.mem_toList_iff, Array.mem_filter] at hx ⊢
    refine ⟨hx.1, ?_⟩
    have := hx.2
    simpa using this
  have hall : ∀ p, p < es.size → p ∉ seen → ∃ x, x ∈ Array.filter (fun e => !seen.toArray.contains e.born) es := fun p hp hps => by
    refine ⟨es[p], Array.mem_filter.2 ⟨Array.getElem_mem hp, ?_⟩⟩
    rw [hbo p _ (Array.getElem?_eq_getElem hp)]
    simpa using hps
  generalize Array.filter (fun e => !seen.toArray.contains e.born) es = L at hmem hall ⊢
  have e1 : L.filter (fun x => decide (x.born < es.size)) = L := Array.filter_eq_self.2 (fun x hx => by simpa using hlt x (hmem x (by simpa using hx)).1)
  have e2 : L.filter (fun x => decide (x.born ≥ es.size)) = #[] := by
    rw [Array.filter_eq_empty_iff]
    intro x hx
    have := hlt x (hmem x (by simpa using hx)).1
    simp
    omega
  simp only [e1, e2, Array.append_empty]
  by_cases h0 : L.size = 0
  · left
    have hL : L = #[] := Array.eq_empty_of_size_eq_zero h0
    refine ⟨fun p hp => ?_, ?_⟩
    · apply Classical.byContradiction
      intro h
      obtain ⟨x, hx⟩ := hall p hp h
      rw [hL] at hx
      simp at hx
    · subst hL
      simp [choose, Sem.run, Question.forced]
  · right
    have hne : L.isEmpty = false := by simp [Array.isEmpty, h0]
    simp only [hne, Bool.false_eq_true, if_false, Array.empty_append, Array.size_map]
    have hch : ∃ (j q : Nat), j < L.size ∧ (choose (Question.mapNext L.size)).run P w = .ok j { w with drawn := w.drawn + q } := by
      by_cases hf : L.size ≤ 1
      · exact ⟨0, 0, by omega, by simp [choose, Sem.run, Question.forced, hf]⟩
      · exact ⟨w.tape w.drawn (.mapNext L.size) % L.size, 1, Nat.mod_lt _ (by omega), by
          simp only [choose, Sem.run, Question.forced, decide_eq_true_eq, hf, if_false, Question.cut]⟩
    obtain ⟨j, q, hj, hrun⟩ := hch
    have hm := hmem L[j] (by simp)
    refine ⟨L[j].born, L[j].key, L[j].val, q, hlt _ hm.1, hm.2, ?_⟩
    have hbi' : ({ w with drawn := w.drawn + q } : World).heap[bi]? = some (.mapIter (some bm) es.size seen.toArray es.size) := hbi
    simp only [hrun, Array.getElem?_map, Array.getElem?_eq_getElem hj, Option.map_some, Sem.run_bind, Result.andThen_ok, setObj_iter _ hbi', Sem.run_pure, List.push_toArray]

section
variable {C : Cx} {E : En} {K : Kn} {Γ : List Res} {Q : Exit → Act → World → Prop} {ops : Array Oper} {o o2 : Oper} {rest : List Oper}

/-- A map of one's own is about to be gone through. -/
theorem o_rng (i : Nat) {α β : Type} {fk : α → Value} {fv : β → DV} {kt et t : TypeId} {x : Operand} {bm : Nat} {m : List (α × β)} {e : TyE} {sl : Nat} (ho : o.op = .range t x) (hg : o.guard = none) (hsl : o.dst = some sl) (hN : Nat.blt sl E.N = true)
    (hx : ev K x = some (.v (.map (some bm)))) (hi : Γ[i]? = some (mapR bm fk fv m)) (ht : lkT C.T t = some e) (he : e.u = .map kt et)
    (k : ∀ b, SO C E ops rest ((sl, .v (.pointer (some ⟨b, 0, none⟩))) :: K) (Γ ++ [iterR b bm m.length []]) Q) : SO C E ops (o :: rest) K Γ Q := by
  have hs : dstOk E.N o.dst = true := by rw [hsl]; exact hN
  have k : ∀ b, SO C E ops rest (putK o.dst (.v (.pointer (some ⟨b, 0, none⟩))) K) (Γ ++ [iterR b bm m.length []]) Q := by rw [hsl]; exact k
  intro a w s f
  obtain ⟨_, es, hb, h1, _, _⟩ := s.ok _ (List.mem_of_getElem? hi)
  have hl : es.size = m.length := by simpa using congrArg List.length h1
  have hn := s.new (.mapIter (some bm) es.size #[] es.size) (iterR w.heap.size bm m.length []) (fun b h => h) (by show (w.alloc _).heap[w.heap.size]? = _; rw [alloc_new, hl])
  refine wpList_plain hg fun Kc hK => ?_
  have hrun : (execOp a.eval o).run C.P w = .ok (.value (.pointer (some ⟨w.heap.size, 0, none⟩))) (w.alloc (.mapIter (some bm) es.size #[] es.size)) := by
    unfold execOp
    simp only [ho, Instr.range, Sem.run_bind, (C.get ht).run_under, he, (f.evl hx).v_inv, getMap hb, run_newObj, Result.andThen_ok, Sem.run_pure]
    rfl
  unfold Oper.wp
  rw [hrun]
  exact hK _ _ (k w.heap.size _ _ hn.1 ((f.mv hn.2).put hs (.v _)))

/-- One step: over, or one more place, whichever. -/
theorem o_nx (i j : Nat) {α β : Type} {fk : α → Value} {fv : β → DV} {x : Operand} {bm bi s1 s2 : Nat} {m : List (α × β)} {seen : List Nat} (ho : o.op = .next x false) (hg : o.guard = none) (hs1 : o.dst = some s1) (hN1 : Nat.blt s1 E.N = true)
    (ho2 : o2.op = .extract (.tmp s1) 0) (hg2 : o2.guard = none) (hs2 : o2.dst = some s2) (hN2 : Nat.blt s2 E.N = true) (hK1 : (lk K s1).isNone = true)
    (hx : ev K x = some (.v (.pointer (some ⟨bi, 0, none⟩)))) (hi : Γ[i]? = some (mapR bm fk fv m)) (hj : Γ[j]? = some (iterR bi bm m.length seen))
    (k : ∀ z : Option Nat, (∀ p, z = some p → p < m.length ∧ p ∉ seen) → (z = none → ∀ p, p < m.length → p ∈ seen) → SO C E ops rest ((s2, .v (.bool z.isSome)) :: K) (Γ.set j (iterR bi bm m.length (seen ++ z.toList))) Q) : SO C E ops (o :: o2 :: rest) K Γ Q := by
  intro a w s f
  obtain ⟨_, es, hb, h1, hbo, _⟩ := s.ok _ (List.mem_of_getElem? hi)
  have hl : es.size = m.length := by simpa using congrArg List.length h1
  have hbi : w.heap[bi]? = some (.mapIter (some bm) m.length seen.toArray m.length) := s.ok _ (List.mem_of_getElem? hj)
  have hs1' : s1 < E.N := by simpa [Nat.blt_eq] using hN1
  have hs2' : s2 < E.N := by simpa [Nat.blt_eq] using hN2
  -- what is known stays known, whatever lies in s1 now
  have key : ∀ (z : Option Nat) (us : Array Value) (w' : World), us[0]? = some (.bool z.isSome) → (∀ p, z = some p → p < m.length ∧ p ∉ seen) → (z = none → ∀ p, p < m.length → p ∈ seen) →
      (execOp a.eval o).run C.P w = .ok (.value (.tuple us)) w' → St E w' (Γ.set j (iterR bi bm m.length (seen ++ z.toList))) → Mv E Γ w (Γ.set j (iterR bi bm m.length (seen ++ z.toList))) w' → wpList C.P ops Q (o :: o2 :: rest) a w := by
    intro z us w' hu hz1 hz2 hrun s' m'
    refine wpList_plain hg fun Kc hK => ?_
    unfold Oper.wp
    rw [hrun]
    refine hK _ _ ?_
    refine wpList_plain hg2 fun Kc2 hK2 => ?_
    have hf1 : Fr E.N K (av E (Γ.set j (iterR bi bm m.length (seen ++ z.toList)))) w' (a.put o.dst (.tuple us)) := by
      have f' := f.mv m'
      rw [hs1]
      refine ⟨f'.df, by simp [Act.put, f'.sz], fun t d ht => ?_⟩
      have hne : s1 ≠ t := fun e => by subst e; rw [ht] at hK1; cases hK1
      obtain ⟨u, h3, h4⟩ := f'.kn t d ht
      exact ⟨u, by simp [Act.put, hne, h3], h4⟩
    have hrun2 : (execOp (a.put o.dst (.tuple us)).eval o2).run C.P w' = .ok (.value (.bool z.isSome)) w' := by
      have hev : (a.put o.dst (.tuple us)).eval (.tmp s1) = .tuple us := by
        rw [hs1]
        simp [Act.eval, Act.put, Array.getD_eq_getD_getElem?, f.sz, hs1']
      unfold execOp
      simp [ho2, hev, Instr.extract, hu]
    unfold Oper.wp
    rw [hrun2]
    refine hK2 _ _ ?_
    have := hf1.put (dst := some s2) (by simpa [dstOk, Nat.blt_eq] using hs2') (.v (.bool z.isSome))
    rw [hs2]
    exact k z hz1 hz2 _ _ s' this
  have e1 := (f.evl hx).v_inv
  rcases next_run (P := C.P) (w := w) o.type hb hl hbi hbo with ⟨hall, hrun⟩ | ⟨p, u, v, q, hp, hps, hrun⟩
  · have hset : Γ.set j (iterR bi bm m.length (seen ++ (none : Option Nat).toList)) = Γ := by
      simp only [Option.toList_none, List.append_nil]
      apply List.ext_getElem?
      intro k
      rw [List.getElem?_set]
      split
      · rename_i e
        subst e
        split
        · exact hj.symm
        · rename_i h; rw [List.getElem?_eq_none (by omega)] at hj; cases hj
      · rfl
    refine key none #[.bool false] w rfl (fun p h => by cases h) (fun _ => hall) ?_ (by rw [hset]; exact s) (by rw [hset]; exact .refl _ _ _)
    unfold execOp
    simp only [ho, e1, Sem.run_bind, hrun, Result.andThen_ok, Sem.run_pure]
  · have hu := s.upd (w' := { w with heap := w.heap.setIfInBounds bi (.mapIter (some bm) m.length (seen ++ [p]).toArray m.length), drawn := w.drawn + q }) hj (iterR bi bm m.length (seen ++ [p])) rfl rfl rfl (Nat.le_add_right _ _) (by simp)
      (fun b _ hn => (heapSet hbi).2 b fun e => hn e) (fun b h => .inl h) (heapSet hbi).1
    refine key (some p) #[.bool true, u, v] _ rfl (fun p' h => by cases h; exact ⟨hp, hps⟩) (fun h => by cases h) ?_ hu.1 hu.2
    unfold execOp
    simp only [ho, e1, Sem.run_bind, hrun, Result.andThen_ok, Sem.run_pure]

/-- The step's key and value. -/
theorem u_en (i j : Nat) {α β : Type} {fk : α → Value} {fv : β → DV} {x : Operand} {bm bi p : Nat} {m : List (α × β)} {seen : List Nat} {k0 : α} {v0 : β} (hp : m[p]? = some (k0, v0)) (ho : o.op = .entry x) (hg : o.guard = none)
    (hx : ev K x = some (.v (.pointer (some ⟨bi, 0, none⟩)))) (hi : Γ[i]? = some (mapR bm fk fv m)) (hj : Γ[j]? = some (iterR bi bm m.length (seen ++ [p]))) : Qv C E ops K Γ o (.tup [.v (fk k0), fv v0]) := by
  refine qv_val (G := []) (by rw [hg]; rfl) (fun a w hT s f => ?_)
  obtain ⟨_, es, hb, h1, hbo, hr⟩ := s.ok _ (List.mem_of_getElem? hi)
  have hl : es.size = m.length := by simpa using congrArg List.length h1
  have hbi : w.heap[bi]? = some (.mapIter (some bm) m.length (seen ++ [p]).toArray m.length) := s.ok _ (List.mem_of_getElem? hj)
  have hpl : p < es.size := by
    rw [hl]
    rcases Nat.lt_or_ge p m.length with h | h
    · exact h
    · rw [List.getElem?_eq_none h] at hp; cases hp
  have hep : es[p]? = some es[p] := Array.getElem?_eq_getElem hpl
  have hk : es[p].key = fk k0 := by
    have := congrArg (·[p]?) h1
    simpa [hp, hpl] using this
  have hf : es.find? (·.born == p) = some es[p] := by
    have := find_place (l := es.toList) (k0 := 0) (p := p) (fun i e h => by rw [hbo i e (by simpa using h)]; omega) es[p] (by simp)
    rw [← Array.find?_toList]
    simpa using this
  have hrr := hr p es[p] (k0, v0) hep hp
  have hrep : Rep (av E Γ) w (.tuple #[fk k0, es[p].val]) (.tup [.v (fk k0), fv v0]) := by
    have := RepL.cons (.v (fk k0)) (RepL.cons hrr (RepL.nil (A := av E Γ) (w := w)))
    exact .tup [_, _] _ this.1 this.2
  have hlast : (seen ++ [p]).getLast? = some p := by simp
  refine ⟨.tuple #[fk k0, es[p].val], w, ?_, s, .refl _ _ _, hrep⟩
  unfold execOp
  simp only [ho, (f.evl hx).v_inv, Instr.entry, Sem.run_bind, getObj_iter hbi, getMap hb, Result.andThen_ok, List.back?_toArray, hlast, hl, bne_self_eq_false, Bool.false_eq_true, if_false, hf, hk, Sem.run_pure]
end
end Go.Proofs.Ytcdakcemcehfiaa
