/- The walk library, part k: maps, owned and read. -/
import Derived.Test.YtcdakcemcehfiaaSxj
namespace Go.Proofs.Ytcdakcemcehfiaa
open Go Go.RowKit

section
variable {α β : Type} [DecidableEq α]
/-- What a map has of a key. -/
def mget (a : α) : List (α × β) → Option β
  | [] => none
  | x :: m => if a = x.1 then some x.2 else mget a m
/-- A map with a value of a key. -/
def mset (a : α) (v : β) : List (α × β) → List (α × β)
  | [] => [(a, v)]
  | x :: m => if a = x.1 then (a, v) :: m else x :: mset a v m

theorem ixK_none {a : α} : ∀ {m : List (α × β)}, ixK a m = none → (∀ v, mset a v m = m ++ [(a, v)]) ∧ mget a m = none
  | [], _ => ⟨fun _ => rfl, rfl⟩
  | x :: m, h => by
    simp only [ixK] at h
    split at h
    · cases h
    · rename_i hx
      have := ixK_none (m := m) (by simpa using h)
      exact ⟨fun v => by simp [mset, hx, this.1], by simp [mget, hx, this.2]⟩
theorem ixK_some {a : α} : ∀ {m : List (α × β)} {j : Nat}, ixK a m = some j → (∀ v, mset a v m = m.set j (a, v)) ∧ ∃ v, m[j]? = some (a, v) ∧ mget a m = some v
  | [], j, h => by cases h
  | x :: m, j, h => by
    simp only [ixK] at h
    split at h
    · rename_i hx
      simp only [Option.some.injEq] at h
      subst h
      exact ⟨fun v => by simp [mset, hx], x.2, by simp [hx], by simp [mget, hx]⟩
    · rename_i hx
      cases hj : ixK a m with
      | none => simp [hj] at h
      | some j' =>
        simp [hj] at h
        subst h
        obtain ⟨h1, v, h2, h3⟩ := ixK_some hj
        exact ⟨fun v => by simp [mset, hx, h1], v, by simpa using h2, by simp [mget, hx, h3]⟩

theorem mget_mset (a b : α) (v : β) : ∀ m : List (α × β), mget b (mset a v m) = if b = a then some v else mget b m
  | [] => by by_cases h : b = a <;> simp [mset, mget, h]
  | x :: m => by
    have ih := mget_mset a b v m
    simp only [mset]
    by_cases hx : a = x.1
    · by_cases h : b = a
      · simp [mget, hx, h]
      · simp only [hx, if_true, mget]
        subst hx
        simp [h]
    · simp only [hx, if_false, mget, ih]
      by_cases hb : b = x.1
      · have : ¬ x.1 = a := fun e => hx e.symm
        simp [hb, this]
      · simp [hb]
end

theorem getMap {P : Program} {w : World} {r : Nat} {es : Array MapEntry} {clock : Nat} (hb : w.heap[r]? = some (.map es clock)) : (getObj r).run P w = .ok (.map es clock) w := by
  simp [getObj, Sem.run, hb]

theorem setMap {P : Program} {w : World} {r : Nat} {es : Array MapEntry} {clock : Nat} (o : Obj) (hb : w.heap[r]? = some (.map es clock)) : (setObj r o).run P w = .ok () { w with heap := w.heap.setIfInBounds r o } := by
  simp [setObj, Sem.run, hb]
theorem heapSet {w : World} {r : Nat} {o o' : Obj} (hb : w.heap[r]? = some o) : (w.heap.setIfInBounds r o')[r]? = some o' ∧ ∀ r', r' ≠ r → (w.heap.setIfInBounds r o')[r']? = w.heap[r']? := by
  have hlt : r < w.heap.size := (Array.getElem?_eq_some_iff.1 hb).1
  exact ⟨by simp [hlt], fun r' hne => by simp [Ne.symm hne]⟩

/-- A map of the walk's own. fk, fv: how keys and values lie. -/
def mapR (b : Nat) {α β : Type} (fk : α → Value) (fv : β → DV) (m : List (α × β)) : Res where
  fp x := x = b
  ok A w := (m.map (fun x => fk x.1)).Nodup ∧ ∃ es : Array MapEntry, w.heap[b]? = some (.map es es.size) ∧ es.toList.map (·.key) = m.map (fun x => fk x.1) ∧ (∀ (i : Nat) (e : MapEntry), es[i]? = some e → e.born = i) ∧
    ∀ (i : Nat) (e : MapEntry) (x : α × β), es[i]? = some e → m[i]? = some x → Rep A w e.val (fv x.2)
  lt := by
    rintro A w x ⟨_, es, h, _⟩ rfl
    exact lt_of_heap h
  keep := by
    rintro A A' w w' ⟨hnd, es, h, hk, hb, hr⟩ hw hA
    exact ⟨hnd, es, (hw b (lt_of_heap h) (.inl rfl)).trans h, hk, hb, fun i e x h1 h2 => (hr i e x h1 h2).keep (fun x hx hn => hw x hx (.inr hn)) hA⟩

@[irreducible] def mpD {α β : Type} (fk : α → Value) (fv : β → DV) (m : List (α × β)) : DV := .mp (m.map fun x => (fk x.1, fv x.2))

theorem perm_map_inv {α β : Type} {f : α → β} : ∀ {m : List α} {l : List β}, l.Perm (m.map f) → ∃ m' : List α, m'.Perm m ∧ l = m'.map f := by
  intro m l h
  generalize hk : m.map f = k at h
  induction h generalizing m with
  | nil => exact ⟨[], by rw [List.map_eq_nil_iff] at hk; rw [hk], rfl⟩
  | cons x _ ih =>
    cases m with
    | nil => simp at hk
    | cons y m =>
      simp only [List.map_cons, List.cons.injEq] at hk
      obtain ⟨m', h1, h2⟩ := ih hk.2
      exact ⟨y :: m', h1.cons y, by simp [hk.1, h2]⟩
  | swap x y l =>
    cases m with
    | nil => simp at hk
    | cons a m =>
      cases m with
      | nil => simp at hk
      | cons b m =>
        simp only [List.map_cons, List.cons.injEq] at hk
        obtain ⟨rfl, rfl, rfl⟩ := hk
        exact ⟨b :: a :: m, List.Perm.swap _ _ _, rfl⟩
  | trans _ _ ih1 ih2 =>
    obtain ⟨m2, h3, h4⟩ := ih2 hk
    obtain ⟨m1, h1, h2⟩ := ih1 h4.symm
    exact ⟨m1, h1.trans h3, h2⟩

theorem mget_none {α β : Type} [DecidableEq α] {a : α} : ∀ {m : List (α × β)}, a ∉ m.map (·.1) → mget a m = none
  | [], _ => rfl
  | x :: m, h => by
    simp only [List.map_cons, List.mem_cons, not_or] at h
    simp [mget, h.1, mget_none h.2]
theorem mget_mem {α β : Type} [DecidableEq α] {a : α} {v : β} : ∀ {m : List (α × β)}, (m.map (·.1)).Nodup → (mget a m = some v ↔ (a, v) ∈ m)
  | [], _ => by simp [mget]
  | x :: m, h => by
    simp only [List.map_cons, List.nodup_cons] at h
    have ih := mget_mem (a := a) (v := v) h.2
    simp only [mget, List.mem_cons]
    by_cases hx : a = x.1
    · subst hx
      simp only [if_true, Option.some.injEq]
      constructor
      · rintro rfl; exact .inl rfl
      · rintro (h1 | h1)
        · exact (congrArg Prod.snd h1).symm
        · exact absurd (List.mem_map.2 ⟨_, h1, rfl⟩) h.1
    · rw [if_neg hx, ih]
      constructor
      · exact .inr
      · rintro (h1 | h1)
        · exact absurd (congrArg Prod.fst h1) hx
        · exact h1
/-- In what order a map's entries stand makes no difference. -/
theorem mget_perm {α β : Type} [DecidableEq α] {a : α} {m m' : List (α × β)} (hp : m'.Perm m) (hn : (m.map (·.1)).Nodup) : mget a m' = mget a m := by
  have hn' : (m'.map (·.1)).Nodup := (hp.map _).nodup_iff.2 hn
  apply Option.ext
  intro v
  rw [mget_mem hn', mget_mem hn, hp.mem_iff]

theorem nodup_of_map {α β : Type} {f : α → β} : ∀ {l : List α}, (l.map f).Nodup → l.Nodup
  | [], _ => List.nodup_nil
  | x :: l, h => by
    simp only [List.map_cons, List.nodup_cons] at h
    exact List.nodup_cons.2 ⟨fun hx => h.1 (List.mem_map.2 ⟨x, hx, rfl⟩), nodup_of_map h.2⟩
theorem nodup_of_keys {α β : Type} {fk : α → Value} {m : List (α × β)} (h : (m.map (fun x => fk x.1)).Nodup) : (m.map (·.1)).Nodup := by
  have : (m.map (fun x => fk x.1)) = (m.map (·.1)).map fk := by simp [Function.comp_def]
  rw [this] at h
  exact nodup_of_map h

theorem Rep.mpD_inv {A : Nat → Prop} {w : World} {u : Value} {α β : Type} {fk : α → Value} {fv : β → DV} {m : List (α × β)} (h : Rep A w u (mpD fk fv m)) :
    ∃ (r : Option Nat) (es : Array MapEntry) (m' : List (α × β)), u = .map r ∧ m'.Perm m ∧ (m.map (fun x => fk x.1)).Nodup ∧ (r = none → es = #[]) ∧ (∀ b, r = some b → ¬ A b ∧ ∃ clock, w.heap[b]? = some (.map es clock)) ∧ es.toList.map (·.key) = m'.map (fun x => fk x.1) ∧
      ∀ (i : Nat) (e : MapEntry) (x : α × β), es[i]? = some e → m'[i]? = some x → Rep A w e.val (fv x.2) := by
  unfold mpD at h
  generalize hl : (m.map fun x => (fk x.1, fv x.2)) = l at h
  cases h with
  | mpnil =>
    have : m = [] := by simpa using hl
    subst this
    exact ⟨none, #[], [], rfl, .refl _, by simp, (fun _ => rfl), (fun b h => by cases h), rfl, fun i e x h => by simp at h⟩
  | mp b es clock _ l' hp hd hA hb hs hk he =>
    subst hl
    obtain ⟨m', hp', rfl⟩ := perm_map_inv hp
    have hs' : es.size = m'.length := by simpa using hs
    refine ⟨some b, es, m', rfl, hp', by simpa [Function.comp_def] using hd, (fun h => by cases h), (fun b' h => ?_), ?_, fun i e x h1 h2 => he i e (fk x.1, fv x.2) h1 (by simp [h2])⟩
    · cases h
      exact ⟨hA, clock, hb⟩
    · apply List.ext_getElem?
      intro i
      rcases Nat.lt_or_ge i es.size with hi | hi
      · have hi' : i < m'.length := by omega
        have := hk i es[i] (fk m'[i].1, fv m'[i].2) (Array.getElem?_eq_getElem hi) (by simp [hi'])
        simp [hi, hi', this]
      · have hi' : m'.length ≤ i := by omega
        simp [hi, hi']

theorem Rep.mpD_mk {A : Nat → Prop} {w : World} {α β : Type} {fk : α → Value} {fv : β → DV} {m m' : List (α × β)} {b clock : Nat} {es : Array MapEntry} (hp : m'.Perm m) (hn : (m.map (fun x => fk x.1)).Nodup) (hA : ¬ A b) (hb : w.heap[b]? = some (.map es clock))
    (hk : es.toList.map (·.key) = m'.map (fun x => fk x.1)) (hr : ∀ (i : Nat) (e : MapEntry) (x : α × β), es[i]? = some e → m'[i]? = some x → Rep A w e.val (fv x.2)) : Rep A w (.map (some b)) (mpD fk fv m) := by
  unfold mpD
  have hl : es.size = m'.length := by simpa using congrArg List.length hk
  refine .mp b es clock _ (m'.map fun x => (fk x.1, fv x.2)) (hp.map _) (by simpa [Function.comp_def] using hn) hA hb (by simpa using hl) (fun i e x h1 h2 => ?_) (fun i e x h1 h2 => ?_)
  · have := congrArg (·[i]?) hk
    simp only [List.getElem?_map] at this h2
    cases hm : m'[i]? with
    | none => simp [hm] at h2
    | some y =>
      simp [hm] at h2
      simp [hm, h1] at this
      rw [this, ← h2]
  · simp only [List.getElem?_map] at h2
    cases hm : m'[i]? with
    | none => simp [hm] at h2
    | some y =>
      simp [hm] at h2
      rw [← h2]
      exact hr i e y h1 hm

/-- A key that is known. -/
def kvD : DV → Option Value
  | .v u => some u
  | .agg ds => match svals ds with | some us => some (.agg us.toArray) | none => none
  | _ => none
theorem kvD_ok {A : Nat → Prop} {w : World} {u k : Value} {d : DV} (h : Rep A w u d) (hk : kvD d = some k) : u = k := by
  cases d <;> simp only [kvD, reduceCtorEq, Option.some.injEq] at hk
  · rw [← hk]; exact h.v_inv
  · split at hk
    · rename_i us hu
      simp only [Option.some.injEq] at hk
      obtain ⟨cs, rfl, hr⟩ := h.agg_inv
      rw [svals_ok hu hr, hk]
    · cases hk

/-- The zero value of a type, as it is known. -/
def TyE.zd (e : TyE) : DV := if e.agg then .agg (e.zero.map zD) else zD (e.zero.headD undef)
theorem zd_ok (A : Nat → Prop) (w : World) (e : TyE) : Rep A w e.z e.zd := by
  unfold TyE.z TyE.zd
  cases e.agg with
  | true =>
    have := zs_ok A w e.zero
    exact .agg _ _ this.1 this.2
  | false => exact zD_ok _ _ _

section
variable {C : Cx} {α β : Type} [DecidableEq α] {fk : α → Value} {fv : β → DV} {kt et t : TypeId}

theorem look_run (KT : KeyT C kt fk) {A : Nat → Prop} {w : World} {r : Option Nat} {es : Array MapEntry} {m : List (α × β)} {e e2 : TyE} (ht : lkT C.T t = some e) (he : e.u = .map kt et) (ht2 : lkT C.T et = some e2)
    (hn : r = none → es = #[]) (hb : ∀ b, r = some b → ∃ clock, w.heap[b]? = some (.map es clock)) (hk : es.toList.map (·.key) = m.map (fun x => fk x.1))
    (hr : ∀ (i : Nat) (e : MapEntry) (x : α × β), es[i]? = some e → m[i]? = some x → Rep A w e.val (fv x.2)) (a : α) (z : β) (hz : e2.zd = fv z) (c : Bool) :
    ∃ v, (Instr.lookup t (.map r) (fk a) c).run C.P w = .ok (if c then .tuple #[v, .bool (mget a m).isSome] else v) w ∧ Rep A w v (fv ((mget a m).getD z)) := by
  have hT := C.get ht
  have hT2 := C.get ht2
  have hf := KT.find w a es.toList m hk
  cases hix : ixK a m with
  | none =>
    refine ⟨e2.z, ?_, ?_⟩
    · unfold Instr.lookup
      cases r with
      | none =>
        have := hn rfl
        subst this
        simp [run_underlying (hT.u.trans (congrArg some he)), KT.check, hf, hix, hT2.run_zero, (ixK_none hix).2]
      | some b =>
        obtain ⟨clock, hb⟩ := hb b rfl
        simp [run_underlying (hT.u.trans (congrArg some he)), getMap hb, KT.check, hf, hix, hT2.run_zero, (ixK_none hix).2]
    · rw [(ixK_none hix).2, Option.getD_none, ← hz]
      exact zd_ok _ _ _
  | some j =>
    obtain ⟨_, v, h2, h3⟩ := ixK_some hix
    have hl : es.size = m.length := by simpa using congrArg List.length hk
    have hj : j < es.size := by
      rw [hl]
      rcases Nat.lt_or_ge j m.length with h | h
      · exact h
      · rw [List.getElem?_eq_none h] at h2; cases h2
    have hej : es.toList[j]? = some es[j] := by simp [hj]
    refine ⟨es[j].val, ?_, ?_⟩
    · unfold Instr.lookup
      cases r with
      | none =>
        have := hn rfl
        subst this
        simp at hj
      | some b =>
        obtain ⟨clock, hb⟩ := hb b rfl
        simp [run_underlying (hT.u.trans (congrArg some he)), getMap hb, KT.check, hf, hix, h3, hj]
    · rw [h3, Option.getD_some]
      exact hr j es[j] (a, v) (Array.getElem?_eq_getElem hj) h2
end

section
variable {C : Cx} {E : En} {K : Kn} {Γ : List Res} {Q : Exit → Act → World → Prop} {ops : Array Oper} {o : Oper} {rest : List Oper}

theorem Rep.tup2 {A : Nat → Prop} {w : World} {v : Value} {d : DV} {c : Bool} (h : Rep A w v d) : Rep A w (.tuple #[v, .bool c]) (.tup [d, .b c]) := by
  have := RepL.cons h (RepL.cons (.v (.bool c)) (RepL.nil (A := A) (w := w)))
  exact .tup [v, .bool c] _ this.1 this.2

/-- How many keys a map of one's own has. -/
theorem q_mlen {α β : Type} {fk : α → Value} {fv : β → DV} {kt et t : TypeId} (i : Nat) {x : Operand} {b : Nat} {m : List (α × β)} {e : TyE} {ats : Array TypeId} {G : List (Bool × Bool)} (ho : o.op = .call { callee := .builtin .len, args := #[x], argTypes := ats }) (hg : gpo ops K o.guard = some G)
    (ha : ats = #[t]) (hx : evG G K x = some (.v (.map (some b)))) (hc : gA G K [x] = gB G K [x]) (hi : Γ[i]? = some (mapR b fk fv m)) (ht : lkT C.T t = some e) (he : e.u = .map kt et) : Qv C E ops K Γ o (wrapG G (.v (.int .i64 m.length))) := by
  refine qv_val hg (fun a w hT s f => ?_)
  obtain ⟨_, es, hb, h1, _, h3⟩ := s.ok _ (List.mem_of_getElem? hi)
  have hl : es.size = m.length := by simpa using congrArg List.length h1
  refine ⟨_, w, ?_, s, .refl _ _ _, .v _⟩
  subst ha
  unfold execOp
  have e1 := (evG_ok f hT hc (by simp) hx).v_inv
  simp [ho, resolve, invoke, builtin, Builtin.len_, underlying, (C.get ht).u, he, e1, getMap hb, goInt, hl]

theorem u_mlen {α β : Type} {fk : α → Value} {fv : β → DV} {kt et t : TypeId} (i : Nat) {x : Operand} {b : Nat} {m : List (α × β)} {e : TyE} {ats : Array TypeId} (ho : o.op = .call { callee := .builtin .len, args := #[x], argTypes := ats }) (hg : o.guard = none)
    (ha : ats = #[t]) (hx : ev K x = some (.v (.map (some b)))) (hi : Γ[i]? = some (mapR b fk fv m)) (ht : lkT C.T t = some e) (he : e.u = .map kt et) : Qv C E ops K Γ o (.v (.int .i64 m.length)) := q_mlen (G := []) i ho (by rw [hg]; rfl) ha hx rfl hi ht he

/-- A new map. -/
theorem o_mk {α β : Type} (fk : α → Value) (fv : β → DV) {T : TypeId} {sl : Nat} (ho : o.op = .makeMap T none) (hg : o.guard = none) (hsl : o.dst = some sl) (hN : Nat.blt sl E.N = true)
    (k : ∀ b, SO C E ops rest ((sl, .v (.map (some b))) :: K) (Γ ++ [mapR b fk fv []]) Q) : SO C E ops (o :: rest) K Γ Q := by
  have hs : dstOk E.N o.dst = true := by rw [hsl]; exact hN
  have k : ∀ b, SO C E ops rest (putK o.dst (.v (.map (some b))) K) (Γ ++ [mapR b fk fv []]) Q := by rw [hsl]; exact k
  intro a w s f
  have hn := s.new (.map #[] 0) (mapR w.heap.size fk fv []) (fun b h => h) ⟨by simp, #[], alloc_new _ _, rfl, fun i e h => by simp at h, fun i e x h => by simp at h⟩
  refine wpList_plain hg fun Kc hK => ?_
  have hrun : (execOp a.eval o).run C.P w = .ok (.value (.map (some w.heap.size))) (w.alloc (.map #[] 0)) := by
    unfold execOp
    simp only [ho, Option.map_none, Instr.makeMap, Sem.run_bind, run_newObj, Result.andThen_ok, Sem.run_pure]
    rfl
  unfold Oper.wp
  rw [hrun]
  exact hK _ _ (k w.heap.size _ _ hn.1 ((f.mv hn.2).put hs (.v _)))

variable {α β : Type} [DecidableEq α] {fk : α → Value} {fv : β → DV} {kt et t : TypeId}

/-- A lookup in a map of one's own (at i of what is owned): a: the key; z: what the zero value is. -/
theorem q_lo (i : Nat) (KT : KeyT C kt fk) (a : α) (z : β) {x y : Operand} {b : Nat} {m : List (α × β)} {e e2 : TyE} {dy : DV} {G : List (Bool × Bool)} (ho : o.op = .lookup t x y false) (hg : gpo ops K o.guard = some G) (hx : evG G K x = some (.v (.map (some b))))
    (hy : evG G K y = some dy) (hc : gA G K [x, y] = gB G K [x, y]) (hk : kvD dy = some (fk a)) (hi : Γ[i]? = some (mapR b fk fv m)) (ht : lkT C.T t = some e) (he : e.u = .map kt et) (ht2 : lkT C.T et = some e2) (hz : e2.zd = fv z) :
    Qv C E ops K Γ o (wrapG G (fv ((mget a m).getD z))) := by
  refine qv_val hg (fun a' w hT s f => ?_)
  obtain ⟨_, es, hb, h1, _, h3⟩ := s.ok _ (List.mem_of_getElem? hi)
  obtain ⟨v, hr, hv⟩ := look_run KT (A := av E Γ) (w := w) (r := some b) ht he ht2 (fun h => by cases h) (fun b' h => by cases h; exact ⟨_, hb⟩) h1 h3 a z hz false
  refine ⟨v, w, ?_, s, .refl _ _ _, hv⟩
  unfold execOp
  have e1 := (evG_ok f hT hc (by simp) hx).v_inv
  have e2 := kvD_ok (evG_ok f hT hc (by simp) hy) hk
  simp [ho, e1, e2, hr]

theorem q_lo2 (i : Nat) (KT : KeyT C kt fk) (a : α) (z : β) {x y : Operand} {b : Nat} {m : List (α × β)} {e e2 : TyE} {dy : DV} {G : List (Bool × Bool)} (ho : o.op = .lookup t x y true) (hg : gpo ops K o.guard = some G) (hx : evG G K x = some (.v (.map (some b))))
    (hy : evG G K y = some dy) (hc : gA G K [x, y] = gB G K [x, y]) (hk : kvD dy = some (fk a)) (hi : Γ[i]? = some (mapR b fk fv m)) (ht : lkT C.T t = some e) (he : e.u = .map kt et) (ht2 : lkT C.T et = some e2) (hz : e2.zd = fv z) :
    Qv C E ops K Γ o (wrapG G (.tup [fv ((mget a m).getD z), .b (mget a m).isSome])) := by
  refine qv_val hg (fun a' w hT s f => ?_)
  obtain ⟨_, es, hb, h1, _, h3⟩ := s.ok _ (List.mem_of_getElem? hi)
  obtain ⟨v, hr, hv⟩ := look_run KT (A := av E Γ) (w := w) (r := some b) ht he ht2 (fun h => by cases h) (fun b' h => by cases h; exact ⟨_, hb⟩) h1 h3 a z hz true
  refine ⟨_, w, ?_, s, .refl _ _ _, hv.tup2⟩
  unfold execOp
  have e1 := (evG_ok f hT hc (by simp) hx).v_inv
  have e2 := kvD_ok (evG_ok f hT hc (by simp) hy) hk
  simp [ho, e1, e2, hr]

/-- A lookup in a map that is read. -/
theorem q_lr (KT : KeyT C kt fk) (a : α) (z : β) {x y : Operand} {m : List (α × β)} {e e2 : TyE} {dy : DV} {G : List (Bool × Bool)} (ho : o.op = .lookup t x y false) (hg : gpo ops K o.guard = some G) (hx : evG G K x = some (mpD fk fv m))
    (hy : evG G K y = some dy) (hc : gA G K [x, y] = gB G K [x, y]) (hk : kvD dy = some (fk a)) (ht : lkT C.T t = some e) (he : e.u = .map kt et) (ht2 : lkT C.T et = some e2) (hz : e2.zd = fv z) :
    Qv C E ops K Γ o (wrapG G (fv ((mget a m).getD z))) := by
  refine qv_val hg (fun a' w hT s f => ?_)
  obtain ⟨r, es, m', hu, hpm, hnd, hn, hb, h1, h3⟩ := (evG_ok f hT hc (by simp) hx).mpD_inv
  obtain ⟨v, hr, hv⟩ := look_run KT (A := av E Γ) (w := w) ht he ht2 hn (fun b' h => (hb b' h).2) h1 h3 a z hz false
  rw [mget_perm hpm (nodup_of_keys hnd)] at hv
  refine ⟨v, w, ?_, s, .refl _ _ _, hv⟩
  unfold execOp
  have e2 := kvD_ok (evG_ok f hT hc (by simp) hy) hk
  simp [ho, hu, e2, hr]

theorem q_lr2 (KT : KeyT C kt fk) (a : α) (z : β) {x y : Operand} {m : List (α × β)} {e e2 : TyE} {dy : DV} {G : List (Bool × Bool)} (ho : o.op = .lookup t x y true) (hg : gpo ops K o.guard = some G) (hx : evG G K x = some (mpD fk fv m))
    (hy : evG G K y = some dy) (hc : gA G K [x, y] = gB G K [x, y]) (hk : kvD dy = some (fk a)) (ht : lkT C.T t = some e) (he : e.u = .map kt et) (ht2 : lkT C.T et = some e2) (hz : e2.zd = fv z) :
    Qv C E ops K Γ o (wrapG G (.tup [fv ((mget a m).getD z), .b (mget a m).isSome])) := by
  refine qv_val hg (fun a' w hT s f => ?_)
  obtain ⟨r, es, m', hu, hpm, hnd, hn, hb, h1, h3⟩ := (evG_ok f hT hc (by simp) hx).mpD_inv
  obtain ⟨v, hr, hv⟩ := look_run KT (A := av E Γ) (w := w) ht he ht2 hn (fun b' h => (hb b' h).2) h1 h3 a z hz true
  rw [mget_perm hpm (nodup_of_keys hnd)] at hv
  rw [mget_perm hpm (nodup_of_keys hnd)] at hr
  refine ⟨_, w, ?_, s, .refl _ _ _, hv.tup2⟩
  unfold execOp
  have e2 := kvD_ok (evG_ok f hT hc (by simp) hy) hk
  simp [ho, hu, e2, hr]

theorem u_lo (i : Nat) (KT : KeyT C kt fk) (a : α) (z : β) {x y : Operand} {b : Nat} {m : List (α × β)} {e e2 : TyE} {dy : DV} (ho : o.op = .lookup t x y false) (hg : o.guard = none) (hx : ev K x = some (.v (.map (some b))))
    (hy : ev K y = some dy) (hk : kvD dy = some (fk a)) (hi : Γ[i]? = some (mapR b fk fv m)) (ht : lkT C.T t = some e) (he : e.u = .map kt et) (ht2 : lkT C.T et = some e2) (hz : e2.zd = fv z) :
    Qv C E ops K Γ o (fv ((mget a m).getD z)) := q_lo (G := []) i KT a z ho (by rw [hg]; rfl) hx hy rfl hk hi ht he ht2 hz
theorem u_lo2 (i : Nat) (KT : KeyT C kt fk) (a : α) (z : β) {x y : Operand} {b : Nat} {m : List (α × β)} {e e2 : TyE} {dy : DV} (ho : o.op = .lookup t x y true) (hg : o.guard = none) (hx : ev K x = some (.v (.map (some b))))
    (hy : ev K y = some dy) (hk : kvD dy = some (fk a)) (hi : Γ[i]? = some (mapR b fk fv m)) (ht : lkT C.T t = some e) (he : e.u = .map kt et) (ht2 : lkT C.T et = some e2) (hz : e2.zd = fv z) :
    Qv C E ops K Γ o (.tup [fv ((mget a m).getD z), .b (mget a m).isSome]) := q_lo2 (G := []) i KT a z ho (by rw [hg]; rfl) hx hy rfl hk hi ht he ht2 hz
theorem u_lr (KT : KeyT C kt fk) (a : α) (z : β) {x y : Operand} {m : List (α × β)} {e e2 : TyE} {dy : DV} (ho : o.op = .lookup t x y false) (hg : o.guard = none) (hx : ev K x = some (mpD fk fv m))
    (hy : ev K y = some dy) (hk : kvD dy = some (fk a)) (ht : lkT C.T t = some e) (he : e.u = .map kt et) (ht2 : lkT C.T et = some e2) (hz : e2.zd = fv z) :
    Qv C E ops K Γ o (fv ((mget a m).getD z)) := q_lr (G := []) KT a z ho (by rw [hg]; rfl) hx hy rfl hk ht he ht2 hz
theorem u_lr2 (KT : KeyT C kt fk) (a : α) (z : β) {x y : Operand} {m : List (α × β)} {e e2 : TyE} {dy : DV} (ho : o.op = .lookup t x y true) (hg : o.guard = none) (hx : ev K x = some (mpD fk fv m))
    (hy : ev K y = some dy) (hk : kvD dy = some (fk a)) (ht : lkT C.T t = some e) (he : e.u = .map kt et) (ht2 : lkT C.T et = some e2) (hz : e2.zd = fv z) :
    Qv C E ops K Γ o (.tup [fv ((mget a m).getD z), .b (mget a m).isSome]) := q_lr2 (G := []) KT a z ho (by rw [hg]; rfl) hx hy rfl hk ht he ht2 hz

theorem KeyT.inj (KT : KeyT C kt fk) {a b : α} (h : fk a = fk b) : a = b := by
  have h1 := KT.equal default a b
  have h2 := KT.equal default a a
  rw [← h, h2] at h1
  simp only [Result.ok.injEq, and_true] at h1
  simpa using h1.symm
theorem ixK_mem {a : α} : ∀ {m : List (α × β)}, ixK a m = none → a ∉ m.map (·.1)
  | [], _ => by simp
  | x :: m, h => by
    simp only [ixK] at h
    split at h
    · cases h
    · rename_i hx
      have := ixK_mem (m := m) (by simpa using h)
      simp only [List.map_cons, List.mem_cons, not_or]
      exact ⟨hx, this⟩
theorem mset_keys (a : α) (v : β) (m : List (α × β)) (γ : Type) (f : α → γ) : (mset a v m).map (fun x => f x.1) = if (ixK a m).isSome then m.map (fun x => f x.1) else m.map (fun x => f x.1) ++ [f a] := by
  cases hix : ixK a m with
  | none => simp [(ixK_none hix).1 v]
  | some j =>
    obtain ⟨hm, v0, h2, h3⟩ := ixK_some hix
    rw [hm v]
    simp only [Option.isSome_some, if_true]
    apply List.ext_getElem?
    intro i
    simp only [List.getElem?_map, List.getElem?_set]
    by_cases hij : j = i
    · subst hij
      rw [if_pos rfl, h2]
      have : j < m.length := by
        rcases Nat.lt_or_ge j m.length with h | h
        · exact h
        · rw [List.getElem?_eq_none h] at h2; cases h2
      simp [this]
    · simp [hij]
theorem KeyT.nodup (KT : KeyT C kt fk) {m : List (α × β)} (h : (m.map (fun x => fk x.1)).Nodup) (a : α) (v : β) : ((mset a v m).map (fun x => fk x.1)).Nodup := by
  rw [mset_keys a v m Value fk]
  cases hix : ixK a m with
  | some j => simpa using h
  | none =>
    simp only [Option.isSome_none, Bool.false_eq_true, if_false]
    refine List.nodup_append.2 ⟨h, by simp, fun x hx y hy => ?_⟩
    rw [List.mem_singleton.1 hy]
    rintro rfl
    obtain ⟨z, hz, he⟩ := List.mem_map.1 hx
    exact ixK_mem hix (List.mem_map.2 ⟨z, hz, KT.inj he⟩)

theorem upd_run (KT : KeyT C kt fk) {w : World} {b : Nat} {es : Array MapEntry} {m : List (α × β)} {e : TyE} (ht : lkT C.T t = some e) (he : e.u = .map kt et) (hb : w.heap[b]? = some (.map es es.size)) (hk : es.toList.map (·.key) = m.map (fun x => fk x.1))
    (hbo : ∀ (i : Nat) (e : MapEntry), es[i]? = some e → e.born = i) (a : α) (v : β) (u : Value) :
    ∃ es' : Array MapEntry, (Instr.mapUpdate t (.map (some b)) (fk a) u).run C.P w = .ok () { w with heap := w.heap.setIfInBounds b (.map es' es'.size) } ∧ es'.toList.map (·.key) = (mset a v m).map (fun x => fk x.1) ∧ (∀ (i : Nat) (e : MapEntry), es'[i]? = some e → e.born = i) ∧
      ∀ (i : Nat) (e : MapEntry) (x : α × β), es'[i]? = some e → (mset a v m)[i]? = some x → (e.val = u ∧ x.2 = v) ∨ ∃ e0 : MapEntry, es[i]? = some e0 ∧ e.val = e0.val ∧ m[i]? = some x := by
  have hT := C.get ht
  have hf := KT.find w a es.toList m hk
  have hl : es.size = m.length := by simpa using congrArg List.length hk
  cases hix : ixK a m with
  | none =>
    have hm := (ixK_none hix).1 v
    refine ⟨es.push { key := fk a, val := u, born := es.size }, ?_, by simp [hm, hk], fun i e h => ?_, fun i e x h1 h2 => ?_⟩
    · unfold Instr.mapUpdate
      simp only [Sem.run_bind, run_underlying (hT.u.trans (congrArg some he)), Result.andThen_ok, getMap hb, KT.check, hf, hix, Option.map_none, setMap _ hb, Array.size_push]
    · rw [Array.getElem?_push] at h
      split at h
      · rename_i hi; simp only [Option.some.injEq] at h; subst h; exact hi.symm
      · exact hbo i e h
    · rw [hm] at h2
      rw [Array.getElem?_push] at h1
      split at h1
      · rename_i hi
        simp only [Option.some.injEq] at h1
        subst h1
        rw [List.getElem?_append_right (by omega)] at h2
        have : i - m.length = 0 := by omega
        rw [this] at h2
        simp at h2
        subst h2
        exact .inl ⟨rfl, rfl⟩
      · rename_i hi
        have : i < es.size := by
          rcases Nat.lt_or_ge i es.size with h | h
          · exact h
          · rw [Array.getElem?_eq_none h] at h1; cases h1
        rw [List.getElem?_append_left (by omega)] at h2
        exact .inr ⟨e, h1, rfl, h2⟩
  | some j =>
    obtain ⟨hm, v0, h2, h3⟩ := ixK_some hix
    have hm := hm v
    have hj : j < es.size := by
      rw [hl]
      rcases Nat.lt_or_ge j m.length with h | h
      · exact h
      · rw [List.getElem?_eq_none h] at h2; cases h2
    have hej : es[j]? = some es[j] := Array.getElem?_eq_getElem hj
    have hkj : es[j].key = fk a := by
      have := congrArg (·[j]?) hk
      simpa [h2, hj] using this
    refine ⟨es.modify j fun e => { e with key := fk a, val := u }, ?_, ?_, fun i e h => ?_, fun i e x h1 h4 => ?_⟩
    · unfold Instr.mapUpdate
      simp only [Sem.run_bind, run_underlying (hT.u.trans (congrArg some he)), Result.andThen_ok, getMap hb, KT.check, hf, hix, Option.map_some, hej, Option.getD_some, hkj, KT.stays, setMap _ hb, Array.size_modify]
    · rw [hm]
      apply List.ext_getElem?
      intro i
      have := congrArg (·[i]?) hk
      simp only [List.getElem?_map] at this ⊢
      rw [Array.getElem?_toList, Array.getElem?_modify, List.getElem?_set]
      by_cases hij : j = i
      · subst hij
        simp [hj, ← hl]
      · simp only [hij, if_false]
        rw [Array.getElem?_toList] at this
        simpa using this
    · rw [Array.getElem?_modify] at h
      by_cases hij : j = i
      · subst hij
        simp [hj] at h
        subst h
        exact hbo j es[j] hej
      · simp [hij] at h
        exact hbo i e h
    · rw [hm, List.getElem?_set] at h4
      rw [Array.getElem?_modify] at h1
      by_cases hij : j = i
      · subst hij
        simp [hj] at h1
        simp [← hl, hj] at h4
        subst h1 h4
        exact .inl ⟨rfl, rfl⟩
      · simp [hij] at h1 h4
        exact .inr ⟨e, h1, rfl, h4⟩

/-- A value of a key is put into a map of one's own (at i of what is owned): a: the key; v: the value. -/
theorem o_mu (i : Nat) (KT : KeyT C kt fk) (a : α) (v : β) {x y z : Operand} {b : Nat} {m : List (α × β)} {e : TyE} {dy dz : DV} (ho : o.op = .mapUpdate t x y z) (hg : o.guard = none) (hs : o.dst = none) (hx : ev K x = some (.v (.map (some b))))
    (hy : ev K y = some dy) (hz : ev K z = some dz) (hk : kvD dy = some (fk a)) (hv : dz = fv v) (hi : Γ[i]? = some (mapR b fk fv m)) (ht : lkT C.T t = some e) (he : e.u = .map kt et)
    (k : SO C E ops rest K (Γ.set i (mapR b fk fv (mset a v m))) Q) : SO C E ops (o :: rest) K Γ Q := by
  refine o_skp hg hs (fun a' w s f => ?_) k
  obtain ⟨hnd, es, hb, h1, h2, h3⟩ := s.ok _ (List.mem_of_getElem? hi)
  obtain ⟨es', hr, k1, k2, k3⟩ := upd_run KT ht he hb h1 h2 a v (a'.eval z)
  subst hv
  have hrz := f.evl hz
  have hkeep : ∀ x, x < w.heap.size → ¬ av E Γ x → ({ w with heap := w.heap.setIfInBounds b (.map es' es'.size) } : World).heap[x]? = w.heap[x]? := fun x _ hn => (heapSet hb).2 x fun e => hn (.inr (fpA_mem hi e))
  have hA : ∀ x, x < w.heap.size → av E (Γ.set i (mapR b fk fv (mset a v m))) x → av E Γ x := by
    rintro x _ (h | ⟨r, hrm, hx⟩)
    · exact .inl h
    · obtain ⟨j, hj⟩ := List.getElem?_of_mem hrm
      rcases set_get hi hj with ⟨_, rfl⟩ | ⟨_, hj⟩
      · exact .inr (fpA_mem hi hx)
      · exact .inr (fpA_mem hj hx)
  have hu := s.upd (w' := { w with heap := w.heap.setIfInBounds b (.map es' es'.size) }) hi (mapR b fk fv (mset a v m)) rfl rfl rfl (Nat.le_refl _) (by simp) (fun x _ hn => (heapSet hb).2 x fun e => hn e) (fun x h => .inl h)
    ⟨KT.nodup hnd a v, es', (heapSet hb).1, k1, k2, fun i e x h4 h5 => by
      rcases k3 i e x h4 h5 with ⟨e1, e2⟩ | ⟨e0, e1, e2, e3⟩
      · rw [e1, e2]; exact hrz.keep hkeep hA
      · rw [e2]; exact (h3 i e0 x e1 e3).keep hkeep hA⟩
  refine ⟨_, ?_, hu.1, hu.2⟩
  unfold execOp
  simp [ho, (f.evl hx).v_inv, kvD_ok (f.evl hy) hk, hr]
end
end Go.Proofs.Ytcdakcemcehfiaa
