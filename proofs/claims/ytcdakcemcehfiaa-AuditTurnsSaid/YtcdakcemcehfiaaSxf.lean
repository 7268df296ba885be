/- The walk library, part f: slices that are written out; slices of the walk's own that grow. -/
import Derived.Test.YtcdakcemcehfiaaSxe
import Derived.Laws.AppendOwnNone
namespace Go.Proofs.Ytcdakcemcehfiaa
open Go Go.RowKit

theorem foldl_zip (o : Nat) : ∀ (new cs : List Value) (j : Nat), o + j + new.length ≤ cs.length →
    (new.zipIdx j).foldl (fun (cs : Array Value) (x : Value × Nat) => cs.setIfInBounds (o + x.2) x.1) cs.toArray = (cs.take (o + j) ++ (new ++ cs.drop (o + j + new.length))).toArray
  | [], cs, j, _ => by simp
  | v :: new, cs, j, h => by
    have hlt : o + j < cs.length := by simp at h; omega
    simp only [List.zipIdx_cons, List.foldl_cons, List.setIfInBounds_toArray]
    rw [foldl_zip o new _ (j + 1) (by simp at h ⊢; omega)]
    congr 1
    have e1 : (cs.set (o + j) v).take (o + (j + 1)) = cs.take (o + j) ++ [v] := by
      rw [← Nat.add_assoc, List.take_succ_eq_append_getElem (by simpa using hlt), List.take_set_of_le (Nat.le_refl _)]
      simp
    rw [e1, List.append_assoc, List.singleton_append, List.cons_append, List.drop_set_of_lt (by omega)]
    congr 3
    simp; omega

def fillD (place : Nat → Option (Nat × Nat)) : List DV → List (Nat × DV) → Option (List DV)
  | ds, [] => some ds
  | ds, (i, d) :: rest => match place i with
    | none => none
    | some (off, size) => match cellsOf d with
      | none => none
      | some new => if Nat.beq new.length size && Nat.ble (off + new.length) ds.length then fillD place (spl ds off new) rest else none

theorem fill_ok {A : Nat → Prop} {w : World} (place : Nat → Option (Nat × Nat)) : ∀ (pv : List (Nat × Value)) (pd : List (Nat × DV)) (cs : List Value) (ds ds' : List DV), pv.length = pd.length →
    (∀ (i : Nat) (x : Nat × Value) (y : Nat × DV), pv[i]? = some x → pd[i]? = some y → x.1 = y.1 ∧ Rep A w x.2 y.2) → RepL A w cs ds → fillD place ds pd = some ds' →
    ∃ cs' : List Value, Instr.fill place cs.toArray pv = some cs'.toArray ∧ RepL A w cs' ds'
  | [], [], cs, ds, ds', _, _, hr, h => by
    simp only [fillD, Option.some.injEq] at h
    subst h
    exact ⟨cs, rfl, hr⟩
  | (i, v) :: pv, (i', d) :: pd, cs, ds, ds', hl, hp, hr, h => by
    obtain ⟨rfl, hv⟩ := hp 0 _ _ rfl rfl
    simp only [fillD] at h
    split at h
    · cases h
    · rename_i off size hpl
      split at h
      · cases h
      · rename_i new hn
        split at h
        · rename_i hc
          simp only [Bool.and_eq_true] at hc
          have hc1 := Nat.eq_of_beq_eq_true hc.1
          have hc2 := Nat.le_of_ble_eq_true hc.2
          obtain ⟨vs, hvs, hrv⟩ := cellsOf_ok hv hn
          have hle : off + vs.length ≤ cs.length := by rw [hrv.1, hr.1]; exact hc2
          obtain ⟨cs', h1, h2⟩ := fill_ok place pv pd (cs.take off ++ (vs ++ cs.drop (off + vs.length))) _ ds' (by simpa using hl) (fun j x y hx hy => hp (j + 1) x y (by simpa using hx) (by simpa using hy))
            (by rw [hrv.1]; exact (hr.take off).append (hrv.append (hr.drop _))) h
          refine ⟨cs', ?_, h2⟩
          simp only [Instr.fill, hpl, hvs, List.size_toArray]
          rw [if_neg (by simp; exact ⟨by rw [hrv.1]; exact hc1, hle⟩), ← h1]
          congr 1
          have := foldl_zip off vs cs 0 (by omega)
          simp only [Nat.add_zero] at this
          rw [← this, ← Array.foldl_toList]
          simp
        · cases h
  | [], _ :: _, _, _, _, hl, _, _, _ => by simp at hl
  | _ :: _, [], _, _, _, hl, _, _, _ => by simp at hl

/-- n places of k cells. -/
def chunk (k : Nat) : Nat → List DV → List (List DV)
  | 0, _ => []
  | n + 1, ds => ds.take k :: chunk k n (ds.drop k)

theorem chunk_len (k : Nat) : ∀ (n : Nat) (ds : List DV), (chunk k n ds).length = n
  | 0, _ => rfl
  | n + 1, ds => by simp [chunk, chunk_len k n]

theorem chunk_get (k : Nat) : ∀ (n : Nat) (ds : List DV) (i : Nat) (r : List DV), (chunk k n ds)[i]? = some r → r = (ds.drop (i * k)).take k
  | 0, ds, i, r, h => by simp [chunk] at h
  | n + 1, ds, 0, r, h => by simp [chunk] at h; simp [h]
  | n + 1, ds, i + 1, r, h => by
    simp only [chunk, List.getElem?_cons_succ] at h
    rw [chunk_get k n _ i r h, List.drop_drop, Nat.add_mul, Nat.one_mul, Nat.add_comm k]

theorem chunk_mem_len (k : Nat) : ∀ (n : Nat) (ds : List DV), n * k ≤ ds.length → ∀ r ∈ chunk k n ds, r.length = k
  | 0, _, _, r, h => by simp [chunk] at h
  | n + 1, ds, hl, r, h => by
    rw [Nat.add_mul, Nat.one_mul] at hl
    rcases List.mem_cons.1 h with rfl | h
    · simp; omega
    · exact chunk_mem_len k n _ (by simp; omega) r h

theorem chunk_flatten (k : Nat) : ∀ (n : Nat) (ds : List DV), (chunk k n ds).flatten = ds.take (n * k)
  | 0, ds => by simp [chunk]
  | n + 1, ds => by
    simp only [chunk, List.flatten_cons, chunk_flatten k n]
    rw [Nat.add_mul, Nat.one_mul, Nat.add_comm, List.take_add]

/-- A block that reads as flat. -/
theorem rep_chunk {A : Nat → Prop} {w : World} {b T k n : Nat} {cs : List Value} {ds : List DV} (hb : w.heap[b]? = some (.cells cs.toArray T)) (hA : ¬ A b) (hr : RepL A w cs ds) (hl : ds.length = n * k) (hn : n ≤ maxLen) :
    Rep A w (.slice (some ⟨b, 0, none⟩) n n) (.sl k (chunk k n ds)) := by
  have hcl := chunk_len k n ds
  have key : ∀ (i : Nat) (r : List DV) (j : Nat) (d : DV), (chunk k n ds)[i]? = some r → r[j]? = some d → ds[i * k + j]? = some d := by
    intro i r j d h1 h2
    rw [chunk_get k n ds i r h1] at h2
    rw [List.getElem?_take] at h2
    split at h2
    · simpa using h2
    · cases h2
  have := Rep.sl (A := A) (w := w) b 0 n k (chunk k n ds) (fun _ _ _ _ _ _ => hA) (by omega) hn (chunk_mem_len k n ds (by omega)) (fun i j => (cs[i * k + j]?).getD undef)
    (fun i r j d h1 h2 => by
      obtain ⟨c, hc, _⟩ := hr.get (key i r j d h1 h2)
      simp [World.cell?, hb, hc])
    (fun i r j d h1 h2 => by
      obtain ⟨c, hc, hcd⟩ := hr.get (key i r j d h1 h2)
      simp [hc, hcd])
  rw [hcl] at this
  exact this

section
variable {C : Cx} {E : En} {K : Kn} {Γ : List Res} {Q : Exit → Act → World → Prop} {ops : Array Oper} {o : Oper} {rest : List Oper}

def evParts (G : List (Bool × Bool)) (K : Kn) : List (Nat × Operand) → Option (List (Nat × DV))
  | [] => some []
  | p :: l => match evG G K p.2, evParts G K l with | some d, some r => some ((p.1, d) :: r) | _, _ => none

theorem evParts_ok {N : Nat} {A : Nat → Prop} {w : World} {a : Act} (f : Fr N K A w a) {G : List (Bool × Bool)} (hT : allT G) {L : List Operand} (hc : gA G K L = gB G K L) : ∀ {l : List (Nat × Operand)} {r : List (Nat × DV)}, (∀ p ∈ l, p.2 ∈ L) → evParts G K l = some r →
    (l.map fun p => (p.1, a.eval p.2)).length = r.length ∧ ∀ (i : Nat) (x : Nat × Value) (y : Nat × DV), (l.map fun p => (p.1, a.eval p.2))[i]? = some x → r[i]? = some y → x.1 = y.1 ∧ Rep A w x.2 y.2
  | [], r, _, h => by
    simp only [evParts, Option.some.injEq] at h
    subst h
    exact ⟨rfl, fun i x y hx => by simp at hx⟩
  | p :: l, r, hm, h => by
    simp only [evParts] at h
    split at h
    · rename_i d r' h1 h2
      simp only [Option.some.injEq] at h
      subst h
      obtain ⟨i1, i2⟩ := evParts_ok f hT hc (fun q hq => hm q (List.mem_cons_of_mem _ hq)) h2
      refine ⟨by simp [← i1], fun i x y hx hy => ?_⟩
      cases i with
      | zero =>
        simp at hx hy
        subst hx hy
        exact ⟨rfl, evG_ok f hT hc (hm p (by simp)) h1⟩
      | succ i => exact i2 i x y (by simpa using hx) (by simpa using hy)
    · cases h

def zeros (n : Nat) (z : List Value) : List Value := (List.replicate n z).flatten

theorem zeros_range (n : Nat) (z : List Value) : ((Array.range (n * z.length)).map (z.toArray[· % z.toArray.size]!)) = (zeros n z).toArray := by
  apply Array.ext'
  simp only [Array.toList_map, Array.toList_range, List.size_toArray]
  unfold zeros
  induction n with
  | zero => simp
  | succ n ih =>
    rw [List.replicate_succ', List.flatten_append, ← ih, Nat.add_mul, Nat.one_mul, List.range_add, List.map_append]
    congr 1
    simp only [List.flatten_cons, List.flatten_nil, List.append_nil, List.map_map]
    apply List.ext_getElem
    · simp
    · intro i h1 h2
      have h3 : i < z.length := by simpa using h2
      simp [Nat.mod_eq_of_lt h3, h3]

theorem free_new {w : World} (s : St E w Γ) (o : Obj) : St E (w.alloc o) Γ ∧ Mv E Γ w Γ (w.alloc o) :=
  Bel.fp s ⟨(Below.refl _ _).alloc (Nat.le_refl _) o, Nat.le_refl _⟩

theorem zs_len (n : Nat) (z : List Value) : (zeros n z).length = n * z.length := by
  unfold zeros
  induction n with
  | zero => simp
  | succ n ih => rw [List.replicate_succ, List.flatten_cons, List.length_append, ih, Nat.add_mul, Nat.one_mul, Nat.add_comm]

/-- A slice that is written out; from then on it is read alone. -/
theorem q_bsl {t n : Nat} {parts : Array (Nat × Operand)} {pd : List (Nat × DV)} {e e2 : TyE} {elem : TypeId} {ds : List DV} {G : List (Bool × Bool)} (ho : o.op = .buildSlice t n parts) (hg : gpo ops K o.guard = some G)
    (ht : lkT C.T t = some e) (he : e.u = .slice elem) (ht2 : lkT C.T elem = some e2) (h1 : ones e2.zero = true) (hp : evParts G K parts.toList = some pd)
    (hc : gA G K (parts.toList.map (·.2)) = gB G K (parts.toList.map (·.2))) (hsm : (Nat.ble (n * e2.size) 16777216 && Nat.ble 1 e2.size) = true)
    (hf : fillD (fun i => some (i * e2.size, e2.size)) ((zeros n e2.zero).map zD) pd = some ds) (hl : Nat.beq ds.length (n * e2.size) = true) : Qv C E ops K Γ o (wrapG G (.sl e2.size (chunk e2.size n ds))) := by
  refine qv_val hg (fun a w hT s f => ?_)
  simp only [Bool.and_eq_true] at hsm
  have hsm1 := Nat.le_of_ble_eq_true hsm.1
  have hsm2 := Nat.le_of_ble_eq_true hsm.2
  have hT2 := C.get ht2
  obtain ⟨q1, q2⟩ := evParts_ok f hT hc (fun p hp => List.mem_map.2 ⟨p, hp, rfl⟩) hp
  obtain ⟨cs, h3, h4⟩ := fill_ok (A := av E Γ) (w := w) (fun i => some (i * e2.size, e2.size)) _ pd (zeros n e2.zero) _ ds q1 q2 (zs_ok _ _ _) hf
  have hn : n ≤ maxLen := by
    have : n * 1 ≤ n * e2.size := Nat.mul_le_mul_left _ hsm2
    unfold maxLen; omega
  obtain ⟨s', m'⟩ := free_new s (.cells cs.toArray elem)
  refine ⟨.slice (some ⟨w.heap.size, 0, none⟩) n n, w.alloc (.cells cs.toArray elem), ?_, s', m', ?_⟩
  · have hlen : n * e2.size = n * e2.zero.length := by rw [hT2.n]
    unfold execOp
    simp only [ho, Instr.buildSlice, Sem.run_bind, (C.get ht).run_under, he, Result.andThen_ok, hT2.run_size]
    rw [if_neg (by omega)]
    by_cases h0 : n * e2.size = 0
    · have hz0 : zeros n e2.zero = [] := List.eq_nil_of_length_eq_zero (by rw [zs_len, ← hlen, h0])
      rw [hz0] at h3
      have hr0 : (Array.map (fun x => (#[] : Array Value)[x % (#[] : Array Value).size]!) (Array.range 0)) = #[] := by simp
      simp only [h0, if_true, Sem.run_pure, Result.andThen_ok, Sem.run_bind, Array.toList_map]
      rw [hr0, show (#[] : Array Value) = ([] : List Value).toArray from rfl, h3]
      simp only [newRow, Sem.run_bind, run_newObj, Result.andThen_ok, Sem.run_pure]
      rfl
    · simp only [h0, if_false, Sem.run_pure, Result.andThen_ok, Sem.run_bind, hT2.run_zero, hT2.z_cells (ones_mem h1), Array.toList_map]
      rw [hlen, zeros_range, h3]
      simp only [newRow, Sem.run_bind, run_newObj, Result.andThen_ok, Sem.run_pure]
      rfl
  · exact rep_chunk (alloc_new _ _) (fun h => by have := s.av_lt _ h; omega) (h4.keep (fun b hb _ => Below.heap_alloc w _ b hb) fun _ _ h => h) (Nat.eq_of_beq_eq_true hl) hn

/-! ### rows of the walk's own -/
theorem os_of {A : Nat → Prop} {w : World} {b e k n : Nat} {v : Value} {xs : List Value} (h : w.ownsRow b e k v n xs) : Rep A w v (.os v) := by
  rcases h.2 with ⟨rfl, _⟩ | ⟨g, cap, cur, rfl, _⟩
  · exact .os _ _ _
  · exact .os _ _ _

theorem ownsRow_keep {w w' : World} {b e k n : Nat} {v : Value} {xs : List Value} (h : w.ownsRow b e k v n xs) (hw : ∀ x, v.ownBlock = some x → w'.heap[x]? = w.heap[x]?) : w'.ownsRow b e k v n xs := by
  obtain ⟨h1, h2⟩ := h
  refine ⟨h1, ?_⟩
  rcases h2 with h2 | ⟨g, cap, cur, rfl, h3, h4, h5⟩
  · exact .inl h2
  · exact .inr ⟨g, cap, cur, rfl, h3, (hw g rfl).trans h4, h5⟩

theorem ownsRow_lt {w : World} {b e k n : Nat} {v : Value} {xs : List Value} (h : w.ownsRow b e k v n xs) {x : Nat} (hx : v.ownBlock = some x) : x < w.heap.size := by
  rcases h.2 with ⟨rfl, _⟩ | ⟨g, cap, cur, rfl, _, h4, _⟩
  · simp [Value.ownBlock] at hx
  · simp only [Value.ownBlock, Option.some.injEq] at hx
    subst hx
    exact lt_of_heap h4

/-- v is a slice of the walk's own, of elements of type T, k cells each: these rows. -/
def rowR (v : Value) (T : TypeId) (k : Nat) (rows : List (List DV)) : Res where
  fp x := v.ownBlock = some x
  ok A w := (∀ r ∈ rows, r.length = k) ∧ ∃ us : List Value, w.ownsRow 0 T k v rows.length us ∧ RepL A w us rows.flatten
  lt := fun ⟨_, us, h, _⟩ hx => ownsRow_lt h hx
  keep := by
    rintro A A' w w' ⟨h0, us, h, hr⟩ hw hA
    exact ⟨h0, us, ownsRow_keep h (fun x hx => hw x (ownsRow_lt h hx) (.inl hx)), hr.keep (fun x hx hn => hw x hx (.inr hn)) hA⟩

theorem flat_len {k : Nat} : ∀ {rows : List (List DV)}, (∀ r ∈ rows, r.length = k) → rows.flatten.length = rows.length * k
  | [], _ => by simp
  | r :: rows, h => by
    rw [List.flatten_cons, List.length_append, flat_len (fun x hx => h x (List.mem_cons_of_mem _ hx)), h r (by simp), List.length_cons, Nat.add_mul, Nat.one_mul, Nat.add_comm]

theorem flat_get {k : Nat} (hk : 0 < k) : ∀ {rows : List (List DV)}, (∀ r ∈ rows, r.length = k) → ∀ (p : Nat) (d : DV), rows.flatten[p]? = some d → ∃ r, rows[p / k]? = some r ∧ r[p % k]? = some d
  | [], _, p, d, h => by simp at h
  | r :: rows, hr, p, d, h => by
    have hl : r.length = k := hr r (by simp)
    rw [List.flatten_cons] at h
    by_cases hp : p < k
    · rw [List.getElem?_append_left (by omega)] at h
      exact ⟨r, by simp [Nat.div_eq_of_lt hp], by rw [Nat.mod_eq_of_lt hp]; exact h⟩
    · rw [List.getElem?_append_right (by omega), hl] at h
      obtain ⟨r', h1, h2⟩ := flat_get hk (fun x hx => hr x (List.mem_cons_of_mem _ hx)) (p - k) d h
      refine ⟨r', ?_, ?_⟩
      · rw [Nat.div_eq_sub_div hk (by omega), List.getElem?_cons_succ]; exact h1
      · rw [Nat.mod_eq_sub_mod (by omega)]; exact h2

/-- 'append', as what is owned sees it. -/
theorem app_run {P : Program} {A : Nat → Prop} {w : World} {T t ty kk L : Nat} {v q : Value} {rows rows2 : List (List DV)} {e e2 : TyE} (hL : rows.length + rows2.length ≤ L) (hok : (rowR v T kk rows).ok A w) (hyr : Rep A w q (.sl kk rows2))
    (hT : TyOk P t e) (he : e.u = .slice T) (hT2 : TyOk P T e2) (hk : Nat.beq e2.size kk = true) (h1 : (ones e2.zero && Nat.ble 1 kk) = true) (hb : (Nat.ble (L * e2.bytes) 140737488355328 && Nat.ble L 9223372036854775807) = true)
    (h2 : ∀ r ∈ rows2, ∀ d ∈ r, one1 d = true) : (∀ r ∈ rows ++ rows2, r.length = kk) ∧ ∃ v' w', (Builtin.append_ #[t, t] ty #[v, q]).run P w = .ok v' w' ∧ (∃ us', w'.ownsRow 0 T kk v' (rows ++ rows2).length us' ∧ RepL A w us' (rows ++ rows2).flatten) ∧ w'.os = w.os ∧ w'.tape = w.tape ∧ w'.output = w.output ∧ w.heap.size ≤ w'.heap.size ∧
      (∀ b, b < w.heap.size → ¬ v.ownBlock = some b → w'.heap[b]? = w.heap[b]?) ∧ (∀ b, v'.ownBlock = some b → v.ownBlock = some b ∨ w.heap.size ≤ b) := by
  have hk' : e2.size = kk := Nat.eq_of_beq_eq_true hk
  simp only [Bool.and_eq_true] at h1 hb
  have hpos := Nat.le_of_ble_eq_true h1.2
  have hb1 := Nat.le_of_ble_eq_true hb.1
  have hb2 := Nat.le_of_ble_eq_true hb.2
  have hbound : (rows.length + rows2.length) * e2.bytes ≤ 140737488355328 := Nat.le_trans (Nat.mul_le_mul_right _ hL) hb1
  obtain ⟨ii, hi1, hi2, hi3, hi4⟩ := hT2.info
  obtain ⟨h0, us, hown, hr⟩ := hok
  have hlen2 : ∀ r ∈ rows2, r.length = kk := by
    cases hyr with
    | slnil => simp
    | slz => simp
    | sl _ _ _ _ _ _ _ _ hk2 => exact hk2
  refine ⟨fun r hr => by
    rcases List.mem_append.1 hr with h | h
    · exact h0 r h
    · exact hlen2 r h, ?_⟩
  cases hyr with
  | slnil =>
    refine ⟨v, w, ?_, ⟨us, by simpa using hown, by simpa using hr⟩, rfl, rfl, rfl, Nat.le_refl _, fun _ _ _ => rfl, fun b h => .inl h⟩
    rcases hown.2 with ⟨rfl, _⟩ | ⟨g, cap, cur, rfl, _, hgh, hnc, hcm, hcs, htk⟩
    · simp [Builtin.append_, underlying, hT.u, he, sizeOf, typeInfo, hi1, Builtin.lenOf, Builtin.firstCells]
    · have hle : rows.length + 0 ≤ cap := by omega
      simp [Builtin.append_, underlying, hT.u, he, sizeOf, typeInfo, hi1, Builtin.lenOf, Builtin.firstCells, hnc, storeCells]
  | slz za zk =>
    refine ⟨v, w, ?_, ⟨us, by simpa using hown, by simpa using hr⟩, rfl, rfl, rfl, Nat.le_refl _, fun _ _ _ => rfl, fun b h => .inl h⟩
    rcases hown.2 with ⟨rfl, _⟩ | ⟨g, cap, cur, rfl, _, hgh, hnc, hcm, hcs, htk⟩
    · simp [Builtin.append_, underlying, hT.u, he, sizeOf, typeInfo, hi1, Builtin.lenOf, Builtin.firstCells, loadCells, loadCellsFrom]
    · have hle : rows.length + 0 ≤ cap := by omega
      simp [Builtin.append_, underlying, hT.u, he, sizeOf, typeInfo, hi1, Builtin.lenOf, Builtin.firstCells, hnc, storeCells, loadCells, loadCellsFrom]
  | sl b off cap _ _ hA hc hm hk2 u hu hrr =>
    have hnews : ∃ news : List Value, news.length = rows2.length * kk ∧ (∀ (j : Nat) (x : Value), news[j]? = some x → w.cell? ((⟨b, off, none⟩ : Addr).add j) = some x) ∧ RepL A w news rows2.flatten := by
      have hfl := flat_len hk2
      refine ⟨(List.range rows2.flatten.length).map fun p => u (p / kk) (p % kk), by simp [hfl], fun j x hj => ?_, by simp, fun j x d hj hd => ?_⟩
      · have hjl : j < rows2.flatten.length := by
          rcases Nat.lt_or_ge j rows2.flatten.length with h | h
          · exact h
          · rw [List.getElem?_eq_none (by simpa using h)] at hj; cases hj
        rw [List.getElem?_map, List.getElem?_range hjl] at hj
        simp only [Option.map_some, Option.some.injEq] at hj
        subst hj
        obtain ⟨r, hr1, hr2⟩ := flat_get hpos hk2 j _ (List.getElem?_eq_getElem hjl)
        have := hu _ _ _ _ hr1 hr2
        rw [Nat.div_add_mod'] at this
        rw [add_none]
        exact this
      · have hjl : j < rows2.flatten.length := by
          rcases Nat.lt_or_ge j rows2.flatten.length with h | h
          · exact h
          · rw [List.getElem?_eq_none h] at hd; cases hd
        rw [List.getElem?_map, List.getElem?_range hjl] at hj
        simp only [Option.map_some, Option.some.injEq] at hj
        subst hj
        obtain ⟨r, hr1, hr2⟩ := flat_get hpos hk2 j _ hd
        exact hrr _ _ _ _ hr1 hr2
    obtain ⟨news, hn1, hn2, hn3⟩ := hnews
    have hone : ∀ x ∈ news, x.oneCell' = true := by
      intro x hx
      obtain ⟨j, hj⟩ := List.getElem?_of_mem hx
      have hjl : j < rows2.flatten.length := by
        rcases Nat.lt_or_ge j rows2.flatten.length with h | h
        · exact h
        · rw [List.getElem?_eq_none (by rw [hn3.1]; exact h)] at hj; cases hj
      have hm := List.getElem_mem hjl
      obtain ⟨r, hr1, hr2⟩ := List.mem_flatten.1 hm
      exact one1_ok (hn3.2 j x _ hj (List.getElem?_eq_getElem hjl)) (h2 r hr1 _ hr2)
    have hzc : e2.z.cells.size = kk := by rw [hT2.z_cells (ones_mem h1.1)]; simp; rw [hT2.n, hk']
    have h63 : rows.length + rows2.length ≤ maxLen := by unfold maxLen; omega
    obtain ⟨v', w', hrun, hown', hgr, _⟩ := run_append_own (P := P) w 0 t ty T ii e2.z kk e2.bytes (by rw [hT.u, he]) hi1 hi4 (by rw [hi2, hk']) hi3 hzc hpos
      v rows.length us hown ⟨b, off, none⟩ rows2.length cap news hn1 hn2 hone h63 hbound (Nat.zero_le _)
    refine ⟨v', w', hrun, ⟨_, by rw [List.length_append]; exact hown', ?_⟩, hgr.os, hgr.tape, hgr.output, hgr.size, fun b hb hne => hgr.block b hb fun e => hne e.symm, ?_⟩
    · rw [List.flatten_append]; exact hr.append hn3
    · intro x hxb
      rcases hown.2 with ⟨rfl, h00⟩ | ⟨g, cap', cur, rfl, _, hgh, hnc, hcm, hcs, htk⟩
      · have hus : us = [] := List.eq_nil_of_length_eq_zero (by have := hown.1; rw [h00] at this; simpa using this)
        subst hus
        rw [h00] at h63 hbound
        obtain ⟨v2, w2, hrun2, hown2, _, _⟩ := run_append_own (P := P) w w.heap.size t ty T ii e2.z kk e2.bytes (by rw [hT.u, he]) hi1 hi4 (by rw [hi2, hk']) hi3 hzc hpos
          (.slice none 0 0) 0 [] (World.ownsRow_nil w _ _ _) ⟨b, off, none⟩ rows2.length cap news hn1 hn2 hone h63 hbound (Nat.le_refl _)
        rw [hrun] at hrun2
        cases hrun2
        exact .inr (hown2.lt x hxb).1
      · by_cases hroom : rows.length + rows2.length ≤ cap'
        · have hr2 := run_append_room (P := P) (w := w) t ty T ii (by rw [hT.u, he]) hi1 g rows.length cap' cur hgh ⟨b, off, none⟩ rows2.length cap news (by rw [hn1, hi2, hk']) hn2 hone hroom
            (by rw [hi2, hk', hn1, hcs, ← Nat.add_mul]; exact Nat.mul_le_mul_right _ hroom)
          rw [hrun] at hr2
          cases hr2
          exact .inl hxb
        · have hholds : ∀ (j : Nat) (y : Value), us[j]? = some y → w.cell? ((⟨g, 0, none⟩ : Addr).add j) = some y := hown.cells (g := g) rfl
          have hr2 := run_append_grow (P := P) (w := w) t ty T ii e2.z (by rw [hT.u, he]) hi1 hi4 ⟨g, 0, none⟩ rows.length cap' us (by rw [hown.1, hi2, hk']) hholds ⟨b, off, none⟩ rows2.length cap news (by rw [hn1, hi2, hk']) hn2
            (by omega) (by omega) (by rw [hi3]; exact growslice_fits (by omega) hbound)
          rw [hrun] at hr2
          cases hr2
          simp only [Value.ownBlock, Option.some.injEq] at hxb
          exact .inr (by omega)

/-- 'append(own, read...)'. -/
theorem o_app (i : Nat) {T t kk L : Nat} {x y : Operand} {ats : Array TypeId} {v : Value} {rows rows2 : List (List DV)} {e e2 : TyE} {sl : Nat} (hL : rows.length + rows2.length ≤ L) (ho : o.op = .call { callee := .builtin .append, args := #[x, y], argTypes := ats }) (hg : o.guard = none) (hsl : o.dst = some sl) (hN : Nat.blt sl E.N = true)
    (ha : ats = #[t, t]) (hx : ev K x = some (.os v)) (hy : ev K y = some (.sl kk rows2)) (hi : Γ[i]? = some (rowR v T kk rows))
    (ht : lkT C.T t = some e) (he : e.u = .slice T) (ht2 : lkT C.T T = some e2) (hk : Nat.beq e2.size kk = true) (h1 : (ones e2.zero && Nat.ble 1 kk) = true) (hb : (Nat.ble (L * e2.bytes) 140737488355328 && Nat.ble L 9223372036854775807) = true)
    (h2 : ∀ r ∈ rows2, ∀ d ∈ r, one1 d = true)
    (k : ∀ v', SO C E ops rest ((sl, .os v') :: K) (Γ.set i (rowR v' T kk (rows ++ rows2))) Q) : SO C E ops (o :: rest) K Γ Q := by
  have hs : dstOk E.N o.dst = true := by rw [hsl]; exact hN
  have k : ∀ v', SO C E ops rest (putK o.dst (.os v') K) (Γ.set i (rowR v' T kk (rows ++ rows2))) Q := by rw [hsl]; exact k
  intro a w s f
  have hv : a.eval x = v := by have := f.evl hx; generalize a.eval x = q at this; cases this; rfl
  obtain ⟨hlen, v', w', hrun, ⟨us', hown', hr'⟩, e1, e2', e3, e4, e5, e6⟩ := app_run (ty := o.type) hL (s.ok _ (List.mem_of_getElem? hi)) (f.evl hy) (C.get ht) he (C.get ht2) hk h1 hb h2
  have hA : ∀ b, b < w.heap.size → av E (Γ.set i (rowR v' T kk (rows ++ rows2))) b → av E Γ b := by
    rintro b hb (h | ⟨r, hrm, hx⟩)
    · exact .inl h
    · obtain ⟨j, hj⟩ := List.getElem?_of_mem hrm
      rcases set_get hi hj with ⟨_, rfl⟩ | ⟨_, hj⟩
      · rcases e6 b hx with h | h
        · exact .inr (fpA_mem hi h)
        · omega
      · exact .inr (fpA_mem hj hx)
  have hu := s.upd hi (rowR v' T kk (rows ++ rows2)) e1 e2' e3 (sem_drawn _ hrun) e4 (fun b hb hn => e5 b hb hn) (fun b h => e6 b h)
    ⟨hlen, us', hown', hr'.keep (fun b hb hn => e5 b hb fun h => hn (.inr (fpA_mem hi h))) hA⟩
  refine wpList_plain hg fun Kc hK => ?_
  have hex : (execOp a.eval o).run C.P w = .ok (.value v') w' := by
    subst ha
    unfold execOp
    simp only [ho, resolve, invoke, builtin, Sem.run_bind, Sem.run_pure, Result.andThen_ok, List.map_toArray, List.map_cons, List.map_nil, hv, hrun]
  unfold Oper.wp
  rw [hex]
  exact hK _ _ (k v' _ _ hu.1 ((f.mv hu.2).put hs (os_of hown')))
end
end Go.Proofs.Ytcdakcemcehfiaa
