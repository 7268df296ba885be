/- spin: contracts, second part: what turn makes, in plain words; its rows. -/
import Derived.Test.YtcdakcemcehfiaaTra
import Derived.Test.YtcdakcemcehfiaaSxr
import Derived.Test.YtcdakcemcehfiaaSortH
namespace Go.Proofs.Ytcdakcemcehfiaa
open Go
set_option maxRecDepth 100000

abbrev Rw := Value × List Hlf
def nilV : Value := .slice none 0 0
/-- The row of an entry. -/
def rho (x : Int × Rw) : Res := rowR x.2.1 40 2 (x.2.2.map rH)
def starL (key : Int) (m : List (Int × Rw)) : List Res := match ixK key m with | some _ => m.map rho | none => m.map rho ++ [rowR nilV 40 2 []]
def starP (key : Int) (m : List (Int × Rw)) : Nat := (ixK key m).getD m.length
def rwOf (key : Int) (m : List (Int × Rw)) : Rw := (mget key m).getD (nilV, [])
theorem starL_get (key : Int) (m : List (Int × Rw)) : (starL key m)[starP key m]? = some (rowR (rwOf key m).1 40 2 ((rwOf key m).2.map rH)) := by
  unfold starL starP rwOf
  cases h : ixK key m with
  | none => simp [(ixK_none h).2]
  | some j =>
    obtain ⟨_, v, h2, h3⟩ := ixK_some h
    simp [h2, h3, rho]
theorem starL_set (key : Int) (m : List (Int × Rw)) (x : Rw) : (starL key m).set (starP key m) (rowR x.1 40 2 (x.2.map rH)) = (mset key x m).map rho := by
  unfold starL starP
  cases h : ixK key m with
  | none => simp [(ixK_none h).1, rho]
  | some j =>
    obtain ⟨h1, v, h2, h3⟩ := ixK_some h
    simp [h1, rho, List.map_set]
theorem starL_ok (key : Int) (m : List (Int × Rw)) (A : Nat → Prop) (w : World) (h : (starR (m.map rho)).ok A w) : (starR (starL key m)).ok A w := by
  unfold starL
  cases ixK key m with
  | none => exact star_nil A w h
  | some j => exact h
theorem starL_fp (key : Int) (m : List (Int × Rw)) (b : Nat) (h : (starR (starL key m)).fp b) : (starR (m.map rho)).fp b := by
  unfold starL at h
  cases hk : ixK key m with
  | none => rw [hk] at h; exact star_nil_fp b h
  | some j => rw [hk] at h; exact h

/-- Without the slices. -/
def er (m : List (Int × Rw)) : List (Int × List Hlf) := m.map fun x => (x.1, x.2.2)
theorem er_mget (key : Int) : ∀ m : List (Int × Rw), mget key (er m) = (mget key m).map (·.2)
  | [] => rfl
  | x :: m => by
    have := er_mget key m
    simp only [er, List.map_cons, mget] at this ⊢
    by_cases h : key = x.1
    · simp [h]
    · simp [h, this]
theorem er_mset (key : Int) (x : Rw) : ∀ m : List (Int × Rw), er (mset key x m) = mset key x.2 (er m)
  | [] => rfl
  | y :: m => by
    have := er_mset key x m
    simp only [er, List.map_cons, mset] at this ⊢
    by_cases h : key = y.1
    · simp [h]
    · simp [h, this]

/-! ### what turn makes -/
def sAt (m : List (Int × Vtx)) (vs : List Vtx) : List (Int × Vtx) := vs.foldl (fun m v => mset v.1 v m) m
abbrev FO := List (Hlf × Int) × List (Int × List Hlf)
/-- What one half does to where halves begin, and to what leaves a vertex. -/
def sFr (fr : List (Hlf × Int)) (e : Edg) (b : Bool) : List (Hlf × Int) := if b then mset (e.1, b) e.2.2 (mset (e.1, b) e.2.1 fr) else mset (e.1, b) e.2.1 fr
def sKey (fr : List (Hlf × Int)) (e : Edg) (b : Bool) : Int := (mget (e.1, b) (sFr fr e b)).getD 0
def sOne (s : FO) (e : Edg) (b : Bool) : FO := (sFr s.1 e b, mset (sKey s.1 e b) ((mget (sKey s.1 e b) s.2).getD [] ++ [(e.1, b)]) s.2)
def sFO (s : FO) (es : List Edg) : FO := es.foldl (fun s e => sOne (sOne s e false) e true) s
def sLt (o : Pt) (at_ : List (Int × Vtx)) (fr : List (Hlf × Int)) (x y : Hlf) : Bool := decide (gAround o (sEnd at_ fr x) (sEnd at_ fr y) < 0)
def sSort (o : Pt) (at_ : List (Int × Vtx)) (fr : List (Hlf × Int)) (l : List Hlf) : List Hlf := l.mergeSort fun x y => !sLt o at_ fr y x
def sCen (at_ : List (Int × Vtx)) (id : Int) : Pt := ((mget id at_).getD (0, 0, 0)).2
/-- What follows: of a row that is sorted. -/
def sNxi (l : List Hlf) (i : Nat) : Hlf × Hlf := (sTwin (l.getD i (0, false)), l.getD ((i + l.length - 1) % l.length) (0, false))
def sNx (l : List Hlf) : List (Hlf × Hlf) := (List.range l.length).map (sNxi l)
def sRow (at_ : List (Int × Vtx)) (fr : List (Hlf × Int)) (x : Int × List Hlf) : List Hlf := sSort (sCen at_ x.1) at_ fr x.2
def sNext (p : Pln) : List (Hlf × Hlf) := (sFO ([], []) p.2).2.flatMap fun x => sNx (sRow (sAt [] p.1) (sFO ([], []) p.2).1 x)

/-- The rows that are left, when these places have been taken. -/
def stS (m : List (Int × Rw)) (seen : List Nat) : List Res := m.mapIdx fun i x => if i ∈ seen then unitR else rho x
theorem stS_nil (m : List (Int × Rw)) : stS m [] = m.map rho := by
  unfold stS
  apply List.ext_getElem?
  intro i
  simp
theorem stS_get {m : List (Int × Rw)} {seen : List Nat} {q : Nat} {x : Int × Rw} (hq : m[q]? = some x) (hn : q ∉ seen) : (stS m seen)[q]? = some (rho x) := by simp [stS, hq, hn]
theorem stS_set {m : List (Int × Rw)} {seen : List Nat} {q : Nat} (r : Res) : ((stS m seen).set q r).set q unitR = stS m (seen ++ [q]) := by
  unfold stS
  apply List.ext_getElem?
  intro i
  simp only [List.getElem?_set, List.getElem?_mapIdx, List.length_set, List.length_mapIdx]
  by_cases hi : q = i
  · subst hi
    simp only [if_true]
    split
    · rename_i h; simp [h]
    · rename_i h; simp [List.getElem?_eq_none (Nat.le_of_not_lt h)]
  · have hi' : ¬ i = q := fun e => hi e.symm
    simp only [hi, if_false]
    cases m[i]? with
    | none => rfl
    | some x => simp [hi']

/-- Rows of which no half stands twice: what follows, place by place. -/
def nxS (f : List Hlf → List Hlf) (g : Nat → List Hlf) (seen : List Nat) : List (Hlf × Hlf) := seen.flatMap fun i => sNx (f (g i))
theorem sTwin_inj {a b : Hlf} (h : sTwin a = sTwin b) : a = b := by
  obtain ⟨a1, a2⟩ := a
  obtain ⟨b1, b2⟩ := b
  simp only [sTwin, Prod.mk.injEq, Bool.not_inj_iff] at h
  rw [h.1, h.2]
theorem sNx_keys (l : List Hlf) : (sNx l).map (·.1) = l.map sTwin := by
  unfold sNx
  apply List.ext_getElem?
  intro i
  simp only [List.map_map, List.getElem?_map]
  rcases Nat.lt_or_ge i l.length with h | h
  · simp [h, sNxi, Function.comp]
  · simp [h]
theorem sNx_len (l : List Hlf) : (sNx l).length = l.length := by simp [sNx]
theorem sNx_take {l : List Hlf} {i : Nat} (h : i < l.length) : (sNx l).take (i + 1) = (sNx l).take i ++ [sNxi l i] := by
  rw [List.take_succ_eq_append_getElem (by rw [sNx_len]; exact h)]
  simp [sNx]
theorem range_flat {α β : Type} (g : α → List β) (d : α) (l : List α) : l.flatMap g = (List.range l.length).flatMap fun i => g (l.getD i d) := by
  have : l = (List.range l.length).map fun i => l.getD i d := by
    apply List.ext_getElem?
    intro i
    rcases Nat.lt_or_ge i l.length with h | h
    · simp [h]
    · simp [h]
  conv => lhs; rw [this]
  rw [List.flatMap_map]
theorem nodup_len : ∀ (n : Nat) (l : List Nat), l.Nodup → (∀ i ∈ l, i < n) → l.length ≤ n
  | 0, l, _, h => by
    cases l with
    | nil => exact Nat.le_refl _
    | cons x l => exact absurd (h x (by simp)) (by omega)
  | n + 1, l, hn, h => by
    by_cases hm : n ∈ l
    · have := nodup_len n (l.erase n) (hn.erase n) (fun i hi => by
        have h1 := (hn.mem_erase_iff.1 hi)
        have := h i h1.2
        have := h1.1
        omega)
      rw [List.length_erase_of_mem hm] at this
      omega
    · have := nodup_len n l hn (fun i hi => by
        have := h i hi
        have : i ≠ n := fun e => hm (e ▸ hi)
        omega)
      omega
/-- One more place's halves are new, and so is each of its own. -/
theorem nx_fresh {rows : List (List Hlf)} {srt : Nat → List Hlf} (hnd : rows.flatten.Nodup) (hperm : ∀ (i : Nat) (r : List Hlf), rows[i]? = some r → (srt i).Perm r) {seen : List Nat} (hs : ∀ i ∈ seen, i < rows.length) {q : Nat} (hq : q < rows.length) (hqs : q ∉ seen) {i : Nat} (hi : i < (srt q).length) :
    sTwin (srt q)[i] ∉ ((seen.flatMap fun j => sNx (srt j)) ++ (sNx (srt q)).take i).map (·.1) := by
  have hfl := (List.pairwise_flatten.1 hnd)
  have hrq : rows[q]? = some rows[q] := List.getElem?_eq_getElem hq
  have hpq := hperm q _ hrq
  rw [List.map_append, List.mem_append, not_or]
  constructor
  · intro h
    rw [List.map_flatMap, List.mem_flatMap] at h
    obtain ⟨j, hj, hm⟩ := h
    rw [sNx_keys] at hm
    obtain ⟨x, hx, he⟩ := List.mem_map.1 hm
    have he := sTwin_inj he
    subst he
    have hjl := hs j hj
    have hpj := hperm j _ (List.getElem?_eq_getElem hjl)
    have h1 : (srt q)[i] ∈ rows[j] := hpj.mem_iff.1 hx
    have h2 : (srt q)[i] ∈ rows[q] := hpq.mem_iff.1 (List.getElem_mem hi)
    have hne : j ≠ q := fun e => hqs (e ▸ hj)
    have hpw := List.pairwise_iff_getElem.1 hfl.2
    rcases Nat.lt_or_gt_of_ne hne with h | h
    · exact hpw j q hjl hq h _ h1 _ h2 rfl
    · exact hpw q j hq hjl h _ h2 _ h1 rfl
  · rw [List.map_take, sNx_keys]
    intro h
    rw [← List.map_take] at h
    obtain ⟨x, hx, he⟩ := List.mem_map.1 h
    have he := sTwin_inj he
    obtain ⟨n, hn⟩ := List.getElem?_of_mem hx
    rw [List.getElem?_take] at hn
    split at hn
    · rename_i hni
      have hnd2 : (srt q).Nodup := hpq.nodup_iff.2 (hfl.1 _ (List.getElem_mem hq))
      have h3 : (srt q)[n]? = (srt q)[i]? := by rw [hn, he, List.getElem?_eq_getElem hi]
      have := (List.getElem?_inj (by omega) hnd2).1 h3
      omega
    · cases hn

/-- What the sort asks of an order, on these. -/
structure OrdOn (lt : Hlf → Hlf → Bool) (l : List Hlf) : Prop where
  irr : ∀ x ∈ l, lt x x = false
  tra : ∀ x ∈ l, ∀ y ∈ l, ∀ z ∈ l, lt x y = true → lt y z = true → lt x z = true
  ntr : ∀ x ∈ l, ∀ y ∈ l, ∀ z ∈ l, lt x y = false → lt y z = false → lt x z = false
  tot : ∀ x ∈ l, ∀ y ∈ l, lt x y = false → lt y x = false → x = y

@[reducible] def encV (h : Hlf) : List Value := [.int .i64 h.1, .bool h.2]
theorem svals_flat : ∀ l : List Hlf, svals (l.map rH).flatten = some (l.map encV).flatten
  | [] => rfl
  | h :: l => by
    have := svals_flat l
    simp [svals, this]
theorem flat_enc : ∀ (l : List Hlf) (j : Nat), j < l.length * 2 → (l.map encV).flatten[j]? = some ((encV l[j / 2]!)[j % 2]!)
  | [], j, h => by simp at h
  | x :: l, 0, h => by simp
  | x :: l, 1, h => by simp
  | x :: l, j + 2, h => by
    have := flat_enc l j (by simp at h; omega)
    simp only [List.map_cons, List.flatten_cons, encV, List.cons_append, List.nil_append, List.getElem?_cons_succ]
    rw [this]
    congr 2
    · rw [show (j + 2) / 2 = j / 2 + 1 by omega]
      simp
    · omega
theorem enc_len : ∀ l : List Hlf, (l.map encV).flatten.length = l.length * 2
  | [] => rfl
  | h :: l => by simp [enc_len l]; omega
theorem repL_flat (A : Nat → Prop) (w : World) : ∀ l : List Hlf, RepL A w (l.map encV).flatten (l.map rH).flatten
  | [] => .nil
  | h :: l => by
    have := repL_flat A w l
    simp only [List.map_cons, List.flatten_cons, encV, rH, List.cons_append, List.nil_append]
    exact .cons (.v _) (.cons (.v _) this)
open Go.Shelf Go.RowKit Go.Lib Go.Sort in
theorem bel_grow {w w' : World} (h : Bel w w') : ∃ q os', w' = Go.Sort.grow (w.drewN q) os' := by
  refine ⟨w'.drawn - w.drawn, w'.heap.extract w.heap.size w'.heap.size, ?_⟩
  obtain ⟨⟨h1, h2, h3, h4, h5⟩, h6⟩ := h
  obtain ⟨hp, tp, dr, os, ou⟩ := w
  obtain ⟨hp', tp', dr', os', ou'⟩ := w'
  simp only at h1 h2 h3 h4 h5 h6
  subst h1 h2 h3
  simp only [Go.Sort.grow, World.drewN, World.mk.injEq, and_true, true_and]
  refine ⟨?_, by omega⟩
  apply Array.ext_getElem?
  intro i
  rcases Nat.lt_or_ge i hp.size with h | h
  · rw [Array.getElem?_append_left h, h5 i h]
  · rw [Array.getElem?_append_right h, Array.getElem?_extract]
    rcases Nat.lt_or_ge i hp'.size with h' | h'
    · rw [if_pos (by omega)]; congr 1; omega
    · rw [if_neg (by omega)]; simp [h']

open Go.Shelf Go.RowKit Go.Lib Go.Sort in
set_option maxHeartbeats 1000000 in
/-- The sort of a row, one of many, by turn's order. -/
theorem o_sort {E : En} {K : Kn} {Γ : List Res} {Q : Exit → Act → World → Prop} {ops : Array Oper} {ob : Oper} {rest : List Oper} (i p j1 j2 j3 j4 : Nat) {x y : Operand} {ats : Array TypeId} {v : Value} {L : List Res} {l : List Hlf} {o : Pt} {at_ : List (Int × Vtx)} {fr : List (Hlf × Int)} {bo bw ba bf sl : Nat} {u1 u2 : DV}
    (hp : L[p]? = some (rowR v 40 2 (l.map rH))) (hne : l ≠ []) (hln : l.length < 1000000000) (hO : OrdOn (sLt o at_ fr) l)
    (ho : ob.op = .call { callee := .value (.func 51), args := #[x, y], argTypes := ats }) (hg : ob.guard = none) (hsl : ob.dst = some sl) (hN : Nat.blt sl E.N = true)
    (hx : ev K x = some (.os v)) (hy : ev K y = some (.v (.func (.func 52) #[] #[.pointer (some ⟨bo, 0, none⟩), .pointer (some ⟨bw, 0, none⟩)])))
    (hi : Γ[i]? = some (starR L)) (h1 : Γ[j1]? = some (cellsR bo 50 (rPt o))) (h2 : Γ[j2]? = some (cellsR bw 104 [.v (.map (some ba)), .v (.map (some bf)), u1, u2]))
    (h3 : Γ[j3]? = some (mapR ba kI dV at_)) (h4 : Γ[j4]? = some (mapR bf kH DV.i fr)) (hu : (one1 u1 && one1 u2) = true) (hjs : (!Nat.beq j1 i && !Nat.beq j2 i && !Nat.beq j3 i && !Nat.beq j4 i) = true)
    (k : SO cx E ops rest ((sl, .tup []) :: K) (Γ.set i (starR (L.set p (rowR v 40 2 ((sSort o at_ fr l).map rH))))) Q) : SO cx E ops (ob :: rest) K Γ Q := by
  have hs : dstOk E.N ob.dst = true := by rw [hsl]; exact hN
  have k : SO cx E ops rest (putK ob.dst (.tup []) K) (Γ.set i (starR (L.set p (rowR v 40 2 ((sSort o at_ fr l).map rH))))) Q := by rw [hsl]; exact k
  have hnb : ∀ m n : Nat, (!Nat.beq m n) = true → m ≠ n := fun m n h e => by subst e; simp at h
  simp only [Bool.and_eq_true] at hjs hu
  have hj1 := hnb _ _ hjs.1.1.1
  have hj2 := hnb _ _ hjs.1.1.2
  have hj3 := hnb _ _ hjs.1.2
  have hj4 := hnb _ _ hjs.2
  intro a w s f
  have hst := s.ok _ (List.mem_of_getElem? hi)
  have hrowok := hst.1 _ (List.mem_of_getElem? hp)
  obtain ⟨hlen2, us, hown, hrep⟩ := hrowok
  have hvx : a.eval x = v := (f.evl hx).os_inv
  have hvy := (f.evl hy).v_inv
  have hus := svals_ok (svals_flat l) hrep
  subst hus
  have hl0 : 0 < l.length := List.length_pos_iff.2 hne
  rcases hown.2 with ⟨_, h0⟩ | ⟨g, cap, cur, hv, _, hb, hnc, hcm, hcs, htk⟩
  · simp at h0; exact absurd h0 hne
  rw [List.length_map] at hv hnc htk
  -- the elements
  let α := {h : Hlf // h ∈ l}
  letI : Inhabited α := ⟨⟨l.head hne, List.head_mem hne⟩⟩
  let enc : α → List Value := fun h => encV h.1
  let d : Array α := l.attach.toArray
  let cf : α → α → Int := fun h h' => gAround o (sEnd at_ fr h.1) (sEnd at_ fr h'.1)
  have hds : d.size = l.length := by show l.attach.toArray.size = _; rw [List.size_toArray, List.length_attach]
  have hgl := lt_of_heap hb
  have hdg : ∀ t, t < l.length → (d[t]!).1 = l[t]! := fun t ht => by
    rw [getElem!_pos d t (by omega), getElem!_pos l t ht]
    show (l.attach.toArray[t]'(by rw [List.size_toArray, List.length_attach]; exact ht)).1 = _
    rw [List.getElem_toArray, List.getElem_attach]
  have hH : HoldsK enc 2 w g 0 d := by
    intro j hj
    have hj2 : j < l.length * 2 := by simpa [hds] using hj
    have hj3 : j / 2 < l.length := by omega
    rw [get_flatK enc 2 d j (by omega)]
    have hcj : cur[j]? = some ((enc d[j / 2]!)[j % 2]!) := by
      have h1 := congrArg (·[j]?) htk
      simp only [List.getElem?_take, hj2, if_true, Array.getElem?_toList] at h1
      rw [h1, flat_enc l j hj2]
      show _ = some ((encV (d[j / 2]!).1)[j % 2]!)
      rw [hdg _ hj3]
    refine ⟨?_, ?_⟩
    · simp [World.cell?, hb, hcj]
    · simp [World.frozen?, hb]
  have hheap : ∀ (m : Nat) (os : Array Obj) (dk : Array α) (b : Nat), b < w.heap.size → b ≠ g → (sortWorldK enc 2 w g 0 m dk os).heap[b]? = w.heap[b]? := fun m os dk b hb hne => by
    show ((w.heap.modify g _) ++ os)[b]? = _
    rw [Array.getElem?_append_left (by simpa using hb), Array.getElem?_modify, if_neg (fun e => hne e.symm)]
  have hgav : av E Γ g := .inr (fpA_mem hi ⟨_, List.mem_of_getElem? hp, by rw [hv]; rfl⟩)
  have hkeep : ∀ (m : Nat) (os : Array Obj) (dk : Array α) (u : Value) (dd : DV), Rep (av E Γ) w u dd → Rep (fun _ => False) (sortWorldK enc 2 w g 0 m dk os) u dd := fun m os dk u dd h =>
    h.keep (fun b hb hn => hheap m os dk b hb fun e => hn (e ▸ hgav)) (fun _ _ h => h.elim)
  -- what is owned lies apart from the row
  have hap : ∀ (j : Nat) (r : Res) (b : Nat), j ≠ i → Γ[j]? = some r → r.fp b → b ≠ g := fun j r b hji hj hfb e => by
    subst e
    exact s.apart i j _ r (fun e => hji e.symm) hi hj b ⟨_, List.mem_of_getElem? hp, by rw [hv]; rfl⟩ hfb
  have hcmp : CmpLays Try.prog 52 #[.pointer (some ⟨bo, 0, none⟩), .pointer (some ⟨bw, 0, none⟩)] enc 2 cf g 0 d.size w := by
    intro m os dk _ hx' hy'
    have hW := hheap m os dk
    have hK := hkeep m os dk
    generalize hWe : sortWorldK enc 2 w g 0 m dk os = W at hW hK
    obtain ⟨cso, hbo, hro⟩ := s.ok _ (List.mem_of_getElem? h1)
    obtain ⟨csw, hbw, hrw⟩ := s.ok _ (List.mem_of_getElem? h2)
    obtain ⟨hnda, esa, hba, ka, _, ra⟩ := s.ok _ (List.mem_of_getElem? h3)
    obtain ⟨hndf, esf, hbf, kf, _, rf⟩ := s.ok _ (List.mem_of_getElem? h4)
    have e1 := hap j1 _ bo hj1 h1 rfl
    have e2 := hap j2 _ bw hj2 h2 rfl
    have e3 := hap j3 _ ba hj3 h3 rfl
    have e4 := hap j4 _ bf hj4 h4 rfl
    have hro' : RepL (fun _ => False) W cso (rPt o) := hro.keep (fun b hb hn => hW b hb fun e => hn (e ▸ hgav)) (fun _ _ h => h.elim)
    have hpo : Rep (fun _ => False) W (.pointer (some ⟨bo, 0, none⟩)) (.el 2 [rPt o] 0 0) :=
      cells_el (A := fun _ => False) (T := 50) (ds := rPt o) ⟨cso, (hW bo (lt_of_heap hbo) e1).trans hbo, hro'⟩ rfl (fun _ _ h => h) (fun h => h)
    have hmpa : Rep (fun _ => False) W (.map (some ba)) (mpD kI dV at_) :=
      Rep.mpD_mk (.refl _) hnda (fun h => h) ((hW ba (lt_of_heap hba) e3).trans hba) ka fun i e x h5 h6 => hK _ _ (ra i e x h5 h6)
    have hmpf : Rep (fun _ => False) W (.map (some bf)) (mpD kH DV.i fr) :=
      Rep.mpD_mk (.refl _) hndf (fun h => h) ((hW bf (lt_of_heap hbf) e4).trans hbf) kf fun i e x h5 h6 => hK _ _ (rf i e x h5 h6)
    obtain ⟨c1, csw, rfl, r1, hrw⟩ := hrw.cons_inv
    obtain ⟨c2, csw, rfl, r2, hrw⟩ := hrw.cons_inv
    obtain ⟨c3, csw, rfl, r3, hrw⟩ := hrw.cons_inv
    obtain ⟨c4, csw, rfl, r4, hrw⟩ := hrw.cons_inv
    have := hrw.nil_inv
    subst this
    have r1 := r1.v_inv
    have r2 := r2.v_inv
    subst r1 r2
    have hpw : Rep (fun _ => False) W (.pointer (some ⟨bw, 0, none⟩)) (.el 4 [[mpD kI dV at_, mpD kH DV.i fr, .un, .un]] 0 0) :=
      cells_el (A := fun _ => False) (T := 104) (ds := [mpD kI dV at_, mpD kH DV.i fr, .un, .un]) ⟨_, (hW bw (lt_of_heap hbw) e2).trans hbw, .cons hmpa (.cons hmpf (.cons (.un _ (one1_ok r3 hu.1)) (.cons (.un _ (one1_ok r4 hu.2)) .nil)))⟩ rfl (fun _ _ h => h) (fun h => h)
    have hag : ∀ h : Hlf, Rep (fun _ => False) W (.agg (encV h).toArray) (dH h) := fun h => by
      have := RepL.cons (.v (.int .i64 h.1)) (RepL.cons (.v (.bool h.2)) (RepL.nil (A := fun _ => False) (w := W)))
      exact .agg _ _ this.1 this.2
    have hc := turn1_ok o at_ fr hx'.1 hy'.1 (fun _ => False) W [.agg (encV hx'.1).toArray, .agg (encV hy'.1).toArray, .pointer (some ⟨bo, 0, none⟩), .pointer (some ⟨bw, 0, none⟩)] (fun _ h => h.elim) (.cons (hag _) (.cons (hag _) (.cons hpo (.cons hpw .nil))))
    refine Calls.mono hc ?_
    rintro e w' ⟨u, rfl, hbel, hu'⟩
    obtain ⟨q, os', hq⟩ := bel_grow hbel
    exact ⟨by rw [hu'.v_inv], q, os', hq⟩
  have hO' : SWO (ltOf cf) := ⟨fun x => hO.irr x.1 x.2, fun x y z => hO.tra x.1 x.2 y.1 y.2 z.1 z.2, fun x y z => hO.ntr x.1 x.2 y.1 y.2 z.1 z.2⟩
  have hcall := AnyQ.slices_SortFunc_total Try.sortH 2 Try.isAgg40 Try.sizeOf40 enc (fun _ => rfl) (fun x v hv => by
    simp only [enc, encV, List.mem_cons, List.not_mem_nil, or_false] at hv
    rcases hv with rfl | rfl <;> rfl) cf hO' 52 #[.pointer (some ⟨bo, 0, none⟩), .pointer (some ⟨bw, 0, none⟩)] g 0 cap d w Try.call52 hcmp hH hgl (by omega)
    (fun x y h1 h2 => Subtype.ext (hO.tot x.1 x.2 y.1 y.2 h1 h2))
  refine wpList_plain hg fun Kc hKc => ?_
  have hex : (execOp a.eval ob).run cx.P w = .ok (.enter 51 #[v, .func (.func 52) #[] #[.pointer (some ⟨bo, 0, none⟩), .pointer (some ⟨bw, 0, none⟩)]]) w := by
    unfold execOp
    have := Try.call51 #[v, .func (.func 52) #[] #[.pointer (some ⟨bo, 0, none⟩), .pointer (some ⟨bw, 0, none⟩)]] w
    have hfn : a.eval (.func 51) = .func (.func 51) #[] #[] := rfl
    simp only [ho, resolve, hfn, Deferred.ofValue, invoke, Sem.run_bind, Sem.run_pure, Result.andThen_ok, List.map_toArray, List.map_cons, List.map_nil, hvx, hvy, Array.empty_append, Array.append_empty]
    exact this
  unfold Oper.wp
  rw [hex]
  rw [hv, ← hds]
  refine Calls.mono hcall ?_
  rintro e w' ⟨rfl, n, os, rfl⟩
  have hsorted : (d.toList.mergeSort fun x y => !(ltOf cf) y x).map (·.1) = sSort o at_ fr l := by
    have h1 := List.map_mergeSort (r := fun x y : α => !(ltOf cf) y x) (s := fun x y => !sLt o at_ fr y x) (f := fun x : α => x.1) (l := d.toList) (fun a _ b _ => rfl)
    rw [h1]
    have h2 : d.toList.map (fun x : α => x.1) = l := by
      show l.attach.map Subtype.val = l
      exact List.attach_map_subtype_val l
    rw [h2]
    rfl
  generalize hsl2 : (d.toList.mergeSort fun x y => !(ltOf cf) y x) = sl2 at hsorted
  have hslen : sl2.length = l.length := by rw [← hsl2, (List.mergeSort_perm _ _).length_eq, Array.length_toList, hds]
  have hslen' : (sSort o at_ fr l).length = l.length := by rw [← hsorted, List.length_map, hslen]
  have hg' : (sortWorldK enc 2 w g 0 n sl2.toArray os).heap[g]? = some (.cells (Go.Sort.putCells id 0 (flatK enc 2 sl2.toArray) cur) 40 (0, 0)) := by
    show ((w.heap.modify g _) ++ os)[g]? = _
    rw [Array.getElem?_append_left (by simpa using hgl), Array.getElem?_modify, if_pos rfl, hb]
    rfl
  have hu := s.updS (w' := sortWorldK enc 2 w g 0 n sl2.toArray os) (r' := rowR v 40 2 ((sSort o at_ fr l).map rH)) hi hp rfl rfl rfl (Nat.le_add_right _ _) (size_sortWorldK_c enc 2 w g 0 n sl2.toArray os)
    (fun b hbl hn => hheap n os _ b hbl fun e => hn (by rw [e, hv]; rfl)) (fun b h => .inl h)
    ⟨fun r hr => by
      obtain ⟨x, _, rfl⟩ := List.mem_map.1 hr
      rfl, ((sSort o at_ fr l).map encV).flatten, ⟨by rw [enc_len, List.length_map], .inr ⟨g, cap, _, by rw [hv, List.length_map, hslen'], Nat.zero_le _, hg', by rw [List.length_map, hslen']; exact hnc, hcm, by simp [Go.Sort.putCells, hcs], by
      rw [List.length_map, hslen']
      apply List.ext_getElem?
      intro j
      rw [List.getElem?_take]
      split
      · rename_i hj
        have hj3 : j / 2 < l.length := by omega
        have hjc : j < cur.size := by have := Nat.mul_le_mul_right 2 hnc; omega
        rw [Array.getElem?_toList]
        simp only [Go.Sort.putCells, Array.getElem?_mapIdx, Array.getElem?_eq_getElem hjc, Option.map_some, Nat.sub_zero, Nat.zero_le, true_and, Nat.zero_add]
        rw [if_pos (by simp [hslen]; omega), flat_enc _ j (by rw [hslen']; exact hj)]
        congr 1
        rw [id, get_flatK enc 2 _ j (by simp [hslen]; omega)]
        show (encV (sl2.toArray[j / 2]!).1)[j % 2]! = _
        have h5 : (sl2.toArray[j / 2]!).1 = (sSort o at_ fr l)[j / 2]! := by
          rw [getElem!_pos sl2.toArray (j / 2) (by simp [hslen]; omega), getElem!_pos (sSort o at_ fr l) (j / 2) (by rw [hslen']; omega)]
          simp only [← hsorted]
          simp
        rw [h5]
      · rename_i hj
        rw [List.getElem?_eq_none]
        rw [enc_len, hslen']
        omega⟩⟩, repL_flat _ _ _⟩
  exact hKc _ _ (k _ _ hu.1 ((f.mv hu.2).put hs (.tup [] [] rfl (fun i c d h => by simp at h))))
end Go.Proofs.Ytcdakcemcehfiaa
