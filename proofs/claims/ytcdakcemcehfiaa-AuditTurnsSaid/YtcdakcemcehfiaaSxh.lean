/- The walk library, part h: a region whose order is drawn, walked once. -/
import Derived.Test.YtcdakcemcehfiaaSxg
namespace Go.Proofs.Ytcdakcemcehfiaa
open Go Go.RowKit

section
variable {C : Cx} {E : En} {K : Kn} {Γ : List Res} {Q : Exit → Act → World → Prop}

/-- Ahead of the tail: those that are done have left what is told. -/
def Pre (E : En) (l : List Oper) (S : List Sp) (K : Kn) (Γs : Nat → Value → List Res) (done : Nat → Bool) (a : Act) (w : World) : Prop :=
  ∃ (bs : Nat → Nat) (c : Value) (L : List Nat), L.Nodup ∧ (∀ j, j ∈ L ↔ done j = true ∧ isL S j = true) ∧ St E w (Γs (efs S done) c ++ L.map (alR bs S done)) ∧ a.defers = [] ∧ a.tmps.size = E.N ∧
    (∀ s d, lk K s = some d → ∃ v, a.tmps[s]? = some v ∧ Rep (av E (Γs (efs S done) c ++ L.map (alR bs S done))) w v d) ∧
    (∀ j s x o, done j = true → l[j]? = some o → o.dst = some s → S[j]? = some x → ∃ v, a.tmps[s]? = some v ∧ Rep (av E (Γs (efs S done) c ++ L.map (alR bs S done))) w v (spD bs c j x))

theorem pre_fr {l : List Oper} {S : List Sp} {done : Nat → Bool} {a : Act} {w : World} {bs : Nat → Nat} {c : Value} {A : Nat → Prop} (hd : a.defers = []) (hz : a.tmps.size = E.N)
    (hK : ∀ s d, lk K s = some d → ∃ v, a.tmps[s]? = some v ∧ Rep A w v d)
    (hS : ∀ j s x o, done j = true → l[j]? = some o → o.dst = some s → S[j]? = some x → ∃ v, a.tmps[s]? = some v ∧ Rep A w v (spD bs c j x)) (js : List Nat) (hj : ∀ j ∈ js, done j = true) :
    Fr E.N (kd l S bs c js ++ K) A w a := by
  refine ⟨hd, hz, fun s d h => ?_⟩
  rw [lk_append] at h
  cases hk : lk (kd l S bs c js) s with
  | none => rw [hk] at h; exact hK s d h
  | some d' =>
    rw [hk] at h
    simp at h
    subst h
    obtain ⟨j, hjs, o, x, ho, hds, hx, rfl⟩ := lk_kd hk
    exact hS j s x o (hj j hjs) ho hds hx

theorem isE_ef {S : List Sp} {i : Nat} {f : Value → DV} (h : S[i]? = some (.ef f)) : isE S i = true := by simp [isE, h]
theorem isE_q {S : List Sp} {i : Nat} {d : DV} (h : S[i]? = some (.q d)) : isE S i = false := by simp [isE, h]
theorem isE_al {S : List Sp} {i T : Nat} {ds : List DV} (h : S[i]? = some (.al T ds)) : isE S i = false := by simp [isE, h]
theorem isL_al {S : List Sp} {i T : Nat} {ds : List DV} (h : S[i]? = some (.al T ds)) : isL S i = true := by simp [isL, h]
theorem isL_q {S : List Sp} {i : Nat} {d : DV} (h : S[i]? = some (.q d)) : isL S i = false := by simp [isL, h]
theorem isE_sa {S : List Sp} {i j : Nat} {n : List DV} (h : S[i]? = some (.sa j n)) : isE S i = false := by simp [isE, h]
theorem isL_sa {S : List Sp} {i j : Nat} {n : List DV} (h : S[i]? = some (.sa j n)) : isL S i = false := by simp [isL, h]
theorem isL_ef {S : List Sp} {i : Nat} {f : Value → DV} (h : S[i]? = some (.ef f)) : isL S i = false := by simp [isL, h]

theorem efs_upd {S : List Sp} {done : Nat → Bool} {i : Nat} (hi : i < S.length) (hd : done i = false) : efs S (fun j => decide (j = i) || done j) = efs S done + (if isE S i then 1 else 0) :=
  countP_upd (n := S.length) hd List.nodup_range (List.mem_range.2 hi)

theorem put_ne {a : Act} {s : Nat} {dst : Option Nat} {v u : Value} (h : dst ≠ some s) (hu : a.tmps[s]? = some u) : (a.put dst v).tmps[s]? = some u := by
  cases dst with
  | none => exact hu
  | some t =>
    have : t ≠ s := fun e => h (by rw [e])
    simp [Act.put, this, hu]
theorem put_eq {a : Act} {s N : Nat} {v : Value} (hN : a.tmps.size = N) (hs : s < N) : (a.put (some s) v).tmps[s]? = some v := by
  simp [Act.put, hN, hs]
theorem put_size {a : Act} {dst : Option Nat} {v : Value} : (a.put dst v).tmps.size = a.tmps.size := by cases dst <;> simp [Act.put]
theorem put_defers {a : Act} {dst : Option Nat} {v : Value} : (a.put dst v).defers = a.defers := by cases dst <;> rfl

/-- One more is done: what it has left, and that all else stays. -/
theorem pre_next {l : List Oper} {S : List Sp} {Γs : Nat → Value → List Res} {done : Nat → Bool} {a : Act} {w w' : World} {bs bs' : Nat → Nat} {c c' : Value} {L L' : List Nat} {i : Nat} {o : Oper} {x : Sp} {v : Value}
    (hsl : slotsOk E.N K (dsts l S.length) = true) (hi : i < S.length) (ho : l[i]? = some o) (hx : S[i]? = some x) (hdn : done i = false) (hdone : ∀ j, S.length ≤ j → done j = false)
    (hd : a.defers = []) (hz : a.tmps.size = E.N)
    (hK : ∀ s d, lk K s = some d → ∃ v, a.tmps[s]? = some v ∧ Rep (av E (Γs (efs S done) c ++ L.map (alR bs S done))) w v d)
    (hS : ∀ j s x o, done j = true → l[j]? = some o → o.dst = some s → S[j]? = some x → ∃ v, a.tmps[s]? = some v ∧ Rep (av E (Γs (efs S done) c ++ L.map (alR bs S done))) w v (spD bs c j x))
    (hN' : L'.Nodup) (hL' : ∀ j, j ∈ L' ↔ (decide (j = i) || done j) = true ∧ isL S j = true) (s' : St E w' (Γs (efs S fun j => decide (j = i) || done j) c' ++ L'.map (alR bs' S fun j => decide (j = i) || done j)))
    (hm : Mv E (Γs (efs S done) c ++ L.map (alR bs S done)) w (Γs (efs S fun j => decide (j = i) || done j) c' ++ L'.map (alR bs' S fun j => decide (j = i) || done j)) w')
    (hsame : ∀ j x, done j = true → S[j]? = some x → spD bs' c' j x = spD bs c j x)
    (hv : Rep (av E (Γs (efs S fun j => decide (j = i) || done j) c' ++ L'.map (alR bs' S fun j => decide (j = i) || done j))) w' v (spD bs' c' i x)) :
    Pre E l S K Γs (fun j => decide (j = i) || done j) (a.put o.dst v) w' := by
  have hds := dsts_get hi ho
  refine ⟨bs', c', L', hN', hL', s', by rw [put_defers]; exact hd, by rw [put_size]; exact hz, fun s d h => ?_, fun j s y o' hj ho' hs hy => ?_⟩
  · obtain ⟨u, h1, h2⟩ := hK s d h
    refine ⟨u, put_ne (fun e => ?_) h1, hm _ _ h2⟩
    rw [e] at hds
    have := (slotsOk_lt hsl hds).2
    rw [h] at this
    cases this
  · by_cases hji : j = i
    · subst hji
      rw [ho] at ho'
      cases ho'
      rw [hx] at hy
      cases hy
      rw [hs] at hds ⊢
      exact ⟨v, put_eq hz (slotsOk_lt hsl hds).1, hv⟩
    · have hj' : done j = true := by simpa [hji] using hj
      obtain ⟨u, h1, h2⟩ := hS j s y o' hj' ho' hs hy
      have hjl : j < S.length := by
        rcases Nat.lt_or_ge j S.length with h | h
        · exact h
        · rw [hdone j h] at hj'; cases hj'
      have hds' := dsts_get hjl ho'
      rw [hs] at hds'
      refine ⟨u, put_ne (fun e => ?_) h1, by rw [hsame j y hj' hy]; exact hm _ _ h2⟩
      rw [e] at hds
      rcases Nat.lt_or_ge i j with h | h
      · exact slotsOk_ne hsl h hds hds' rfl
      · exact slotsOk_ne hsl (by omega) hds' hds rfl

theorem w_draw {id : Nat} {l : List Oper} (m : Nat) (S : List Sp) (Γs : Nat → Value → List Res) (hm : lenB S m = true) (hac : acyc l 0 = true) (htl : tailOk l m S = true) (hsl : slotsOk E.N K (dsts l m) = true)
    (hΓ : ∀ c, Γs 0 c = Γ) (hops : SpsOk C E l m S K Γs 0 l S)
    (k : ∀ bs c, SO C E l.toArray (l.drop m) (kd l S bs c (List.range m) ++ K) (Γs (efs S fun _ => true) c ++ ((List.range m).filter (isL S)).map (alR bs S fun _ => true)) Q) :
    SW C E (.region id l.toArray true) K Γ Q := by
  have hm := lenB_ok hm
  subst hm
  intro a w s f
  refine wp_region_draw fun t => ?_
  have hsched : Region.schedule (C.P.follows .mixedOrders) l.toArray t = Region.linearise .any l.toArray t := by simp [Region.schedule, C.mx]
  rw [hsched]
  have hlenS : S.length ≤ l.length := SpsOk_len hops
  simp only [tailOk, Bool.and_eq_true, List.all_eq_true, List.mem_range, Bool.or_eq_true] at htl
  obtain ⟨htl1, htl2⟩ := htl
  let J : (Nat → Bool) → Act → World → Prop := fun done a w => Down l done ∧ (((∀ i, S.length ≤ i → done i = false) ∧ Pre E l S K Γs done a w) ∨
    ∃ i, S.length ≤ i ∧ (∀ j, done j = decide (j < i)) ∧ wpList C.P l.toArray Q (l.drop i) a w)
  have hgl : ∀ i : Nat, (l.toArray)[i]? = l[i]? := fun i => by simp
  -- all ahead of the tail is done
  have full : ∀ done a w, Down l done → (∀ i, S.length ≤ i → done i = false) → (∀ i, i < S.length → done i = true) → Pre E l S K Γs done a w → wpList C.P l.toArray Q (l.drop S.length) a w := by
    rintro done a w hD hno hyes ⟨bs, c, L, hN, hL, hs, hd, hz, hK, hS⟩
    have hefs : efs S done = efs S fun _ => true := by
      unfold efs
      apply List.countP_congr
      intro j hj
      simp [hyes j (List.mem_range.1 hj)]
    rw [hefs, alR_all hyes] at hs hK hS
    have hperm : L.Perm ((List.range S.length).filter (isL S)) := by
      refine (List.perm_ext_iff_of_nodup hN (List.Pairwise.filter _ List.nodup_range)).2 fun j => ?_
      rw [hL, List.mem_filter, List.mem_range]
      constructor
      · rintro ⟨h1, h2⟩
        refine ⟨?_, h2⟩
        rcases Nat.lt_or_ge j S.length with h | h
        · exact h
        · rw [hno j h] at h1; cases h1
      · rintro ⟨h1, h2⟩
        exact ⟨hyes j h1, h2⟩
    obtain ⟨s', m'⟩ := hs.perm (List.Perm.append_left _ (hperm.map (alR bs S fun _ => true)))
    have hf := pre_fr hd hz hK hS (List.range S.length) (fun j hj => hyes j (List.mem_range.1 hj))
    exact k bs c a w s' (hf.mv m')
  refine Exists.elim (lin_any (P := C.P) (ops := l.toArray) (Q := Q) J
    (fun i o ho e he hbd => by rw [hgl] at ho; have := acyc_ok hac ho e he hbd; omega)
    (fun done i o a w ho hdn hdeps hJ Kc hKc => ?_)
    (fun done a w hall hJ => ?_)
    l.toArray.size t (Array.replicate l.toArray.size false) [] a { w with drawn := w.drawn + 1 } Array.size_replicate (by
      exact Nat.le_trans List.countP_le_length (by rw [List.length_range]; exact Nat.le_refl _)) ?_) (fun L0 h0 => ?_)
  · -- one step
    rw [hgl] at ho
    obtain ⟨hD, hJ⟩ := hJ
    have hD' : Down l fun j => decide (j = i) || done j := by
      intro j o' ho' hj e he hbd
      by_cases hji : j = i
      · subst hji
        rw [ho] at ho'
        cases ho'
        simp [hdeps e he hbd]
      · have : done j = true := by simpa [hji] using hj
        simp [hD j o' ho' this e he hbd]
    have hil : i < l.length := by
      rcases Nat.lt_or_ge i l.length with h | h
      · exact h
      · rw [List.getElem?_eq_none h] at ho; cases ho
    rcases hJ with ⟨hno, hP⟩ | ⟨n, hn, hdd, hw⟩
    · rcases Nat.lt_or_ge i S.length with hi | hi
      · -- ahead of the tail
        obtain ⟨bs, c, L, hN, hL, hs, hd, hz, hK, hS⟩ := hP
        have hx : S[i]? = some S[i] := List.getElem?_eq_getElem hi
        obtain ⟨o', ho', hok⟩ := SpsOk_get hops hx
        rw [ho] at ho'
        cases ho'
        rw [Nat.zero_add] at hok
        have hno' : ∀ j, S.length ≤ j → (decide (j = i) || done j) = false := fun j hj => by
          have : j ≠ i := by omega
          simp [this, hno j hj]
        have hmask : ∀ j ∈ (List.range S.length).filter (fun j => ((msks l []).getD i 0).testBit j), done j = true := fun j hj => mask_done hD ho hdeps (List.mem_filter.1 hj).2
        have hfr := pre_fr hd hz hK hS _ hmask
        generalize hSi : S[i] = x at hx hok
        cases x with
        | q d =>
          have hE := isE_q hx
          have hef : efs S (fun j => decide (j = i) || done j) = efs S done := by rw [efs_upd hi hdn, hE]; simp
          have hns : ∀ j n, S[i]? ≠ some (.sa j n) := fun j n h => by rw [hx] at h; cases h
          have hal := fun (bs : Nat → Nat) (L : List Nat) => alR_updL (bs := bs) (L := L) (done := done) hns
          have hL' : ∀ j, j ∈ L ↔ (decide (j = i) || done j) = true ∧ isL S j = true := fun j => by
            rw [hL]
            by_cases hji : j = i
            · subst hji; simp [hdn, isL_q hx]
            · simp [hji]
          obtain ⟨G, d0, hg, hdeq, hq⟩ := hok bs c (efs S done) (L.map (alR bs S done))
          have hfin : ∀ v w', St E w' (Γs (efs S done) c ++ L.map (alR bs S done)) → Mv E (Γs (efs S done) c ++ L.map (alR bs S done)) w (Γs (efs S done) c ++ L.map (alR bs S done)) w' → Rep (av E (Γs (efs S done) c ++ L.map (alR bs S done))) w' v d →
              Kc (a.put o.dst v) w' := fun v w' s' m' hv =>
            hKc _ _ ⟨hD', .inl ⟨hno', pre_next (bs := bs) (bs' := bs) (c := c) (c' := c) (L := L) (L' := L) (x := .q d) hsl hi ho hx hdn hno hd hz hK hS hN hL' (by rw [hef, hal]; exact s') (by rw [hef, hal]; exact m') (fun _ _ _ _ => rfl) (by rw [hef, hal]; exact hv)⟩⟩
          unfold stepP
          rcases want_tf hg hfr with ⟨hT, hw⟩ | ⟨hT, hw⟩
          · rw [if_pos hw]
            exact .inl (hq a w hT hs hfr Kc Q fun v w' s' m' hv => hfin v w' s' m' (by rw [hdeq]; exact wrapG_t hT hv))
          · rw [hw, if_neg (by simp)]
            exact hfin undef w hs (Mv.refl _ _ _) (by rw [hdeq]; exact wrapG_f hT)
        | al T ds =>
          obtain ⟨hg, e, hop, ht, h1, hdse⟩ := hok
          have hE := isE_al hx
          have hef : efs S (fun j => decide (j = i) || done j) = efs S done := by rw [efs_upd hi hdn, hE]; simp
          have hns : ∀ j n, S[i]? ≠ some (.sa j n) := fun j n h => by rw [hx] at h; cases h
          have hal := fun (bs : Nat → Nat) (L : List Nat) => alR_updL (bs := bs) (L := L) (done := done) hns
          have hiL : i ∉ L := fun h => by have := ((hL i).1 h).1; rw [hdn] at this; cases this
          have hT := C.get ht
          let bs' : Nat → Nat := fun j => if j = i then w.heap.size else bs j
          have hmap : L.map (alR bs' S done) = L.map (alR bs S done) := by
            apply List.map_congr_left
            intro j hj
            have : j ≠ i := fun e => hiL (e ▸ hj)
            unfold alR
            cases S[j]? with
            | none => rfl
            | some y => cases y <;> simp [bs', this]
          have hnew : alR bs' S done i = cellsR w.heap.size T ds := by
            have hst : stD S done i ds = ds := by
              unfold stD
              cases hsa : saAt S 0 i with
              | none => rfl
              | some kn =>
                obtain ⟨k, n⟩ := kn
                have hk := (saAt_get hsa).2
                rw [Nat.sub_zero] at hk
                have hdk : done k = false := by
                  cases hdk : done k with
                  | false => rfl
                  | true =>
                    exfalso
                    obtain ⟨o2, ho2, hok2⟩ := SpsOk_get hops hk
                    rw [Nat.zero_add] at hok2
                    have hmm := hok2.2.2.2.1
                    have := mask_done hD ho2 (hD k _ ho2 hdk) hmm
                    rw [hdn] at this; cases this
                simp [hdk]
            simp [alR, hx, bs', hst]
          have hn := hs.new (.cells e.zero.toArray T) (cellsR w.heap.size T ds) (fun b h => h) ⟨e.zero, alloc_new _ _, by rw [hdse]; exact zs_ok _ _ _⟩
          have hΓe : Γs (efs S fun j => decide (j = i) || done j) c ++ (L ++ [i]).map (alR bs' S fun j => decide (j = i) || done j) = Γs (efs S done) c ++ L.map (alR bs S done) ++ [cellsR w.heap.size T ds] := by
            rw [hef, hal, List.map_append, hmap, List.map_singleton, hnew, List.append_assoc]
          unfold stepP
          rw [if_pos (by simp [Region.wanted, hg])]
          refine .inl ?_
          have hrun : (execOp a.eval o).run C.P w = .ok (.value (.pointer (some ⟨w.heap.size, 0, none⟩))) (w.alloc (.cells e.zero.toArray T)) := by
            unfold execOp
            simp only [hop, Instr.alloc, Sem.run_bind, hT.run_zero, Result.andThen_ok, newVar, newRow, hT.z_cells (ones_mem h1), run_newObj, Sem.run_pure]
            rfl
          unfold Oper.wp
          rw [hrun]
          refine hKc _ _ ⟨hD', .inl ⟨hno', pre_next (bs := bs) (bs' := bs') (c := c) (c' := c) (L := L) (L' := L ++ [i]) (x := .al T ds) hsl hi ho hx hdn hno hd hz hK hS ?_ (fun j => ?_) (by rw [hΓe]; exact hn.1) (by rw [hΓe]; exact hn.2) (fun j y hj hy => ?_) ?_⟩⟩
          · exact List.nodup_append.2 ⟨hN, by simp, fun x hxL y hy => by simp at hy; subst hy; exact fun e => hiL (e ▸ hxL)⟩
          · rw [List.mem_append, hL, List.mem_singleton]
            by_cases hji : j = i
            · subst hji; simp [isL_al hx]
            · simp [hji]
          · have : j ≠ i := fun e => by rw [e, hdn] at hj; cases hj
            cases y <;> simp [spD, bs', this]
          · simp only [spD, bs', if_true]
            exact .v _
        | ef f =>
          obtain ⟨hg, hok⟩ := hok
          have hE := isE_ef hx
          have hef : efs S (fun j => decide (j = i) || done j) = efs S done + 1 := by rw [efs_upd hi hdn, hE]; simp
          have hns : ∀ j n, S[i]? ≠ some (.sa j n) := fun j n h => by rw [hx] at h; cases h
          have hal := fun (bs : Nat → Nat) (L : List Nat) => alR_updL (bs := bs) (L := L) (done := done) hns
          -- the effects that are done are those ahead of it
          have hef0 : efs S done = efs S fun j => decide (j < i) := by
            unfold efs
            apply List.countP_congr
            intro j hj
            have hjS := List.mem_range.1 hj
            cases hej : isE S j with
            | false => simp
            | true =>
              simp only [Bool.and_true]
              rcases Nat.lt_trichotomy j i with h | h | h
              · have : done j = true := by
                  refine mask_done hD ho hdeps ?_
                  rcases htl2 i hi with h' | h'
                  · rw [hE] at h'; simp at h'
                  · rcases h' j h with h'' | h''
                    · rw [hej] at h''; simp at h''
                    · exact h''
                simp [this, h]
              · subst h; simp [hdn]
              · have : done j = false := by
                  cases hdj : done j with
                  | false => rfl
                  | true =>
                    have hjl : j < l.length := by omega
                    have hoj : l[j]? = some l[j] := List.getElem?_eq_getElem hjl
                    have : done i = true := by
                      refine mask_done hD hoj (hD j _ hoj hdj) ?_
                      rcases htl2 j hjS with h' | h'
                      · rw [hej] at h'; simp at h'
                      · rcases h' i h with h'' | h''
                        · rw [hE] at h''; simp at h''
                        · exact h''
                    rw [hdn] at this; cases this
                simp [this]; omega
          have hL' : ∀ j, j ∈ L ↔ (decide (j = i) || done j) = true ∧ isL S j = true := fun j => by
            rw [hL]
            by_cases hji : j = i
            · subst hji; simp [hdn, isL_ef hx]
            · simp [hji]
          unfold stepP
          rw [if_pos (by simp [Region.wanted, hg])]
          refine .inl ?_
          rw [hef0] at hs hfr hK hS
          refine hok bs c (L.map (alR bs S done)) a w hs hfr Kc Q fun v c' w' hc s' m' hv => ?_
          have hef1 : efs S (fun j => decide (j = i) || done j) = efs S (fun j => decide (j < i)) + 1 := by rw [hef, hef0]
          refine hKc _ _ ⟨hD', .inl ⟨hno', pre_next (bs := bs) (bs' := bs) (c := c) (c' := c') (L := L) (L' := L) (x := .ef f) hsl hi ho hx hdn hno hd hz (by rw [hef0]; exact hK) (by rw [hef0]; exact hS) hN hL' (by rw [hef1, hal]; exact s') (by rw [hef1, hef0, hal]; exact m') (fun j y hj hy => ?_) (by rw [hef1, hal]; exact hv)⟩⟩
          rcases hc with hc | rfl
          · cases y with
            | q d => rfl
            | al T ds => rfl
            | sa j' n => rfl
            | ef g =>
              exfalso
              rw [← hef0] at hc
              unfold efs at hc
              rw [List.countP_eq_zero] at hc
              have hjl : j < S.length := by
                rcases Nat.lt_or_ge j S.length with h | h
                · exact h
                · rw [hno j h] at hj; cases hj
              have := hc j (List.mem_range.2 hjl)
              rw [hj, isE_ef hy] at this
              simp at this
          · rfl
        | sa jt new =>
          obtain ⟨hg, hdst, hsa, hbit, T, ds, t, xo, yo, e, d, hSj, hop, hcd, h1, ht, hl, hnl, hkk⟩ := hok
          have hE := isE_sa hx
          have hef : efs S (fun j => decide (j = i) || done j) = efs S done := by rw [efs_upd hi hdn, hE]; simp
          have hjd : done jt = true := mask_done hD ho hdeps hbit
          have hL' : ∀ j, j ∈ L ↔ (decide (j = i) || done j) = true ∧ isL S j = true := fun j => by
            rw [hL]
            by_cases hji : j = i
            · subst hji; simp [hdn, isL_sa hx]
            · simp [hji]
          have hjL : jt ∈ L := (hL jt).2 ⟨hjd, isL_al hSj⟩
          obtain ⟨n, hn⟩ := List.getElem?_of_mem hjL
          have hold : alR bs S done jt = cellsR (bs jt) T ds := by simp [alR, hSj, stD, hsa, hdn]
          have hnew : alR bs S (fun j => decide (j = i) || done j) jt = cellsR (bs jt) T new := by simp [alR, hSj, stD, hsa]
          have hidx : (Γs (efs S done) c ++ L.map (alR bs S done))[(Γs (efs S done) c).length + n]? = some (cellsR (bs jt) T ds) := by
            rw [List.getElem?_append_right (by omega), Nat.add_sub_cancel_left, List.getElem?_map, hn]
            simp [hold]
          obtain ⟨hkx, hky⟩ := hkk bs c
          obtain ⟨w', h2, s', m'⟩ := st_sem (C := C) (t := t) (p := 0) hs (hfr.evl hky) hcd h1 hidx ht hl (by rw [hnl, Nat.zero_add]; simp)
          have hspl : spl ds 0 new = new := by simp [spl, hnl]
          have hset : (Γs (efs S done) c ++ L.map (alR bs S done)).set ((Γs (efs S done) c).length + n) (cellsR (bs jt) T (spl ds 0 new)) = Γs (efs S fun j => decide (j = i) || done j) c ++ L.map (alR bs S fun j => decide (j = i) || done j) := by
            rw [hspl, hef, List.set_append_right _ _ (by omega), Nat.add_sub_cancel_left]
            congr 1
            apply List.ext_getElem?
            intro k
            rw [List.getElem?_set, List.getElem?_map, List.length_map]
            by_cases hkn : n = k
            · subst hkn
              have hnl' : n < L.length := by
                rcases Nat.lt_or_ge n L.length with h | h
                · exact h
                · rw [List.getElem?_eq_none h] at hn; cases hn
              rw [List.getElem?_map, hn]
              simp [hnl', hnew]
            · rw [if_neg hkn, List.getElem?_map]
              cases hk : L[k]? with
              | none => rfl
              | some j =>
                simp only [Option.map_some, Option.some.injEq]
                refine (alR_upd fun n' h => ?_).symm
                rw [hx] at h
                simp only [Option.some.injEq, Sp.sa.injEq] at h
                have hjj : j = jt := h.1.symm
                subst hjj
                have := (List.getElem?_inj (by
                  rcases Nat.lt_or_ge n L.length with h | h
                  · exact h
                  · rw [List.getElem?_eq_none h] at hn; cases hn) hN).1 (hn.trans hk.symm)
                exact hkn this
          rw [hset] at s' m'
          unfold stepP
          rw [if_pos (by simp [Region.wanted, hg])]
          refine .inl ?_
          have hrun : (execOp a.eval o).run C.P w = .ok .skip w' := by
            unfold execOp
            simp only [hop, Instr.storeAt, (hfr.evl hkx).v_inv, Instr.sureAddr, Sem.run_bind, Sem.run_pure, Result.andThen_ok, h2]
          unfold Oper.wp
          rw [hrun]
          refine hKc _ _ ⟨hD', .inl ⟨hno', pre_next (bs := bs) (bs' := bs) (c := c) (c' := c) (L := L) (L' := L) (x := .sa jt new) hsl hi ho hx hdn hno hd hz hK hS hN hL' s' m' (fun _ _ _ _ => rfl) (.v _)⟩⟩
      · -- the tail's first
        have hbefore : ∀ j, j < i → done j = true := fun j hj => by
          refine mask_done hD ho hdeps ?_
          rcases htl1 i hil with h' | h'
          · have : i < S.length := by simpa [Nat.blt_eq] using h'
            omega
          · exact h' j hj
        have hiS : i = S.length := by
          rcases Nat.lt_or_ge S.length i with h | h
          · have := hbefore S.length h
            rw [hno S.length (Nat.le_refl _)] at this; cases this
          · omega
        subst hiS
        have hw := full done a w hD hno hbefore hP
        have hdrop : l.drop S.length = o :: l.drop (S.length + 1) := by
          rw [List.drop_eq_getElem_cons hil]
          have : l[S.length] = o := by
            rw [List.getElem?_eq_getElem hil] at ho
            exact Option.some.inj ho
          rw [this]
        rw [hdrop] at hw
        refine stepP_mono (K := wpList C.P l.toArray Q (l.drop (S.length + 1))) (fun a' w' h => hKc a' w' ⟨hD', .inr ⟨S.length + 1, by omega, fun j => ?_, h⟩⟩) hw
        rcases Nat.lt_trichotomy j S.length with h | h | h
        · have : j < S.length + 1 := by omega
          simp [hbefore j h, this]
        · subst h; simp
        · have h1 : ¬ j < S.length + 1 := by omega
          have h2 : j ≠ S.length := by omega
          simp [hno j (by omega), h1, h2]
    · -- further on in the tail
      have hin : i = n := by
        rcases Nat.lt_trichotomy i n with h | h | h
        · rw [hdd i] at hdn; simp [h] at hdn
        · exact h
        · have : done n = true := by
            refine mask_done hD ho hdeps ?_
            rcases htl1 i hil with h' | h'
            · have : i < S.length := by simpa [Nat.blt_eq] using h'
              omega
            · exact h' n h
          rw [hdd n] at this; simp at this
      subst hin
      have hdrop : l.drop i = o :: l.drop (i + 1) := by
        rw [List.drop_eq_getElem_cons hil]
        have : l[i] = o := by
          rw [List.getElem?_eq_getElem hil] at ho
          exact Option.some.inj ho
        rw [this]
      rw [hdrop] at hw
      refine stepP_mono (K := wpList C.P l.toArray Q (l.drop (i + 1))) (fun a' w' h => hKc a' w' ⟨hD', .inr ⟨i + 1, by omega, fun j => ?_, h⟩⟩) hw
      show (decide (j = i) || done j) = _
      rw [hdd j]
      rcases Nat.lt_trichotomy j i with h | h | h
      · have : j < i + 1 := by omega
        simp [h, this]
      · subst h; simp
      · have h1 : ¬ j < i + 1 := by omega
        have h2 : j ≠ i := by omega
        have h3 : ¬ j < i := by omega
        simp [h1, h2, h3]
  · -- the end
    obtain ⟨hD, hJ⟩ := hJ
    have hall' : ∀ i, i < l.length → done i = true := fun i hi => hall i (by simpa using hi)
    rcases hJ with ⟨hno, hP⟩ | ⟨n, hn, hdd, hw⟩
    · have hle : l.length ≤ S.length := by
        rcases Nat.lt_or_ge S.length l.length with h | h
        · have := hall' S.length h
          rw [hno S.length (Nat.le_refl _)] at this; cases this
        · exact h
      have hw := full done a w hD hno (fun i hi => hall' i (by omega)) hP
      rw [List.drop_of_length_le hle] at hw
      exact hw
    · have hle : l.length ≤ n := by
        rcases Nat.lt_or_ge n l.length with h | h
        · have := hall' n h
          rw [hdd n] at this; simp at this
        · exact h
      rw [List.drop_of_length_le hle] at hw
      exact hw
  · -- the beginning
    have hfun : (fun i => (Array.replicate l.toArray.size false).getD i false) = fun _ => false := by
      funext i
      simp [Array.getD_eq_getD_getElem?, Array.getElem?_replicate]
      split <;> rfl
    rw [hfun]
    have hefs : efs S (fun _ => false) = 0 := by unfold efs; simp
    have hs' : St E { w with drawn := w.drawn + 1 } Γ ∧ Mv E Γ w Γ { w with drawn := w.drawn + 1 } :=
      Bel.fp (w' := { w with drawn := w.drawn + 1 }) s ⟨⟨rfl, rfl, rfl, Nat.le_refl _, fun _ _ => rfl⟩, Nat.le_succ _⟩
    refine ⟨fun i o _ h => (by cases h), .inl ⟨fun _ _ => rfl, fun _ => 0, undef, [], List.nodup_nil, fun j => by simp, by rw [hefs, hΓ]; simpa using hs'.1, f.df, f.sz, fun s d h => ?_, fun j s x o h => (by cases h)⟩⟩
    obtain ⟨v, h1, h2⟩ := f.kn s d h
    exact ⟨v, h1, by rw [hefs, hΓ]; simpa using hs'.2 _ _ h2⟩
  · -- the list that was drawn
    show wpOps C.P l.toArray Q (Region.linearise.go .any l.toArray l.toArray.size t (Array.replicate l.toArray.size false) []) a { w with drawn := w.drawn + 1 }
    rw [h0.1]
    simpa using h0.2

/-- The same, where no effect lies ahead of the tail. -/
theorem w_draw0 {id : Nat} {l : List Oper} (m : Nat) (S : List Sp) (hm : lenB S m = true) (hac : acyc l 0 = true) (htl : tailOk l m S = true) (hsl : slotsOk E.N K (dsts l m) = true)
    (hops : SpsOk C E l m S K (fun _ _ => Γ) 0 l S)
    (k : ∀ bs c, SO C E l.toArray (l.drop m) (kd l S bs c (List.range m) ++ K) (Γ ++ ((List.range m).filter (isL S)).map (alR bs S fun _ => true)) Q) :
    SW C E (.region id l.toArray true) K Γ Q := w_draw m S (fun _ _ => Γ) hm hac htl hsl (fun _ => rfl) hops k

theorem Qv.as {ops : Array Oper} {o : Oper} {d d' : DV} (h : Qv C E ops K Γ o d) (e : d = d') : Qv C E ops K Γ o d' := e ▸ h
end
end Go.Proofs.Ytcdakcemcehfiaa
