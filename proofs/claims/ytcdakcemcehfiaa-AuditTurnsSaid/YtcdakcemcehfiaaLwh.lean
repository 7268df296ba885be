/- The plain law, part h: faces. -/
import Derived.Test.YtcdakcemcehfiaaLwg
namespace Go.Proofs.Ytcdakcemcehfiaa
open Go

def rmR (r : Rm) : List (List Hlf) := r.1 :: r.2.1
theorem m1_perm (p : Pln) : ∀ (l : List (List Hlf)) (s : S1), ((l.foldl (m1 p) s).1 ++ (l.foldl (m1 p) s).2.1).Perm (s.1 ++ s.2.1 ++ l)
  | [], s => by simp
  | r :: l, s => by
    rw [List.foldl_cons]
    refine (m1_perm p l (m1 p s r)).trans ?_
    have : ((m1 p s r).1 ++ (m1 p s r).2.1).Perm (s.1 ++ s.2.1 ++ [r]) := by
      unfold m1
      split
      · simp only [List.append_assoc]
        exact List.perm_append_comm.append_left s.1
      · simp
    refine (this.append_right l).trans ?_
    simp
theorem mod_rmR (ring : List Hlf) : ∀ (out : List Rm) (i : Nat), i < out.length → ((out.modify i fun x => (x.1, x.2.1 ++ [ring], x.2.2)).flatMap rmR).Perm (out.flatMap rmR ++ [ring])
  | [], i, h => by simp at h
  | x :: out, 0, _ => by
    simp only [List.modify_zero_cons, List.flatMap_cons]
    have e : rmR (x.1, x.2.1 ++ [ring], x.2.2) = rmR x ++ [ring] := rfl
    rw [e, List.append_assoc, List.append_assoc]
    exact List.perm_append_comm.append_left _
  | x :: out, i + 1, h => by
    simp only [List.modify_succ_cons, List.flatMap_cons, List.append_assoc]
    exact (mod_rmR ring out i (by simpa using h)).append_left _
theorem m2_perm (p : Pln) (rings : List Otr) : ∀ (l : List (List Hlf)) (out : List Rm), out.length = rings.length + 1 → ((l.foldl (m2 p rings) out).flatMap rmR).Perm (out.flatMap rmR ++ l) ∧ (l.foldl (m2 p rings) out).length = rings.length + 1
  | [], out, h => ⟨by simp, h⟩
  | r :: l, out, h => by
    have hb := mAround_ge rings (mLst p r) (mPiece p r)
    have hi : m2i p rings r < out.length := by unfold m2i; omega
    obtain ⟨i1, i2⟩ := m2_perm p rings l (m2 p rings out r) (by unfold m2; rw [List.length_modify]; exact h)
    rw [List.foldl_cons]
    refine ⟨i1.trans ?_, i2⟩
    have := (mod_rmR r out _ hi).append_right l
    refine List.Perm.trans this ?_
    simp
theorem m3_rmR (p : Pln) (rings : List Otr) : ∀ (l : List Vtx) (out : List Rm), (l.foldl (m3 p rings) out).flatMap rmR = out.flatMap rmR
  | [], _ => rfl
  | v :: l, out => by
    rw [List.foldl_cons, m3_rmR p rings l]
    unfold m3
    split
    · rw [List.flatMap_def, List.flatMap_def, mod_map (f := fun x : Rm => (x.1, x.2.1, x.2.2 ++ [v.1])) (g := rmR) (fun _ => rfl)]
    · rfl
theorem realms_rings (p : Pln) : ((mRealms p).flatMap rmR).Perm ([] :: aRings p) := by
  obtain ⟨_, _, _, _, hl⟩ := mS1_ok p
  unfold mRealms
  rw [m3_rmR]
  refine (m2_perm p _ _ _ (by rw [List.length_map]; exact hl)).1.trans ?_
  have e : ((mS1 p).2.1.map fun o => ((o, [], []) : Rm)).flatMap rmR = (mS1 p).2.1 := by
    rw [List.flatMap_map]
    show (mS1 p).2.1.flatMap (fun o => [o]) = _
    simp
  rw [e]
  refine List.perm_append_comm.trans ?_
  have := m1_perm p (aRings p) ([], [[]], [])
  exact this

theorem fold_face {v : Int} : ∀ (l : List Hlf) (face : List (Hlf × Int)) (g : Hlf), mget g (l.foldl (fun f h => mset h v f) face) = if g ∈ l then some v else mget g face
  | [], face, g => by simp
  | h :: l, face, g => by
    rw [List.foldl_cons, fold_face l, mget_mset]
    by_cases e : g = h
    · subst e; simp
    · simp [e]
theorem dRings_flat (k : Nat) : ∀ (rs : List (List Hlf)) (face : List (Hlf × Int)), dRings k face rs = rs.flatten.foldl (fun f h => mset h (k : Int) f) face
  | [], _ => rfl
  | r :: rs, face => by
    rw [List.flatten_cons, List.foldl_append, ← dRings_flat k rs]
    rfl
theorem dRm_get (s : FA) (k : Nat) (r : Rm) (g : Hlf) : mget g (dRm s k r).1 = if g ∈ (rmR r).flatten then some (k : Int) else mget g s.1 := by
  show mget g (dRings k s.1 (r.1 :: r.2.1)) = _
  rw [dRings_flat, fold_face]
  rfl
theorem dRms_far : ∀ (rs : List Rm) (k : Nat) (s : FA) (g : Hlf), (∀ r ∈ rs, g ∉ (rmR r).flatten) → mget g (dRms k s rs).1 = mget g s.1
  | [], _, _, _, _ => rfl
  | r :: rs, k, s, g, h => by
    rw [dRms, dRms_far rs _ _ g fun x hx => h x (List.mem_cons_of_mem _ hx), dRm_get, if_neg (h r (by simp))]
theorem dRms_at : ∀ (rs : List Rm) (k : Nat) (s : FA), (rs.flatMap rmR).flatten.Nodup → ∀ r ∈ rs, ∃ v : Int, ∀ g ∈ (rmR r).flatten, mget g (dRms k s rs).1 = some v
  | [], _, _, _, r, hr => by simp at hr
  | x :: rs, k, s, hn, r, hr => by
    rw [List.flatMap_cons, List.flatten_append] at hn
    obtain ⟨n1, n2, n3⟩ := List.nodup_append.1 hn
    rw [dRms]
    rcases List.mem_cons.1 hr with e | hr'
    · rw [e]
      refine ⟨k, fun g hg => ?_⟩
      rw [dRms_far rs _ _ g, dRm_get, if_pos hg]
      intro y hy hgy
      refine n3 g hg g ?_ rfl
      obtain ⟨l, hl, hgl⟩ := List.mem_flatten.1 hgy
      exact List.mem_flatten.2 ⟨l, List.mem_flatMap.2 ⟨y, hy, hl⟩, hgl⟩
    · exact dRms_at rs _ _ n2 r hr'
theorem faces_ok {p : Pln} (h : pRight p = true) : ∀ r ∈ mRealms p, ∃ v : Int, ∀ g ∈ (rmR r).flatten, mget g (dFA p).1 = some v := by
  refine dRms_at _ _ _ ?_
  have := (realms_rings p).flatten.nodup_iff
  rw [this]
  simpa using (rings_ok h).1

theorem aE2_get {np : NP} {face f : List (Hlf × Int)} {e : ERow} (h : aE2 np face e = some f) : f = mset (e.id, true) (eFc e true) (mset (e.id, false) (eFc e false) face) := by
  unfold aE2 aE1 at h
  cases h1 : aEbad np e false with
  | true => rw [h1] at h; simp at h
  | false =>
    cases h2 : aEbad np e true with
    | true => rw [h1, h2] at h; simp at h
    | false => rw [h1, h2] at h; simpa using h.symm
theorem aCkE_get {np : NP} : ∀ (es : List ERow) (face f : List (Hlf × Int)), aCkE np face es = some f → (es.map (·.id)).Nodup → (∀ e ∈ es, ∀ b, mget (e.id, b) f = some (eFc e b)) ∧ ∀ h : Hlf, (∀ e ∈ es, h.1 ≠ e.id) → mget h f = mget h face
  | [], face, f, h, _ => by
    simp only [aCkE, Option.some.injEq] at h
    subst h
    exact ⟨fun e he => by simp at he, fun _ _ => rfl⟩
  | e :: es, face, f, h, hn => by
    rw [List.map_cons, List.nodup_cons] at hn
    rw [aCkE] at h
    cases h1 : aE2 np face e with
    | none => rw [h1] at h; cases h
    | some f1 =>
      rw [h1] at h
      obtain ⟨i1, i2⟩ := aCkE_get es f1 f h hn.2
      have e1 := aE2_get h1
      refine ⟨fun x hx b => ?_, fun g hg => ?_⟩
      · rcases List.mem_cons.1 hx with ex | hx'
        · rw [ex, i2 _ fun y hy ey => hn.1 (List.mem_map.2 ⟨y, hy, ey.symm⟩), e1, mget_mset, mget_mset]
          cases b <;> simp
        · exact i1 x hx' b
      · rw [i2 g fun y hy => hg y (List.mem_cons_of_mem _ hy), e1, mget_mset, mget_mset]
        have := hg e (by simp)
        rw [if_neg (fun q : g = (e.id, true) => this (by rw [q])), if_neg (fun q : g = (e.id, false) => this (by rw [q]))]
theorem aCkR_none {face : List (Hlf × Int)} {alone : List (Int × Int)} : ∀ {rs : List Rm} {i : Nat} {met : List (Int × Bool)} {r : Rm}, r ∈ rs → (∀ id, aOne r id face alone = false) → aCkR face alone i met rs = none
  | [], _, _, _, h, _ => by simp at h
  | x :: rs, i, met, r, h, hr => by
    rw [aCkR]
    split
    · rfl
    · rename_i hb
      rcases List.mem_cons.1 h with e | h'
      · exfalso
        apply hb
        unfold aRbad
        rw [← e, hr]
        rfl
      · exact aCkR_none h' hr
theorem chk_face {t : Tab} (h : ∀ f, aCkE (aLinks (tPlan t)) [] t.es = some f → ∃ r ∈ mRealms (tPlan t), ∀ id alone, aOne r id f alone = false) : aChk1 t = 19 := by
  unfold aChk1
  split
  · rfl
  · rename_i f hf
    obtain ⟨r, hr, hx⟩ := h f hf
    unfold aChk2
    split
    · rfl
    · rename_i alone _
      unfold aChk3
      rw [aCkR_none hr fun id => hx id alone]
theorem face_law : FaceLaw := by
  intro p k i to e hr he hk hne
  have hp := pRight_ok hr
  refine chk_bad (.inr (chk_face fun f hf => ?_))
  have hpl : tPlan (tTurn (dTb p []) 4 k i to) = p := by rw [tPlan_turn (by omega), tPlan_draw]
  rw [hpl] at hf ⊢
  obtain ⟨e0, he0, rfl⟩ : ∃ e0, p.2[i]? = some e0 ∧ dEr (aLinks p) (dFA p).1 e0 = e := by
    have : (p.2.map (dEr (aLinks p) (dFA p).1))[i]? = some e := he
    rw [List.getElem?_map] at this
    cases hg : p.2[i]? with
    | none => rw [hg] at this; cases this
    | some x => rw [hg] at this; exact ⟨x, rfl, Option.some.inj this⟩
  have hids : ((tTurn (dTb p []) 4 k i to).es.map (·.id)).Nodup := by
    have e1 : (tTurn (dTb p []) 4 k i to).es.map (·.id) = p.2.map (·.1) := by
      rw [← congrArg Prod.snd hpl]
      show _ = (List.map (fun e : ERow => (e.id, e.a, e.b)) (tTurn (dTb p []) 4 k i to).es).map (·.1)
      rw [List.map_map]
      rfl
    rw [e1]
    exact List.pairwise_map.2 (hp.elt.imp fun h => by omega)
  obtain ⟨g1, _⟩ := aCkE_get _ _ _ hf hids
  -- the half that is turned, its ring, and another half of it
  have hh : (e0.1, decide (k = 1)) ∈ hvs p.2 := hvs_mem (List.mem_of_getElem? he0) _
  obtain ⟨_, r2, r3, r4⟩ := rings_ok hr
  obtain ⟨ring, hring, hin⟩ := List.mem_flatten.1 (r2 _ hh)
  obtain ⟨g, hg, hgne⟩ := r3 ring hring _ hin
  have hgU := r4 g (List.mem_flatten.2 ⟨ring, hring, hg⟩)
  obtain ⟨f0, hf0, hgf⟩ := List.mem_flatMap.1 hgU
  obtain ⟨b, rfl⟩ : ∃ b, g = (f0.1, b) := by
    simp only [List.mem_cons, List.not_mem_nil, or_false] at hgf
    rcases hgf with h | h
    · exact ⟨false, h⟩
    · exact ⟨true, h⟩
  have hrr : ring ∈ (mRealms p).flatMap rmR := (realms_rings p).mem_iff.2 (List.mem_cons_of_mem _ hring)
  obtain ⟨r, hrm, hrin⟩ := List.mem_flatMap.1 hrr
  obtain ⟨v, hv⟩ := faces_ok hr r hrm
  have v1 := hv _ (List.mem_flatten.2 ⟨ring, hrin, hin⟩)
  have v2 := hv _ (List.mem_flatten.2 ⟨ring, hrin, hg⟩)
  refine ⟨r, hrm, fun id alone => ?_⟩
  -- what Check reads of the two
  have q1 : mget (e0.1, decide (k = 1)) f = some to := by
    have := g1 _ (turn_mem he) (decide (k = 1))
    rcases side_cases hk with rfl | rfl
    · simpa [eTurn, put2, get2, eFc, dEr] using this
    · simpa [eTurn, put2, get2, eFc, dEr] using this
  have hto : to ≠ v := by
    rintro rfl
    apply hne
    rcases side_cases hk with rfl | rfl
    · have : mget (e0.1, false) (dFA p).1 = some to := v1
      simp [eTurn, put2, dEr, this]
    · have : mget (e0.1, true) (dFA p).1 = some to := v1
      simp [eTurn, put2, dEr, this]
  have q2 : mget (f0.1, b) f = some v := by
    obtain ⟨j, hj⟩ := List.getElem?_of_mem hf0
    by_cases hij : i = j
    · subst hij
      rw [he0] at hj
      have hj := Option.some.inj hj
      subst hj
      have := g1 _ (turn_mem he) b
      rcases side_cases hk with rfl | rfl
      · cases b with
        | false => exact absurd rfl hgne
        | true => rw [← v2]; simpa [eTurn, put2, get2, eFc, dEr, v2] using this
      · cases b with
        | true => exact absurd rfl hgne
        | false => rw [← v2]; simpa [eTurn, put2, get2, eFc, dEr, v2] using this
    · have hm : dEr (aLinks p) (dFA p).1 f0 ∈ (tTurn (dTb p []) 4 k i to).es := by
        refine List.mem_of_getElem? (i := j) ?_
        show ((p.2.map (dEr (aLinks p) (dFA p).1)).modify i _)[j]? = _
        rw [List.getElem?_modify, List.getElem?_map, hj]
        simp [hij]
      have := g1 _ hm b
      rw [show (dEr (aLinks p) (dFA p).1 f0).id = f0.1 from rfl] at this
      rw [this]
      cases b <;> simp [eFc, dEr, v2]
  cases hq : aOne r id f alone with
  | false => rfl
  | true =>
    exfalso
    unfold aOne at hq
    rw [Bool.and_eq_true] at hq
    have h3 : aRgOk id f ring = true := List.all_eq_true.1 hq.1 ring hrin
    unfold aRgOk at h3
    have h4 := List.all_eq_true.1 h3 _ hin
    have h5 := List.all_eq_true.1 h3 _ hg
    rw [q1] at h4
    rw [q2] at h5
    simp at h4 h5
    omega
theorem aTurns_law (p : Pln) (wh at' to : Int) (hw : 0 ≤ wh ∧ wh < 256) : aTurns p wh at' to = true := aTurns_true face_law p wh at' to hw
theorem AuditTurns_ok (p : Pln) (wh at' to : Int) (hw : 0 ≤ wh ∧ wh < 256) : FunOk cx 3 [dPl p, .v (.int .u8 wh), .i at', .i to] (.b true) := by
  have := Turns_ok tok_right p wh at' to hw
  rw [aTurns_law p wh at' to hw] at this
  exact this
#print axioms AuditTurns_ok
end Go.Proofs.Ytcdakcemcehfiaa
