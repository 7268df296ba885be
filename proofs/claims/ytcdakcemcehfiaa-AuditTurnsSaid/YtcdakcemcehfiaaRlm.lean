/- realm: contracts, fourth part: realms. -/
import Derived.Test.YtcdakcemcehfiaaPcs
import Derived.Test.YtcdakcemcehfiaaAud
import Derived.Test.YtcdakcemcehfiaaLnk
import Derived.Test.YtcdakcemcehfiaaSxt
namespace Go.Proofs.Ytcdakcemcehfiaa
open Go Go.RowKit
set_option maxRecDepth 100000

abbrev Rm := List Hlf × List (List Hlf) × List Int
@[reducible] def rRm (x : Rm) : List DV := [.sl 2 (x.1.map rH), .sl 1 (x.2.1.map rRg), .sl 1 (x.2.2.map rI)]
abbrev RmE := List Hlf × (Value × List (List Hlf)) × (Value × List Int)
@[reducible] def rowRm (x : RmE) : List DV := [.sl 2 (x.1.map rH), .os x.2.1.1, .os x.2.2.1]
def rhoI (x : RmE) : Res := rowR x.2.1.1 72 1 (x.2.1.2.map rRg)
def rhoA (x : RmE) : Res := rowR x.2.2.1 3 1 (x.2.2.2.map rI)
def mk0 (o : List Hlf) : RmE := (o, (nilV, []), (nilV, []))
def erm (m : List RmE) : List Rm := m.map fun x => (x.1, x.2.1.2, x.2.2.2)

/-! ### what realms makes -/
abbrev S1 := List (List Hlf) × List (List Hlf) × List Otr
def hd0 (ring : List Hlf) : Hlf := ring.getD 0 (0, false)
def mPiece (p : Pln) (ring : List Hlf) : Int := (mPc p.2).1 (pEdge (hd0 ring).1 p.2).1.2.1
def m1 (p : Pln) (s : S1) (ring : List Hlf) : S1 :=
  if decide (wSign (mSum (mPts p ring)) ≤ 0) then (s.1 ++ [ring], s.2.1, s.2.2) else (s.1, s.2.1 ++ [ring], s.2.2 ++ [(mPts p ring, mSum (mPts p ring), mPiece p ring)])
def mS1 (p : Pln) : S1 := (aRings p).foldl (m1 p) ([], [[]], [])
def mLst1 (p : Pln) (l : Pt) (h : Hlf) : Pt := if gLess (mEnds p h).1 l then (mEnds p h).1 else l
def mLst (p : Pln) (ring : List Hlf) : Pt := ring.foldl (mLst1 p) (mEnds p (hd0 ring)).1
def m2i (p : Pln) (rings : List Otr) (ring : List Hlf) : Nat := (1 + mAround rings (mLst p ring) (mPiece p ring)).toNat
def m2 (p : Pln) (rings : List Otr) (out : List Rm) (ring : List Hlf) : List Rm := out.modify (m2i p rings ring) fun x => (x.1, x.2.1 ++ [ring], x.2.2)
def m3i (rings : List Otr) (v : Vtx) : Nat := (1 + mAround rings v.2 0).toNat
def m3 (p : Pln) (rings : List Otr) (out : List Rm) (v : Vtx) : List Rm := if pDeg v.1 0 p.2 == 0 then out.modify (m3i rings v) fun x => (x.1, x.2.1, x.2.2 ++ [v.1]) else out
def mRealms (p : Pln) : List Rm := p.1.foldl (m3 p (mS1 p).2.2) ((mS1 p).1.foldl (m2 p (mS1 p).2.2) ((mS1 p).2.1.map fun o => (o, [], [])))

theorem modI {m : List RmE} {i : Nat} {x : RmE} (hx : m[i]? = some x) (v : Value) (ring : List Hlf) :
    (m.map rowRm).set i (spl (rowRm x) 1 [.os v]) = (m.set i (x.1, (v, x.2.1.2 ++ [ring]), x.2.2)).map rowRm ∧
    (m.map rhoI).set i (rowR v 72 1 (x.2.1.2.map rRg ++ [rRg ring])) = (m.set i (x.1, (v, x.2.1.2 ++ [ring]), x.2.2)).map rhoI ∧
    (m.set i (x.1, (v, x.2.1.2 ++ [ring]), x.2.2)).map rhoA = m.map rhoA ∧
    erm (m.set i (x.1, (v, x.2.1.2 ++ [ring]), x.2.2)) = (erm m).modify i fun y => (y.1, y.2.1 ++ [ring], y.2.2) := by
  refine ⟨?_, ?_, ?_, ?_⟩
  · rw [List.map_set]; rfl
  · rw [List.map_set]
    simp only [rhoI, List.map_append, List.map_cons, List.map_nil]
  · rw [List.map_set]
    exact set_self (by rw [List.getElem?_map, hx]; rfl)
  · simp only [erm]
    apply List.ext_getElem?
    intro n
    rw [List.getElem?_map, List.getElem?_set, List.getElem?_modify, List.getElem?_map]
    by_cases hn : i = n
    · subst hn
      have hl : i < m.length := by
        rcases Nat.lt_or_ge i m.length with h | h
        · exact h
        · rw [List.getElem?_eq_none h] at hx; cases hx
      have e : m[i] = x := by
        have := List.getElem?_eq_getElem hl
        rw [hx] at this
        exact (Option.some.inj this).symm
      simp [hl, e]
    · simp [hn]
theorem modA {m : List RmE} {i : Nat} {x : RmE} (hx : m[i]? = some x) (v : Value) (id : Int) :
    (m.map rowRm).set i (spl (rowRm x) 2 [.os v]) = (m.set i (x.1, x.2.1, (v, x.2.2.2 ++ [id]))).map rowRm ∧
    (m.map rhoA).set i (rowR v 3 1 (x.2.2.2.map rI ++ [rI id])) = (m.set i (x.1, x.2.1, (v, x.2.2.2 ++ [id]))).map rhoA ∧
    (m.set i (x.1, x.2.1, (v, x.2.2.2 ++ [id]))).map rhoI = m.map rhoI ∧
    erm (m.set i (x.1, x.2.1, (v, x.2.2.2 ++ [id]))) = (erm m).modify i fun y => (y.1, y.2.1, y.2.2 ++ [id]) := by
  refine ⟨?_, ?_, ?_, ?_⟩
  · rw [List.map_set]; rfl
  · rw [List.map_set]
    simp only [rhoA, List.map_append, List.map_cons, List.map_nil]
  · rw [List.map_set]
    exact set_self (by rw [List.getElem?_map, hx]; rfl)
  · simp only [erm]
    apply List.ext_getElem?
    intro n
    rw [List.getElem?_map, List.getElem?_set, List.getElem?_modify, List.getElem?_map]
    by_cases hn : i = n
    · subst hn
      have hl : i < m.length := by
        rcases Nat.lt_or_ge i m.length with h | h
        · exact h
        · rw [List.getElem?_eq_none h] at hx; cases hx
      have e : m[i] = x := by
        have := List.getElem?_eq_getElem hl
        rw [hx] at this
        exact (Option.some.inj this).symm
      simp [hl, e]
    · simp [hn]

@[reducible] def rowRm1 (x : RmE) : List DV := [.sl 2 (x.1.map rH), .sl 1 (x.2.1.2.map rRg), .os x.2.2.1]
@[reducible] def rowRm2 (x : RmE) : List DV := [.sl 2 (x.1.map rH), .sl 1 (x.2.1.2.map rRg), .sl 1 (x.2.2.2.map rI)]
theorem row3_get {f g : RmE → List DV} (hf : ∀ x, (f x).length = 3) (hg : ∀ x, (g x).length = 3) {m : List RmE} {q : Nat} {d d' : DV} (h : (m.map f).flatten[q]? = some d) (h' : (m.map g).flatten[q]? = some d') : ∃ x ∈ m, ∃ c, c < 3 ∧ (f x)[c]? = some d ∧ (g x)[c]? = some d' := by
  obtain ⟨r, h1, h2⟩ := flat_get (k := 3) (by decide) (fun r hr => by obtain ⟨x, _, rfl⟩ := List.mem_map.1 hr; exact hf x) q d h
  obtain ⟨r', h3, h4⟩ := flat_get (k := 3) (by decide) (fun r hr => by obtain ⟨x, _, rfl⟩ := List.mem_map.1 hr; exact hg x) q d' h'
  rw [List.getElem?_map] at h1 h3
  cases hx : m[q / 3]? with
  | none => rw [hx] at h1; cases h1
  | some x =>
    rw [hx] at h1 h3
    simp only [Option.map_some, Option.some.injEq] at h1 h3
    subst h1 h3
    exact ⟨x, List.mem_of_getElem? hx, q % 3, Nat.mod_lt _ (by decide), h2, h4⟩
theorem frI (m : List RmE) (A A' : Nat → Prop) (w : World) (u : Value) (q : Nat) (d d' : DV) (h1 : (m.map rowRm).flatten[q]? = some d) (h2 : (m.map rowRm1).flatten[q]? = some d') (hs : (starR (m.map rhoI)).ok A w) (hA : ∀ b, A' b → A b ∧ ¬ (starR (m.map rhoI)).fp b) (hr : Rep A w u d) : Rep A' w u d' := by
  obtain ⟨x, hx, c, hc, e1, e2⟩ := row3_get (fun _ => rfl) (fun _ => rfl) h1 h2
  have hk : Rep A' w u d := hr.keep (fun _ _ _ => rfl) fun b _ h => (hA b h).1
  have hm : rhoI x ∈ m.map rhoI := List.mem_map.2 ⟨x, hx, rfl⟩
  rcases (by omega : c = 0 ∨ c = 1 ∨ c = 2) with rfl | rfl | rfl
  · cases e1; cases e2; exact hk
  · cases e1; cases e2
    rw [hr.os_inv]
    exact rowR_rep (hs.1 _ hm) (fun b _ h => (hA b h).1) fun b hb h => (hA b h).2 ⟨_, hm, hb⟩
  · cases e1; cases e2; exact hk
theorem frA (m : List RmE) (A A' : Nat → Prop) (w : World) (u : Value) (q : Nat) (d d' : DV) (h1 : (m.map rowRm1).flatten[q]? = some d) (h2 : (m.map rowRm2).flatten[q]? = some d') (hs : (starR (m.map rhoA)).ok A w) (hA : ∀ b, A' b → A b ∧ ¬ (starR (m.map rhoA)).fp b) (hr : Rep A w u d) : Rep A' w u d' := by
  obtain ⟨x, hx, c, hc, e1, e2⟩ := row3_get (fun _ => rfl) (fun _ => rfl) h1 h2
  have hk : Rep A' w u d := hr.keep (fun _ _ _ => rfl) fun b _ h => (hA b h).1
  have hm : rhoA x ∈ m.map rhoA := List.mem_map.2 ⟨x, hx, rfl⟩
  rcases (by omega : c = 0 ∨ c = 1 ∨ c = 2) with rfl | rfl | rfl
  · cases e1; cases e2; exact hk
  · cases e1; cases e2; exact hk
  · cases e1; cases e2
    rw [hr.os_inv]
    exact rowR_rep (hs.1 _ hm) (fun b _ h => (hA b h).1) fun b hb h => (hA b h).2 ⟨_, hm, hb⟩

theorem realms_nil (A : Nat → Prop) (w : World) (cs : List Value) (h : RepL A w cs [[DV.os nilV, DV.os nilV, DV.os nilV]].flatten) : RepL A w cs [[DV.sl 2 [], DV.os nilV, DV.os nilV]].flatten := by
  obtain ⟨c1, cs, rfl, r1, h⟩ := RepL.cons_inv h
  refine .cons ?_ h
  rw [r1.os_inv]
  exact .slnil 2

set_option maxHeartbeats 2000000 in
theorem realms_ok (p : Pln) (hp : p.1.length < 100000000) (hp2 : p.2.length < 100000000) (hT : pRight p = true → TOk p) (hR : pRight p = true) : FunOk cx 32 [dPl p] (.tup [.sl 3 ((mRealms p).map rRm), .sl 6 ((mS1 p).2.2.map rO)]) := by
  have hs1 : Sh p.1 := by show p.1.length < _; omega
  have hs2 : Sh p.2 := by show p.2.length < _; omega
  have hRl := aRings_len p
  refine fn_ok (c := _) _ Try.func32 rfl Try.ntmps32 rfl fun A w => ?_
  refine w_seq ?_
  refine w_reg ?_
  refine o_box rfl rfl rfl rfl rfl rfl ?_; intro b0
  refine Qv.step (u_p rfl rfl rfl) rfl rfl ?_
  refine Qv.step (u_p rfl rfl rfl) rfl rfl ?_
  refine o_nil ?_
  refine x_go ?_
  refine w_seq ?_
  refine w_seq ?_
  refine w_reg ?_
  refine Qv.step (d := .agg [_, _]) (.as (u_ld 0 rfl rfl rfl rfl rfl rfl) rfl) rfl rfl ?_
  refine Qv.step (u_call (Right_ok p hs1 hs2) Try.call14 rfl rfl rfl) rfl rfl ?_
  refine Qv.step (u_p rfl rfl rfl) rfl rfl ?_
  refine o_nil ?_
  refine x_go ?_
  refine w_if rfl (fun h => ?_) (fun h => ?_)
  · rw [hR] at h; cases h
  
  clear h
  refine w_skip ?_
  refine x_go ?_
  refine w_seq ?_
  refine w_reg ?_
  refine Qv.step (d := .agg [_, _]) (.as (u_ld 0 rfl rfl rfl rfl rfl rfl) rfl) rfl rfl ?_
  refine o_ow (pieces_ok p hs2) Try.call39 rfl rfl rfl rfl rfl ?_; rintro ⟨bu, bm, bf⟩
  refine Qv.step (u_p rfl rfl rfl) rfl rfl ?_
  refine o_nil ?_
  refine x_go ?_
  skip
  refine w_seq ?_
  refine w_reg ?_
  refine Qv.step (d := .agg [_, _, _]) (.as (u_bst rfl rfl rfl rfl rfl rfl rfl rfl) rfl) rfl rfl ?_
  refine o_bso rfl rfl rfl rfl rfl rfl rfl rfl rfl rfl rfl rfl ?_; intro vo
  refine Qv.step (u_p rfl rfl rfl) rfl rfl ?_
  refine o_nil ?_
  refine x_go ?_
  refine w_res 2 (rowR vo 75 3 [[.sl 2 [], .os nilV, .os nilV]]) rfl (row_conv rfl (fun r hr => by rw [List.mem_singleton.1 hr]; rfl) realms_nil) (fun b h => h) ?_
  refine w_seq ?_
  refine w_reg ?_
  refine Qv.step (u_p rfl rfl rfl) rfl rfl ?_
  refine o_nil ?_
  refine x_go ?_
  refine w_know 6 _ rfl nil_os ?_
  refine w_nil 119 6 ?_
  refine w_seq ?_
  refine w_reg ?_
  refine Qv.step (u_p rfl rfl rfl) rfl rfl ?_
  refine o_nil ?_
  refine x_go ?_
  refine w_know 7 _ rfl nil_os ?_
  refine w_nil 72 1 ?_
  refine w_star0 ?_
  refine w_res 5 _ rfl (star_nil (T := 72) (k := 1)) star_nil_fp ?_
  refine w_star0 ?_
  refine w_res 6 _ rfl (star_nil (T := 3) (k := 1)) star_nil_fp ?_
  skip
  refine w_seq ?_
  refine w_seq ?_
  refine w_reg ?_
  refine Qv.step (d := .agg [_, _]) (.as (u_ld 0 rfl rfl rfl rfl rfl rfl) rfl) rfl rfl ?_
  refine Qv.step (u_call (Rings_ok p hp hp2 hT) Try.call31 rfl rfl rfl) rfl rfl ?_
  refine Qv.step (u_len rfl rfl rfl rfl rfl rfl) rfl rfl ?_
  refine Qv.step (u_p rfl rfl rfl) rfl rfl ?_
  refine o_nil ?_
  refine x_go ?_
  refine w_block ?_
  
  refine w_loop (fun s : Nat × (Value × List (List Hlf)) × (Value × List Otr) × (Value × List (List Hlf)) => s.1 ≤ (aRings p).length ∧ s.2.1.2.length = s.2.2.1.2.length + 1 ∧ s.2.1.2.length ≤ s.1 + 1 ∧ s.2.2.2.2.length ≤ s.1 ∧ ((aRings p).drop s.1).foldl (m1 p) (s.2.2.2.2, s.2.1.2, s.2.2.1.2) = mS1 p ∧ (∀ o ∈ s.2.2.1.2, Sh o.1) ∧ ∀ r ∈ s.2.2.2.2, r ∈ aRings p)
    (fun s => ([(1, .v (.pointer (some ⟨b0, 0, none⟩))), (4, .v (fndV bu bf)), (5, .os s.2.1.1), (6, .os s.2.2.1.1), (7, .os s.2.2.2.1), (39, .sl 1 ((aRings p).map rRg)), (40, .i (aRings p).length), (41, .i s.1)],
    [cellsR b0 36 (rPl p), ufR bu bm bf (mPc p.2).1 (mPc p.2).2, rowR s.2.1.1 75 3 ((s.2.1.2.map mk0).map rowRm), rowR s.2.2.1.1 119 6 (s.2.2.1.2.map rO), rowR s.2.2.2.1 72 1 (s.2.2.2.2.map rRg), starR ((s.2.1.2.map mk0).map rhoI), starR ((s.2.1.2.map mk0).map rhoA)])) (fun s => (aRings p).length - s.1)
    (0, (vo, [[]]), (.slice none 0 0, []), (.slice none 0 0, [])) ⟨Nat.zero_le _, rfl, Nat.le_refl _, Nat.le_refl _, rfl, fun o h => (by cases h), fun r h => (by cases h)⟩ ⟨rfl, rfl, rfl, rfl, rfl, rfl, lenS rfl, rfl, trivial⟩ rfl ?_
  rintro ⟨k, ⟨vo1, outs⟩, ⟨vr, rings⟩, ⟨vi, inner⟩⟩ ⟨hk, hlen, hol, hil, hI, hSh, hIn⟩
  simp only at hk hlen hol hil hI hSh hIn
  refine w_seq ?_
  refine w_reg ?_
  refine Qv.step (u_p rfl rfl rfl) rfl rfl ?_
  refine o_nil ?_
  refine x_go ?_
  refine w_seq ?_
  refine w_if rfl (fun h => ?_) (fun h => ?_)
  · have hlt : k < (aRings p).length := by simpa using h
    rw [List.drop_eq_getElem_cons hlt, List.foldl_cons] at hI
    clear h
    obtain ⟨hne, hrl⟩ := aRings_ring p (List.getElem_mem hlt)
    have hmem : (aRings p)[k] ∈ aRings p := List.getElem_mem hlt
    generalize hring : (aRings p)[k] = ring at hI hne hrl hmem
    have hpos : 0 < ring.length := List.length_pos_iff.2 hne
    have hptl : (mPts p ring).length ≤ ring.length := by unfold mPts; split <;> simp
    have hsp : Sh (mPts p ring) := by show (mPts p ring).length < _; omega
    have hh0 : (ring.map rH)[0]? = some (rH (hd0 ring)) := by simp [hd0, hpos]
    refine w_skip ?_
    refine x_go ?_
    refine w_seq ?_
    refine w_block ?_
    refine w_seq ?_
    refine w_reg ?_
    refine Qv.step (u_ix rfl rfl rfl rfl rfl rfl rfl rfl (by omega) (by simp; omega)) rfl rfl ?_
    refine Qv.step (u_lde (r := rRg ring) (by simp [hlt, hring]) rfl rfl rfl rfl rfl) rfl rfl ?_
    refine Qv.step (u_p rfl rfl rfl) rfl rfl ?_
    refine o_nil ?_
    refine x_go ?_
    refine w_seq ?_
    refine w_reg ?_
    refine Qv.step (d := .agg [_, _]) (.as (u_ld 0 rfl rfl rfl rfl rfl rfl) rfl) rfl rfl ?_
    refine Qv.step (u_p rfl rfl rfl) rfl rfl ?_
    refine Qv.step (u_call (points_ok p hs1 hs2 ring (by omega)) Try.call40 rfl rfl rfl) rfl rfl ?_
    refine Qv.step (u_p rfl rfl rfl) rfl rfl ?_
    refine Qv.step (u_p rfl rfl rfl) rfl rfl ?_
    refine Qv.step (u_p rfl rfl rfl) rfl rfl ?_
    refine Qv.step (u_p rfl rfl rfl) rfl rfl ?_
    refine Qv.step (u_p rfl rfl rfl) rfl rfl ?_
    refine o_nil ?_
    refine x_go ?_
    refine w_seq ?_
    refine w_reg ?_
    refine Qv.step (u_p rfl rfl rfl) rfl rfl ?_
    refine Qv.step (u_call (sum_ok (mPts p ring) hsp) Try.call41 rfl rfl rfl) rfl rfl ?_
    refine o_alloc rfl rfl rfl rfl rfl rfl ?_; intro b7
    refine o_st 7 rfl rfl rfl rfl rfl rfl rfl rfl rfl rfl (by first | rfl | kernel_rfl) ?_
    refine o_nil ?_
    refine x_go ?_
    refine w_seq ?_
    refine w_seq ?_
    refine w_reg ?_
    refine Qv.step (d := .agg [_, _, _, _]) (.as (u_ld 7 rfl rfl rfl rfl rfl rfl) rfl) rfl rfl ?_
    refine Qv.step (u_call (Sign_ok (mSum (mPts p ring))) Try.call42 rfl rfl rfl) rfl rfl ?_
    refine Qv.step (u_p rfl rfl rfl) rfl rfl ?_
    refine o_nil ?_
    refine x_go ?_
    refine w_if rfl (fun h => ?_) (fun h => ?_)
    · have hsg : decide (wSign (mSum (mPts p ring)) ≤ 0) = true := h
      clear h
      rw [m1, if_pos hsg] at hI
      refine w_seq ?_
      refine w_reg ?_
      refine Qv.step (u_p rfl rfl rfl) rfl rfl ?_
      refine Qv.step (u_p rfl rfl rfl) rfl rfl ?_
      refine Qv.step (q_bsl rfl rfl rfl rfl rfl rfl rfl rfl rfl rfl rfl) rfl rfl ?_
      refine o_app 4 (L := 2000000000) (rows2 := [rRg ring]) (by simp; omega) rfl rfl rfl rfl rfl rfl rfl rfl rfl rfl rfl rfl rfl rfl (by simp [one1]) ?_; intro vi2
      refine Qv.step (u_p rfl rfl rfl) rfl rfl ?_
      refine o_nil ?_
      refine x_go ?_
      refine w_exit ?_
      refine x_go ?_
      refine w_reg ?_
      refine Qv.step (u_p rfl rfl rfl) rfl rfl ?_
      refine Qv.step (u_p rfl rfl rfl) rfl rfl ?_
      refine o_nil ?_
      exact x_rd (k + 1, (vo1, outs), (vr, rings), (vi2, inner ++ [ring])) 7 (by show (aRings p).length - (k + 1) < (aRings p).length - k; omega) ⟨by show k + 1 ≤ _; omega, hlen, by show outs.length ≤ _; omega, by show (inner ++ [ring]).length ≤ _; simp; omega, hI, hSh, fun r hr => by
        rcases List.mem_append.1 hr with hr | hr
        · exact hIn r hr
        · rw [List.mem_singleton.1 hr]; exact hmem⟩ (by simp only [List.map_append, List.map_cons, List.map_nil]; rfl) ⟨rfl, rfl, rfl, rfl, rfl, rfl, rfl, lkS rfl (by omega), trivial⟩
    
    have hsg : decide (wSign (mSum (mPts p ring)) ≤ 0) = false := h
    clear h
    rw [m1, if_neg (by rw [hsg]; simp)] at hI
    refine w_skip ?_
    refine x_go ?_
    refine w_seq ?_
    refine d_begin ?_
    refine d_q (d := .agg [_, _]) [] (by kernel_rfl) rfl (fun _ _ _ => .onk (L' := []) rfl (u_ld 0 rfl rfl rfl rfl rfl rfl) rfl) ?_
    refine d_q [] (by kernel_rfl) rfl (fun _ _ _ => .onk (L' := []) rfl (u_p rfl rfl rfl) rfl) ?_
    refine d_q [1] (by kernel_rfl) rfl (fun _ _ _ => .onk (L' := [(62, _)]) rfl (u_ix rfl rfl rfl rfl rfl rfl rfl rfl (by decide) (by simp; omega)) rfl) ?_
    refine d_q [2] (by kernel_rfl) rfl (fun _ _ _ => .onk (L' := [(63, _)]) rfl (u_p rfl rfl rfl) rfl) ?_
    refine d_q [3] (by kernel_rfl) rfl (fun _ _ _ => .onk (L' := [(64, _)]) rfl (u_lde (r := rH (hd0 ring)) hh0 rfl rfl rfl rfl rfl) rfl) ?_
    refine d_q [0, 4] (by kernel_rfl) rfl (fun _ _ _ => .onk (L' := [(61, _), (65, _)]) rfl (u_call (Edge_ok p hs2 (hd0 ring).1) Try.call43 rfl rfl rfl) rfl) ?_
    refine d_q [5] (by kernel_rfl) rfl (fun _ _ _ => .onk (L' := [(66, _)]) rfl (u_p rfl rfl rfl) rfl) ?_
    refine d_q [6] (by kernel_rfl) rfl (fun _ _ _ => .onk (L' := [(60, _)]) rfl (u_p rfl rfl rfl) rfl) ?_
    refine d_q [6] (by kernel_rfl) rfl (fun _ _ _ => .onk (L' := [(60, _)]) rfl (u_p rfl rfl rfl) rfl) ?_
    refine d_al (ds := [_, _, _]) rfl rfl rfl rfl rfl rfl ?_
    refine d_sa 9 [7, 9] (by kernel_rfl) rfl rfl rfl rfl rfl rfl (fun _ _ => rfl) (fun _ _ => rfl) rfl rfl rfl rfl rfl ?_
    refine d_end (by kernel_rfl) (by kernel_rfl) (by kernel_rfl) (fun bs _ => so_as (L' := [(61, _), (62, _), (63, _), (64, _), (65, _), (66, _), (60, _), (67, _), (68, _), (13, _)]) (G' := [cellsR (bs 9) _ _]) rfl rfl ?_)
    refine Qv.step (u_p rfl rfl rfl) rfl rfl ?_
    refine o_nil ?_
    refine x_go ?_
    refine w_seq ?_
    refine w_reg ?_
    refine Qv.step (u_p rfl rfl rfl) rfl rfl ?_
    refine Qv.step (u_p rfl rfl rfl) rfl rfl ?_
    refine Qv.step (d := .agg [_, _, _]) (.as (u_bst rfl rfl rfl rfl rfl rfl rfl rfl) rfl) rfl rfl ?_
    refine Qv.step (q_bsl rfl rfl rfl rfl rfl rfl rfl rfl rfl rfl rfl) rfl rfl ?_
    refine o_app 2 (L := 2000000000) (rows2 := [[.sl 2 (ring.map rH), .os nilV, .os nilV]]) (by simp; omega) rfl rfl rfl rfl rfl rfl rfl rfl rfl rfl rfl rfl rfl rfl (by simp [one1]) ?_; intro vo2
    refine Qv.step (u_p rfl rfl rfl) rfl rfl ?_
    refine o_nil ?_
    refine x_go ?_
    refine d_begin ?_
    refine d_q [] (by kernel_rfl) rfl (fun _ _ _ => .onk (L' := []) rfl (u_p rfl rfl rfl) rfl) ?_
    refine d_q [] (by kernel_rfl) rfl (fun _ _ _ => .onk (L' := []) rfl (u_p rfl rfl rfl) rfl) ?_
    refine d_q (d := .agg [_, _, _, _]) [] (by kernel_rfl) rfl (fun _ _ _ => .onk (L' := []) rfl (u_ld 7 rfl rfl rfl rfl rfl rfl) rfl) ?_
    refine d_q [] (by kernel_rfl) rfl (fun _ _ _ => .onk (L' := []) rfl (u_p rfl rfl rfl) rfl) ?_
    refine d_q [] (by kernel_rfl) rfl (fun _ _ _ => .onk (L' := []) rfl (u_p rfl rfl rfl) rfl) ?_
    refine d_q [4] (by kernel_rfl) rfl (fun _ _ _ => .onk (L' := [(78, _)]) rfl (u_ld 8 rfl rfl rfl rfl rfl rfl) rfl) ?_
    refine d_q [3, 5] (by kernel_rfl) rfl (fun _ _ _ => .onk (L' := [(77, _), (79, _)]) rfl (u_kp 1 (find_ok bu bm bf (mPc p.2).1 (mPc p.2).2 _ (pEdge (hd0 ring).1 p.2).1.2.1 (Nat.lt_succ_self _)) Try.call55 rfl rfl rfl rfl rfl) rfl) ?_
    refine d_q (d := .agg [_, _, _, _, _, _]) [1, 2, 6] (by kernel_rfl) rfl (fun _ _ _ => .onk (L' := [(75, _), (76, _), (80, _)]) rfl (u_bst rfl rfl rfl rfl rfl rfl rfl rfl) rfl) ?_
    refine d_q [7] (by kernel_rfl) rfl (fun _ _ _ => .onk (L' := [(81, _)]) rfl (q_bsl rfl rfl rfl rfl rfl rfl rfl rfl rfl rfl rfl) rfl) ?_
    refine d_end (by kernel_rfl) (by kernel_rfl) (by kernel_rfl) (fun bs _ => so_as (L' := [(74, _), (75, _), (76, _), (77, _), (78, _), (79, _), (80, _), (81, _), (82, _)]) (G' := []) rfl rfl ?_)
    refine o_app 3 (L := 2000000000) (rows2 := [rO (mPts p ring, mSum (mPts p ring), mPiece p ring)]) (by simp; omega) rfl rfl rfl rfl rfl rfl rfl rfl rfl rfl rfl rfl rfl rfl (by simp [one1]) ?_; intro vr2
    refine Qv.step (u_p rfl rfl rfl) rfl rfl ?_
    refine o_nil ?_
    refine x_go ?_
    refine w_reg ?_
    refine Qv.step (u_p rfl rfl rfl) rfl rfl ?_
    refine Qv.step (u_p rfl rfl rfl) rfl rfl ?_
    refine o_nil ?_
    refine x_res 5 _ rfl (star_nil (T := 72) (k := 1)) star_nil_fp (x_res 6 _ rfl (star_nil (T := 3) (k := 1)) star_nil_fp ?_)
    exact x_rd (k + 1, (vo2, outs ++ [ring]), (vr2, rings ++ [(mPts p ring, mSum (mPts p ring), mPiece p ring)]), (vi, inner)) 7 (by show (aRings p).length - (k + 1) < (aRings p).length - k; omega) ⟨by show k + 1 ≤ _; omega, by show (outs ++ [ring]).length = (rings ++ [_]).length + 1; simp; omega, by show (outs ++ [ring]).length ≤ _; simp; omega, by show inner.length ≤ _; omega, hI, fun o ho => by
      rcases List.mem_append.1 ho with ho | ho
      · exact hSh o ho
      · rw [List.mem_singleton.1 ho]; exact hsp, hIn⟩ (by simp only [List.map_append, List.map_cons, List.map_nil]; rfl) ⟨rfl, rfl, rfl, rfl, rfl, rfl, rfl, lkS rfl (by omega), trivial⟩
  
  have hge : ¬ k < (aRings p).length := by simpa using h
  clear h
  rw [List.drop_eq_nil_of_le (by omega)] at hI
  have hI : (inner, outs, rings) = mS1 p := hI
  have hmR : mRealms p = p.1.foldl (m3 p rings) (inner.foldl (m2 p rings) (outs.map fun o => (o, [], []))) := by
    unfold mRealms
    rw [← hI]
  have hmS : (mS1 p).2.2 = rings := by rw [← hI]
  rw [hmR, hmS]
  clear hmR hmS hI
  refine w_frr 4 7 rfl rfl ?_
  refine w_frr 3 6 rfl rfl ?_
  refine w_exit ?_
  refine x_go ?_
  refine w_seq ?_
  refine w_seq ?_
  refine w_reg ?_
  refine Qv.step (u_p rfl rfl rfl) rfl rfl ?_
  refine Qv.step (u_len rfl rfl rfl rfl rfl rfl) rfl rfl ?_
  refine Qv.step (u_p rfl rfl rfl) rfl rfl ?_
  refine o_nil ?_
  refine x_go ?_
  refine w_block ?_
  
  refine w_loop (fun s : Nat × List RmE => s.1 ≤ inner.length ∧ s.2.length = rings.length + 1 ∧ (inner.drop s.1).foldl (m2 p rings) (erm s.2) = inner.foldl (m2 p rings) (outs.map fun o => (o, [], [])) ∧ (∀ x ∈ s.2, x.2.1.2.length ≤ s.1 ∧ x.2.2.2.length = 0))
    (fun s => ([(1, .v (.pointer (some ⟨b0, 0, none⟩))), (4, .v (fndV bu bf)), (5, .os vo1), (6, .sl 6 (rings.map rO)), (85, .sl 1 (inner.map rRg)), (86, .i inner.length), (87, .i s.1)],
    [cellsR b0 36 (rPl p), ufR bu bm bf (mPc p.2).1 (mPc p.2).2, rowR vo1 75 3 (s.2.map rowRm), unitR, unitR, starR (s.2.map rhoI), starR (s.2.map rhoA)])) (fun s => inner.length - s.1)
    (0, outs.map mk0) ⟨Nat.zero_le _, by simpa using hlen, by simp [erm, mk0, Function.comp_def], fun x hx => by
      obtain ⟨o, _, rfl⟩ := List.mem_map.1 hx
      exact ⟨Nat.le_refl _, rfl⟩⟩ ⟨rfl, rfl, rfl, rfl, rfl, lenS rfl, rfl, trivial⟩ rfl ?_
  rintro ⟨k2, m⟩ ⟨hk2, hml, hI2, hmx⟩
  simp only at hk2 hml hI2 hmx
  refine w_seq ?_
  refine w_reg ?_
  refine Qv.step (u_p rfl rfl rfl) rfl rfl ?_
  refine o_nil ?_
  refine x_go ?_
  refine w_seq ?_
  refine w_if rfl (fun h => ?_) (fun h => ?_)
  · have hlt : k2 < inner.length := by simpa using h
    rw [List.drop_eq_getElem_cons hlt, List.foldl_cons] at hI2
    clear h
    obtain ⟨hne, hrl⟩ := aRings_ring p (hIn _ (List.getElem_mem hlt))
    generalize hring : inner[k2] = ring at hI2 hne hrl
    have hpos : 0 < ring.length := List.length_pos_iff.2 hne
    have hh0 : (ring.map rH)[0]? = some (rH (hd0 ring)) := by simp [hd0, hpos]
    refine w_skip ?_
    refine x_go ?_
    refine w_seq ?_
    refine w_block ?_
    refine w_seq ?_
    refine w_reg ?_
    refine Qv.step (u_ix rfl rfl rfl rfl rfl rfl rfl rfl (by omega) (by simp; omega)) rfl rfl ?_
    refine Qv.step (u_lde (r := rRg ring) (by simp [hlt, hring]) rfl rfl rfl rfl rfl) rfl rfl ?_
    refine Qv.step (u_p rfl rfl rfl) rfl rfl ?_
    refine o_nil ?_
    refine x_go ?_
    refine w_seq ?_
    refine d_begin ?_
    refine d_q (d := .agg [_, _]) [] (by kernel_rfl) rfl (fun _ _ _ => .onk (L' := []) rfl (u_ld 0 rfl rfl rfl rfl rfl rfl) rfl) ?_
    refine d_q [] (by kernel_rfl) rfl (fun _ _ _ => .onk (L' := []) rfl (u_p rfl rfl rfl) rfl) ?_
    refine d_q [1] (by kernel_rfl) rfl (fun _ _ _ => .onk (L' := [(93, _)]) rfl (u_ix rfl rfl rfl rfl rfl rfl rfl rfl (by decide) (by simp; omega)) rfl) ?_
    refine d_q (d := .agg [_, _]) [2] (by kernel_rfl) rfl (fun _ _ _ => .onk (L' := [(94, _)]) rfl (u_lde (r := rH (hd0 ring)) hh0 rfl rfl rfl rfl rfl) rfl) ?_
    refine d_q [0, 3] (by kernel_rfl) rfl (fun _ _ _ => .onk (L' := [(92, _), (95, _)]) rfl (u_call (mends_ok p hs1 hs2 (hd0 ring)) Try.call44 rfl rfl rfl) rfl) ?_
    refine d_q [4] (by kernel_rfl) rfl (fun _ _ _ => .onk (L' := [(96, _)]) rfl (u_p rfl rfl rfl) rfl) ?_
    refine d_q [5] (by kernel_rfl) rfl (fun _ _ _ => .onk (L' := [(91, _)]) rfl (u_p rfl rfl rfl) rfl) ?_
    refine d_q [5] (by kernel_rfl) rfl (fun _ _ _ => .onk (L' := [(91, _)]) rfl (u_p rfl rfl rfl) rfl) ?_
    refine d_q [5] (by kernel_rfl) rfl (fun _ _ _ => .onk (L' := [(91, _)]) rfl (u_p rfl rfl rfl) rfl) ?_
    refine d_al (ds := [_, _]) rfl rfl rfl rfl rfl rfl ?_
    refine d_al (ds := [_, _]) rfl rfl rfl rfl rfl rfl ?_
    refine d_sa 9 [6, 9] (by kernel_rfl) rfl rfl rfl rfl rfl rfl (fun _ _ => rfl) (fun _ _ => rfl) rfl rfl rfl rfl rfl ?_
    refine d_sa 10 [7, 10] (by kernel_rfl) rfl rfl rfl rfl rfl rfl (fun _ _ => rfl) (fun _ _ => rfl) rfl rfl rfl rfl rfl ?_
    refine d_end (by kernel_rfl) (by kernel_rfl) (by kernel_rfl) (fun bs _ => so_as (L' := [(92, _), (93, _), (94, _), (95, _), (96, _), (91, _), (97, _), (98, _), (99, _), (17, _), (18, _)]) (G' := [cellsR (bs 9) _ _, cellsR (bs 10) _ _]) rfl rfl ?_)
    refine Qv.step (u_p rfl rfl rfl) rfl rfl ?_
    refine o_nil ?_
    refine x_go ?_
    refine w_seq ?_
    refine w_seq ?_
    refine w_reg ?_
    refine Qv.step (u_p rfl rfl rfl) rfl rfl ?_
    refine Qv.step (u_len rfl rfl rfl rfl rfl rfl) rfl rfl ?_
    refine Qv.step (u_p rfl rfl rfl) rfl rfl ?_
    refine o_nil ?_
    refine x_go ?_
    refine w_block ?_
    
    refine w_loop (fun s : Nat × Pt => s.1 ≤ ring.length ∧ (ring.drop s.1).foldl (mLst1 p) s.2 = mLst p ring)
      (fun s => ([(1, .v (.pointer (some ⟨b0, 0, none⟩))), (4, .v (fndV bu bf)), (5, .os vo1), (6, .sl 6 (rings.map rO)), (85, .sl 1 (inner.map rRg)), (86, .i inner.length), (87, .i k2), (16, .sl 2 (ring.map rH)), (17, .v (.pointer (some ⟨bs 9, 0, none⟩))), (100, .sl 2 (ring.map rH)), (101, .i ring.length), (102, .i s.1)],
      [cellsR b0 36 (rPl p), ufR bu bm bf (mPc p.2).1 (mPc p.2).2, rowR vo1 75 3 (m.map rowRm), unitR, unitR, starR (m.map rhoI), starR (m.map rhoA), cellsR (bs 9) 50 (rPt s.2), cellsR (bs 10) 50 (rPt (mEnds p (hd0 ring)).2)])) (fun s => ring.length - s.1) (0, (mEnds p (hd0 ring)).1) ⟨Nat.zero_le _, rfl⟩ ⟨rfl, rfl, rfl, rfl, rfl, rfl, rfl, rfl, rfl, rfl, lenS rfl, rfl, trivial⟩ rfl ?_
    rintro ⟨i, least⟩ ⟨hi, hJ⟩
    simp only at hi hJ
    refine w_seq ?_
    refine w_reg ?_
    refine Qv.step (u_p rfl rfl rfl) rfl rfl ?_
    refine o_nil ?_
    refine x_go ?_
    refine w_seq ?_
    refine w_if rfl (fun h => ?_) (fun h => ?_)
    · have hlt : i < ring.length := by simpa using h
      rw [List.drop_eq_getElem_cons hlt, List.foldl_cons] at hJ
      clear h
      refine w_skip ?_
      refine x_go ?_
      refine w_seq ?_
      refine w_block ?_
      refine w_seq ?_
      refine w_reg ?_
      refine Qv.step (u_ix rfl rfl rfl rfl rfl rfl rfl rfl (by omega) (by simp; omega)) rfl rfl ?_
      refine Qv.step (d := .agg [_, _]) (.as (u_lde (r := rH ring[i]) (by simp [hlt]) rfl rfl rfl rfl rfl) rfl) rfl rfl ?_
      refine o_alloc rfl rfl rfl rfl rfl rfl ?_; intro b9
      refine o_st 9 rfl rfl rfl rfl rfl rfl rfl rfl rfl rfl (by first | rfl | kernel_rfl) ?_
      refine o_nil ?_
      refine x_go ?_
      refine w_seq ?_
      refine w_reg ?_
      refine Qv.step (d := .agg [_, _]) (.as (u_ld 0 rfl rfl rfl rfl rfl rfl) rfl) rfl rfl ?_
      refine Qv.step (d := .agg [_, _]) (.as (u_ld 9 rfl rfl rfl rfl rfl rfl) rfl) rfl rfl ?_
      refine Qv.step (u_call (mends_ok p hs1 hs2 ring[i]) Try.call44 rfl rfl rfl) rfl rfl ?_
      refine Qv.step (u_p rfl rfl rfl) rfl rfl ?_
      refine Qv.step (u_p rfl rfl rfl) rfl rfl ?_
      refine Qv.step (u_p rfl rfl rfl) rfl rfl ?_
      refine Qv.step (u_p rfl rfl rfl) rfl rfl ?_
      refine o_alloc rfl rfl rfl rfl rfl rfl ?_; intro b10
      refine o_alloc rfl rfl rfl rfl rfl rfl ?_; intro b11
      refine o_st 10 rfl rfl rfl rfl rfl rfl rfl rfl rfl rfl (by first | rfl | kernel_rfl) ?_
      refine o_st 11 rfl rfl rfl rfl rfl rfl rfl rfl rfl rfl (by first | rfl | kernel_rfl) ?_
      refine Qv.step (u_p rfl rfl rfl) rfl rfl ?_
      refine o_nil ?_
      refine x_go ?_
      refine w_seq ?_
      refine w_reg ?_
      refine Qv.step (d := .agg [_, _]) (.as (u_ld 10 rfl rfl rfl rfl rfl rfl) rfl) rfl rfl ?_
      refine Qv.step (d := .agg [_, _]) (.as (u_ld 7 rfl rfl rfl rfl rfl rfl) rfl) rfl rfl ?_
      refine Qv.step (u_call (Less_ok (mEnds p ring[i]).1 least) Try.call45 rfl rfl rfl) rfl rfl ?_
      refine o_nil ?_
      refine x_go ?_
      refine w_if rfl (fun h => ?_) (fun h => ?_)
      · rw [mLst1, if_pos h] at hJ
        refine w_reg ?_
        refine Qv.step (d := .agg [_, _]) (.as (u_ld 10 rfl rfl rfl rfl rfl rfl) rfl) rfl rfl ?_
        refine o_st 7 rfl rfl rfl rfl rfl rfl rfl rfl rfl rfl (by first | rfl | kernel_rfl) ?_
        refine o_nil ?_
        refine x_go ?_
        refine w_reg ?_
        refine Qv.step (u_p rfl rfl rfl) rfl rfl ?_
        refine Qv.step (u_p rfl rfl rfl) rfl rfl ?_
        refine o_nil ?_
        exact x_rd (i + 1, (mEnds p ring[i]).1) 9 (by show ring.length - (i + 1) < ring.length - i; omega) ⟨by show i + 1 ≤ _; omega, hJ⟩ rfl ⟨rfl, rfl, rfl, rfl, rfl, rfl, rfl, rfl, rfl, rfl, rfl, lkS rfl (by omega), trivial⟩
      
      · rw [mLst1, if_neg (by rw [h]; simp)] at hJ
        refine w_skip ?_
        refine x_go ?_
        refine w_reg ?_
        refine Qv.step (u_p rfl rfl rfl) rfl rfl ?_
        refine Qv.step (u_p rfl rfl rfl) rfl rfl ?_
        refine o_nil ?_
        exact x_rd (i + 1, least) 9 (by show ring.length - (i + 1) < ring.length - i; omega) ⟨by show i + 1 ≤ _; omega, hJ⟩ rfl ⟨rfl, rfl, rfl, rfl, rfl, rfl, rfl, rfl, rfl, rfl, rfl, lkS rfl (by omega), trivial⟩
    
    have hge : ¬ i < ring.length := by simpa using h
    clear h
    rw [List.drop_eq_nil_of_le (by omega)] at hJ
    have hJ : least = mLst p ring := hJ
    subst hJ
    obtain ⟨hA1, hA2⟩ := mAround_ge rings (mLst p ring) (mPiece p ring)
    have hxi : m2i p rings ring < m.length := by unfold m2i; omega
    obtain ⟨x, hx⟩ : ∃ x, m[m2i p rings ring]? = some x := ⟨_, List.getElem?_eq_getElem hxi⟩
    have hxr : (m.map rowRm)[(1 + mAround rings (mLst p ring) (mPiece p ring)).toNat]? = some (rowRm x) := by
      show (m.map rowRm)[m2i p rings ring]? = _
      rw [List.getElem?_map, hx]; rfl
    have hpI : (m.map rhoI)[m2i p rings ring]? = some (rowR x.2.1.1 72 1 (x.2.1.2.map rRg)) := by rw [List.getElem?_map, hx]; rfl
    have hxb := (hmx x (List.mem_of_getElem? hx)).1
    have hxa := (hmx x (List.mem_of_getElem? hx)).2
    refine w_exit ?_
    refine x_go ?_
    refine w_seq ?_
    refine d_begin ?_
    refine d_q (d := .agg [_, _]) [] (by kernel_rfl) rfl (fun _ _ _ => .onk (L' := []) rfl (u_ld 0 rfl rfl rfl rfl rfl rfl) rfl) ?_
    refine d_q [] (by kernel_rfl) rfl (fun _ _ _ => .onk (L' := []) rfl (u_p rfl rfl rfl) rfl) ?_
    refine d_q [1] (by kernel_rfl) rfl (fun _ _ _ => .onk (L' := [(120, _)]) rfl (u_ix rfl rfl rfl rfl rfl rfl rfl rfl (by decide) (by simp; omega)) rfl) ?_
    refine d_q [2] (by kernel_rfl) rfl (fun _ _ _ => .onk (L' := [(121, _)]) rfl (u_p rfl rfl rfl) rfl) ?_
    refine d_q [3] (by kernel_rfl) rfl (fun _ _ _ => .onk (L' := [(122, _)]) rfl (u_lde (r := rH (hd0 ring)) hh0 rfl rfl rfl rfl rfl) rfl) ?_
    refine d_q [0, 4] (by kernel_rfl) rfl (fun _ _ _ => .onk (L' := [(119, _), (123, _)]) rfl (u_call (Edge_ok p hs2 (hd0 ring).1) Try.call43 rfl rfl rfl) rfl) ?_
    refine d_q [5] (by kernel_rfl) rfl (fun _ _ _ => .onk (L' := [(124, _)]) rfl (u_p rfl rfl rfl) rfl) ?_
    refine d_q [6] (by kernel_rfl) rfl (fun _ _ _ => .onk (L' := [(118, _)]) rfl (u_p rfl rfl rfl) rfl) ?_
    refine d_q [6] (by kernel_rfl) rfl (fun _ _ _ => .onk (L' := [(118, _)]) rfl (u_p rfl rfl rfl) rfl) ?_
    refine d_al (ds := [_, _, _]) rfl rfl rfl rfl rfl rfl ?_
    refine d_sa 9 [7, 9] (by kernel_rfl) rfl rfl rfl rfl rfl rfl (fun _ _ => rfl) (fun _ _ => rfl) rfl rfl rfl rfl rfl ?_
    refine d_end (by kernel_rfl) (by kernel_rfl) (by kernel_rfl) (fun bs _ => so_as (L' := [(119, _), (120, _), (121, _), (122, _), (123, _), (124, _), (118, _), (125, _), (126, _), (25, _)]) (G' := [cellsR (bs 9) _ _]) rfl rfl ?_)
    refine Qv.step (u_p rfl rfl rfl) rfl rfl ?_
    refine o_nil ?_
    refine x_go ?_
    refine w_seq ?_
    refine d_begin ?_
    refine d_q [] (by kernel_rfl) rfl (fun _ _ _ => .onk (L' := []) rfl (u_p rfl rfl rfl) rfl) ?_
    refine d_q (d := .agg [_, _]) [] (by kernel_rfl) rfl (fun _ _ _ => .onk (L' := []) rfl (u_ld 7 rfl rfl rfl rfl rfl rfl) rfl) ?_
    refine d_q [] (by kernel_rfl) rfl (fun _ _ _ => .onk (L' := []) rfl (u_p rfl rfl rfl) rfl) ?_
    refine d_q [] (by kernel_rfl) rfl (fun _ _ _ => .onk (L' := []) rfl (u_p rfl rfl rfl) rfl) ?_
    refine d_q [3] (by kernel_rfl) rfl (fun _ _ _ => .onk (L' := [(130, _)]) rfl (u_ld 9 rfl rfl rfl rfl rfl rfl) rfl) ?_
    refine d_q [2, 4] (by kernel_rfl) rfl (fun _ _ _ => .onk (L' := [(129, _), (131, _)]) rfl (u_kp 1 (find_ok bu bm bf (mPc p.2).1 (mPc p.2).2 _ (pEdge (hd0 ring).1 p.2).1.2.1 (Nat.lt_succ_self _)) Try.call55 rfl rfl rfl rfl rfl) rfl) ?_
    refine d_q [0, 1, 5] (by kernel_rfl) rfl (fun _ _ _ => .onk (L' := [(127, _), (128, _), (132, _)]) rfl (u_call (around_ok rings (by show rings.length < _; omega) hSh (mLst p ring) (mPiece p ring)) Try.call46 rfl rfl rfl) rfl) ?_
    refine d_q (d := .i (1 + mAround rings (mLst p ring) (mPiece p ring))) [6] (by kernel_rfl) rfl (fun _ _ _ => .onk (L' := [(133, _)]) rfl (u_p rfl rfl rfl) (congrArg (fun n : Int => DV.i n) (wrapI (by omega) (by omega)))) ?_
    refine d_end (by kernel_rfl) (by kernel_rfl) (by kernel_rfl) (fun bs _ => so_as (L' := [(127, _), (128, _), (129, _), (130, _), (131, _), (132, _), (133, _), (134, _)]) (G' := []) rfl rfl ?_)
    refine Qv.step (u_p rfl rfl rfl) rfl rfl ?_
    refine o_nil ?_
    refine x_go ?_
    refine w_reg ?_
    refine Qv.step (u_p rfl rfl rfl) rfl rfl ?_
    refine Qv.step (u_p rfl rfl rfl) rfl rfl ?_
    refine Qv.step (u_p rfl rfl rfl) rfl rfl ?_
    refine Qv.step (u_p rfl rfl rfl) rfl rfl ?_
    refine Qv.step (u_ixr 2 rfl rfl rfl rfl rfl rfl rfl rfl rfl (by omega) (by rw [List.length_map, hml]; omega)) rfl rfl ?_
    refine Qv.step (u_p rfl rfl rfl) rfl rfl ?_
    refine Qv.step (u_ldr 2 hxr rfl rfl rfl rfl rfl rfl) rfl rfl ?_
    refine Qv.step (u_p rfl rfl rfl) rfl rfl ?_
    refine Qv.step (q_bsl rfl rfl rfl rfl rfl rfl rfl rfl rfl rfl rfl) rfl rfl ?_
    refine o_apps 5 (m2i p rings ring) (N := 2000000000) (rows2 := [rRg ring]) (by simp; omega) hpI rfl rfl rfl rfl rfl rfl rfl rfl rfl rfl rfl rfl rfl rfl (by simp [one1]) ?_; intro vi3
    refine Qv.step (u_ixr 2 rfl rfl rfl rfl rfl rfl rfl rfl rfl (by omega) (by rw [List.length_map, hml]; omega)) rfl rfl ?_
    refine Qv.step (u_p rfl rfl rfl) rfl rfl ?_
    refine o_str 2 (r := rowRm x) hxr rfl rfl rfl rfl rfl rfl rfl rfl rfl rfl rfl ?_
    refine o_nil ?_
    refine x_go ?_
    refine w_reg ?_
    refine Qv.step (u_p rfl rfl rfl) rfl rfl ?_
    refine Qv.step (u_p rfl rfl rfl) rfl rfl ?_
    refine o_nil ?_
    obtain ⟨hE1, hE2, hE3, hE4⟩ := modI hx vi3 ring
    exact x_rd (k2 + 1, m.set (m2i p rings ring) (x.1, (vi3, x.2.1.2 ++ [ring]), x.2.2)) 7 (by show inner.length - (k2 + 1) < inner.length - k2; omega) ⟨by show k2 + 1 ≤ _; omega, by simpa using hml, by rw [hE4]; exact hI2, fun y hy => by
      rcases List.mem_or_eq_of_mem_set hy with hy | hy
      · have := hmx y hy; omega
      · rw [hy]
        refine ⟨?_, hxa⟩
        show (x.2.1.2 ++ [ring]).length ≤ _
        simp; omega⟩ (by simp only [← hE1, ← hE2, hE3]; rfl) ⟨rfl, rfl, rfl, rfl, rfl, rfl, lkS rfl (by omega), trivial⟩
  
  have hge2 : ¬ k2 < inner.length := by simpa using h
  clear h
  rw [List.drop_eq_nil_of_le (by omega)] at hI2
  have hI2 : erm m = inner.foldl (m2 p rings) (outs.map fun o => (o, [], [])) := hI2
  rw [← hI2]
  clear hI2
  have hmy : ∀ x ∈ m, x.2.1.2.length < 1000000000 ∧ x.2.2.2.length = 0 := fun x hx => by have := hmx x hx; omega
  clear hmx
  refine w_exit ?_
  refine x_go ?_
  refine w_seq ?_
  refine w_seq ?_
  refine w_reg ?_
  refine Qv.step (u_p rfl rfl rfl) rfl rfl ?_
  refine Qv.step (u_ld 0 rfl rfl rfl rfl rfl rfl) rfl rfl ?_
  refine Qv.step (u_len rfl rfl rfl rfl rfl rfl) rfl rfl ?_
  refine Qv.step (u_p rfl rfl rfl) rfl rfl ?_
  refine o_nil ?_
  refine x_go ?_
  refine w_block ?_
  
  refine w_loop (fun s : Nat × List RmE => s.1 ≤ p.1.length ∧ s.2.length = rings.length + 1 ∧ (p.1.drop s.1).foldl (m3 p rings) (erm s.2) = p.1.foldl (m3 p rings) (erm m) ∧ (∀ x ∈ s.2, x.2.2.2.length ≤ s.1))
    (fun s => ([(1, .v (.pointer (some ⟨b0, 0, none⟩))), (5, .os vo1), (6, .sl 6 (rings.map rO)), (149, .sl 3 (p.1.map rV)), (150, .i p.1.length), (151, .i s.1)],
    [cellsR b0 36 (rPl p), ufR bu bm bf (mPc p.2).1 (mPc p.2).2, rowR vo1 75 3 (s.2.map rowRm), unitR, unitR, starR (s.2.map rhoI), starR (s.2.map rhoA)])) (fun s => p.1.length - s.1)
    (0, m) ⟨Nat.zero_le _, hml, rfl, fun x hx => by have := hmy x hx; omega⟩ ⟨rfl, rfl, rfl, rfl, lenS rfl, rfl, trivial⟩ rfl ?_
  rintro ⟨k3, n⟩ ⟨hk3, hnl, hI3, hnx⟩
  simp only at hk3 hnl hI3 hnx
  refine w_seq ?_
  refine w_reg ?_
  refine Qv.step (u_p rfl rfl rfl) rfl rfl ?_
  refine o_nil ?_
  refine x_go ?_
  refine w_seq ?_
  refine w_if rfl (fun h => ?_) (fun h => ?_)
  · have hlt : k3 < p.1.length := by simpa using h
    rw [List.drop_eq_getElem_cons hlt, List.foldl_cons] at hI3
    clear h
    refine w_skip ?_
    refine x_go ?_
    refine w_seq ?_
    refine w_block ?_
    refine w_seq ?_
    refine w_reg ?_
    refine Qv.step (u_ix rfl rfl rfl rfl rfl rfl rfl rfl (by omega) (by simp; omega)) rfl rfl ?_
    refine Qv.step (d := .agg [_, _, _]) (.as (u_lde (r := rV p.1[k3]) (by simp [hlt]) rfl rfl rfl rfl rfl) rfl) rfl rfl ?_
    refine o_alloc rfl rfl rfl rfl rfl rfl ?_; intro b7
    refine o_st 7 rfl rfl rfl rfl rfl rfl rfl rfl rfl rfl (by first | rfl | kernel_rfl) ?_
    refine o_nil ?_
    refine x_go ?_
    refine w_seq ?_
    refine w_reg ?_
    refine Qv.step (d := .agg [_, _]) (.as (u_ld 0 rfl rfl rfl rfl rfl rfl) rfl) rfl rfl ?_
    refine Qv.step (u_p rfl rfl rfl) rfl rfl ?_
    refine Qv.step (u_ld 7 rfl rfl rfl rfl rfl rfl) rfl rfl ?_
    refine Qv.step (u_call (Degree_ok p hs2 p.1[k3].1) Try.call22 rfl rfl rfl) rfl rfl ?_
    refine Qv.step (u_p rfl rfl rfl) rfl rfl ?_
    refine o_nil ?_
    refine x_go ?_
    refine w_if rfl (fun h => ?_) (fun h => ?_)
    · rw [m3, if_pos h] at hI3
      clear h
      obtain ⟨hA1, hA2⟩ := mAround_ge rings p.1[k3].2 0
      have hxi : m3i rings p.1[k3] < n.length := by unfold m3i; omega
      obtain ⟨x, hx⟩ : ∃ x, n[m3i rings p.1[k3]]? = some x := ⟨_, List.getElem?_eq_getElem hxi⟩
      have hxr : (n.map rowRm)[(1 + mAround rings p.1[k3].2 0).toNat]? = some (rowRm x) := by
        show (n.map rowRm)[m3i rings p.1[k3]]? = _
        rw [List.getElem?_map, hx]; rfl
      have hpA : (n.map rhoA)[m3i rings p.1[k3]]? = some (rowR x.2.2.1 3 1 (x.2.2.2.map rI)) := by rw [List.getElem?_map, hx]; rfl
      have hxb := hnx x (List.mem_of_getElem? hx)
      refine w_seq ?_
      refine w_reg ?_
      refine Qv.step (u_p rfl rfl rfl) rfl rfl ?_
      refine Qv.step (u_p rfl rfl rfl) rfl rfl ?_
      refine Qv.step (d := .agg [_, _]) (.as (u_ld 7 rfl rfl rfl rfl rfl rfl) rfl) rfl rfl ?_
      refine Qv.step (u_call (around_ok rings (by show rings.length < _; omega) hSh p.1[k3].2 0) Try.call46 rfl rfl rfl) rfl rfl ?_
      refine Qv.step (d := .i (1 + mAround rings p.1[k3].2 0)) (.as (u_p rfl rfl rfl) (congrArg (fun n : Int => DV.i n) (wrapI (by omega) (by omega)))) rfl rfl ?_
      refine Qv.step (u_p rfl rfl rfl) rfl rfl ?_
      refine o_nil ?_
      refine x_go ?_
      apply d_begins 6 (m3i rings p.1[k3]) 3 1 (n.map rhoA) (x.2.2.2.map rI ++ [rI p.1[k3].1]) rfl
      refine d_qE [] (by kernel_rfl) rfl (fun _ _ _ _ => .onk (L' := []) rfl (u_p rfl rfl rfl) rfl) ?_
      refine d_qE [] (by kernel_rfl) rfl (fun _ _ _ _ => .onk (L' := []) rfl (u_p rfl rfl rfl) rfl) ?_
      refine d_qE [] (by kernel_rfl) rfl (fun _ _ _ _ => .onk (L' := []) rfl (u_p rfl rfl rfl) rfl) ?_
      refine d_qE [] (by kernel_rfl) rfl (fun _ _ _ _ => .onk (L' := []) rfl (u_p rfl rfl rfl) rfl) ?_
      refine d_qE [2, 3] (by kernel_rfl) rfl (fun _ _ _ _ => .onk (L' := [(167, _), (168, _)]) rfl (u_ixr 2 rfl rfl rfl rfl rfl rfl rfl rfl rfl (by omega) (by rw [List.length_map, hnl]; omega)) rfl) ?_
      refine d_qE [4] (by kernel_rfl) rfl (fun _ _ _ _ => .onk (L' := [(169, _)]) rfl (u_p rfl rfl rfl) rfl) ?_
      refine d_qE [5] (by kernel_rfl) rfl (fun _ _ _ _ => .onk (L' := [(170, _)]) rfl (u_ldr 2 hxr rfl rfl rfl rfl rfl rfl) rfl) ?_
      refine d_qE [] (by kernel_rfl) rfl (fun _ _ _ _ => .onk (L' := []) rfl (u_p rfl rfl rfl) rfl) ?_
      refine d_qE [7] (by kernel_rfl) rfl (fun _ _ _ _ => .onk (L' := [(172, _)]) rfl (u_ld 7 rfl rfl rfl rfl rfl rfl) rfl) ?_
      refine d_qE [8] (by kernel_rfl) rfl (fun _ _ _ _ => .onk (L' := [(173, _)]) rfl (q_bsl rfl rfl rfl rfl rfl rfl rfl rfl rfl rfl rfl) rfl) ?_
      refine d_apps 6 (m3i rings p.1[k3]) (N := 2000000000) (rows2 := [rI p.1[k3].1]) [6, 9] (by simp; omega) hpA (by simp [one1]) (by kernel_rfl) rfl rfl rfl (by kernel_rfl) rfl (fun _ _ => rfl) (fun _ _ => rfl) (fun _ _ => rfl) (fun _ _ _ => rfl) rfl rfl rfl rfl rfl rfl ?_
      refine d_qE [0, 1] (by kernel_rfl) rfl (fun _ _ _ _ => .onk (L' := [(165, _), (166, _)]) rfl (u_ixr 2 rfl rfl rfl rfl rfl rfl rfl rfl rfl (by omega) (by rw [List.length_map, hnl]; omega)) rfl) ?_
      refine d_qE [11] (by kernel_rfl) rfl (fun _ _ _ _ => .onk (L' := [(176, _)]) rfl (u_p rfl rfl rfl) rfl) ?_
      refine d_endE (by kernel_rfl) (by kernel_rfl) (by kernel_rfl) (fun _ => rfl) (fun bs c8 => so_asE (L' := [(165, _), (166, _), (167, _), (168, _), (169, _), (170, _), (171, _), (172, _), (173, _), (174, _), (175, _), (176, _), (177, _)]) (G' := []) (Γ' := [_, _, _, _, _, _, _, _]) rfl rfl rfl ?_)
      refine o_str 2 (r := rowRm x) hxr rfl rfl rfl rfl rfl rfl rfl rfl rfl rfl rfl ?_
      refine o_nil ?_
      refine x_go ?_
      refine w_reg ?_
      refine Qv.step (u_p rfl rfl rfl) rfl rfl ?_
      refine Qv.step (u_p rfl rfl rfl) rfl rfl ?_
      refine o_nil ?_
      obtain ⟨hE1, hE2, hE3, hE4⟩ := modA hx c8 p.1[k3].1
      exact x_rd (k3 + 1, n.set (m3i rings p.1[k3]) (x.1, x.2.1, (c8, x.2.2.2 ++ [p.1[k3].1]))) 7 (by show p.1.length - (k3 + 1) < p.1.length - k3; omega) ⟨by show k3 + 1 ≤ _; omega, by simpa using hnl, by rw [hE4]; exact hI3, fun y hy => by
        rcases List.mem_or_eq_of_mem_set hy with hy | hy
        · have := hnx y hy; show _ ≤ k3 + 1; omega
        · rw [hy]
          show (x.2.2.2 ++ [p.1[k3].1]).length ≤ k3 + 1
          simp; omega⟩ (by simp only [← hE1, ← hE2, hE3]; rfl) ⟨rfl, rfl, rfl, rfl, rfl, lkS rfl (by omega), trivial⟩
    
    · rw [m3, if_neg (by rw [show (pDeg p.1[k3].1 0 p.2 == 0) = false from h]; simp)] at hI3
      refine w_skip ?_
      refine x_go ?_
      refine w_reg ?_
      refine Qv.step (u_p rfl rfl rfl) rfl rfl ?_
      refine Qv.step (u_p rfl rfl rfl) rfl rfl ?_
      refine o_nil ?_
      exact x_rd (k3 + 1, n) 7 (by show p.1.length - (k3 + 1) < p.1.length - k3; omega) ⟨by show k3 + 1 ≤ _; omega, hnl, hI3, fun y hy => by have := hnx y hy; show _ ≤ k3 + 1; omega⟩ rfl ⟨rfl, rfl, rfl, rfl, rfl, lkS rfl (by omega), trivial⟩
  
  have hge3 : ¬ k3 < p.1.length := by simpa using h
  clear h
  rw [List.drop_eq_nil_of_le (by omega)] at hI3
  have hI3 : erm n = p.1.foldl (m3 p rings) (erm m) := hI3
  refine w_frn 2 5 (n.map rowRm1) rfl rfl rfl (by simp) (fun r hr => by obtain ⟨x, _, rfl⟩ := List.mem_map.1 hr; rfl) (frI n) ?_
  refine w_frn 2 6 (n.map rowRm2) rfl rfl rfl (by simp) (fun r hr => by obtain ⟨x, _, rfl⟩ := List.mem_map.1 hr; rfl) (frA n) ?_
  refine w_frr 2 5 rfl rfl ?_
  refine w_exit ?_
  refine x_go ?_
  refine w_seq ?_
  refine w_reg ?_
  refine Qv.step (u_p rfl rfl rfl) rfl rfl ?_
  refine Qv.step (u_p rfl rfl rfl) rfl rfl ?_
  refine Qv.step (u_p rfl rfl rfl) rfl rfl ?_
  refine Qv.step (u_p rfl rfl rfl) rfl rfl ?_
  refine o_nil ?_
  refine x_go ?_
  refine w_ret (x_r2 rfl (rs_t rfl) (rs_t rfl) ?_)
  rw [← hI3]
  simp [erm, List.map_map, Function.comp_def]
end Go.Proofs.Ytcdakcemcehfiaa
