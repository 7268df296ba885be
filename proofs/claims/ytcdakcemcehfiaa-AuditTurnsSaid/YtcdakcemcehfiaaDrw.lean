/- audit: contracts, fifth part: Draw. -/
import Derived.Test.YtcdakcemcehfiaaChk
import Derived.Test.YtcdakcemcehfiaaSxu
namespace Go.Proofs.Ytcdakcemcehfiaa
open Go Go.RowKit
set_option maxRecDepth 100000

theorem FunOk.args {C : Cx} {f : FuncId} {ds ds' : List DV} {res : DV} (h : FunOk C f ds res) (hc : ∀ A w cs, RepL A w cs ds' → RepL A w cs ds) : FunOk C f ds' res := fun A w vs hA hr => h A w vs hA (hc _ _ _ hr)
theorem sideF_ok (e : Int) : FunOk cx 19 [dH (e, false)] (.i 0) := by
  refine fn_ok (c := _) _ Try.func19 rfl Try.ntmps19 rfl fun A w => ?_
  refine w_seq ?_
  refine w_reg ?_
  refine o_box rfl rfl rfl rfl rfl rfl ?_; intro b0
  refine Qv.step (u_p rfl rfl rfl) rfl rfl ?_
  refine o_nil ?_
  refine x_go ?_
  refine w_seq ?_
  refine w_seq ?_
  refine w_reg ?_
  refine Qv.step (u_p rfl rfl rfl) rfl rfl ?_
  refine Qv.step (u_ld 0 rfl rfl rfl rfl rfl rfl) rfl rfl ?_
  refine o_nil ?_
  refine x_go ?_
  refine w_if rfl (fun h => ?_) (fun h => ?_)
  · exact absurd h (by simp)
  
  · refine w_skip ?_
    refine x_go ?_
    refine w_seq ?_
    refine w_reg ?_
    refine Qv.step (u_p rfl rfl rfl) rfl rfl ?_
    refine o_nil ?_
    refine x_go ?_
    exact w_ret (x_rt rfl rfl rfl)
theorem sideT_ok (e : Int) : FunOk cx 19 [dH (e, true)] (.i 1) := by
  refine fn_ok (c := _) _ Try.func19 rfl Try.ntmps19 rfl fun A w => ?_
  refine w_seq ?_
  refine w_reg ?_
  refine o_box rfl rfl rfl rfl rfl rfl ?_; intro b0
  refine Qv.step (u_p rfl rfl rfl) rfl rfl ?_
  refine o_nil ?_
  refine x_go ?_
  refine w_seq ?_
  refine w_seq ?_
  refine w_reg ?_
  refine Qv.step (u_p rfl rfl rfl) rfl rfl ?_
  refine Qv.step (u_ld 0 rfl rfl rfl rfl rfl rfl) rfl rfl ?_
  refine o_nil ?_
  refine x_go ?_
  refine w_if rfl (fun h => ?_) (fun h => ?_)
  · refine w_seq ?_
    refine w_reg ?_
    refine Qv.step (u_p rfl rfl rfl) rfl rfl ?_
    refine o_nil ?_
    refine x_go ?_
    exact w_ret (x_rt rfl rfl rfl)
  
  · exact absurd h (by simp)
def aAtt (n : Int) : Bool := decide (n < 0) || decide (n > 1073741824)
theorem att_ok (n : Int) : FunOk cx 16 [.i n] (.b (aAtt n)) := by
  refine fn_ok (c := _) _ Try.func16 rfl Try.ntmps16 rfl fun A w => ?_
  refine w_seq ?_
  refine w_reg ?_
  refine Qv.step (u_p rfl rfl rfl) rfl rfl ?_
  refine o_nil ?_
  refine x_go ?_
  refine w_seq ?_
  refine w_reg ?_
  refine Qv.step (u_p rfl rfl rfl) rfl rfl ?_
  refine Qv.step (u_p rfl rfl rfl) rfl rfl ?_
  refine Qv.step (u_p rfl rfl rfl) rfl rfl ?_
  refine Qv.step (d := .gd _ _ _) (.as (q_p (G := [(_, false)]) rfl rfl rfl rfl) rfl) rfl rfl ?_
  refine Qv.step (d := .gd _ _ _) (.as (q_p (G := [(_, false)]) rfl rfl rfl rfl) rfl) rfl rfl ?_
  refine Qv.step (d := .v _) (.as (u_pick rfl rfl rfl rfl rfl rfl rfl rfl rfl) rfl) rfl rfl ?_
  refine Qv.step (u_p rfl rfl rfl) rfl rfl ?_
  refine o_nil ?_
  refine x_go ?_
  refine w_ret (x_rt rfl rfl ?_)
  simp [aAtt]
theorem fn_clo (g : Nat) (A : Nat → Prop) (w : World) (u : Value) (h : Rep A w u (.v (.func (.func g) #[] #[]))) : Rep A w u (.clo g []) := by
  rw [h.v_inv]
  exact .clo g [] [] rfl (fun i c d h => by simp at h)
theorem IndexI_ok (g : FuncId) (hb : ∀ args w, (callFunc g args).run cx.P w = .ok (.enter g args) w) (P : Int → Bool) (hP : ∀ n, FunOk cx g ([.i n] ++ []) (.b (P n))) (ls : List Int) (hr : Sh ls) :
    FunOk cx 30 [.sl 1 (ls.map rI), .v (.func (.func g) #[] #[])] (.i (fnd P 0 ls)) := by
  have hr : ls.length < 4611686018427387904 := hr
  refine fn_ok (c := _) _ Try.func30 rfl Try.ntmps30 rfl fun A w => ?_
  refine w_know 1 _ rfl (fn_clo g) ?_
  refine w_seq ?_
  refine w_reg ?_
  refine Qv.step (u_p rfl rfl rfl) rfl rfl ?_
  refine o_nil ?_
  refine x_go ?_
  refine w_seq ?_
  refine w_seq ?_
  refine w_reg ?_
  refine Qv.step (u_p rfl rfl rfl) rfl rfl ?_
  refine Qv.step (u_len rfl rfl rfl rfl rfl rfl) rfl rfl ?_
  refine Qv.step (u_p rfl rfl rfl) rfl rfl ?_
  refine o_nil ?_
  refine x_go ?_
  refine w_block ?_
  
  refine w_loop (fun k : Nat => k ≤ ls.length ∧ fnd P k (ls.drop k) = fnd P 0 ls) (fun k => ([(0, .sl 1 (ls.map rI)), (1, .clo g []), (7, .i ls.length), (8, .i k)], [])) (fun k => ls.length - k) 0 ⟨Nat.zero_le _, rfl⟩ ⟨rfl, rfl, lenS rfl, rfl, trivial⟩ rfl ?_
  rintro k ⟨hk, hI⟩
  refine w_seq ?_
  refine w_reg ?_
  refine Qv.step (u_p rfl rfl rfl) rfl rfl ?_
  refine o_nil ?_
  refine x_go ?_
  refine w_seq ?_
  refine w_if rfl (fun h => ?_) (fun h => ?_)
  · have hlt : k < ls.length := by simpa using h
    rw [List.drop_eq_getElem_cons hlt, fnd] at hI
    clear h
    refine w_skip ?_
    refine x_go ?_
    refine w_seq ?_
    refine w_block ?_
    refine w_seq ?_
    refine w_reg ?_
    refine Qv.step (u_p rfl rfl rfl) rfl rfl ?_
    refine Qv.step (u_p rfl rfl rfl) rfl rfl ?_
    refine o_nil ?_
    refine x_go ?_
    refine w_seq ?_
    refine w_reg ?_
    refine Qv.step (u_p rfl rfl rfl) rfl rfl ?_
    refine Qv.step (u_p rfl rfl rfl) rfl rfl ?_
    refine Qv.step (u_p rfl rfl rfl) rfl rfl ?_
    refine Qv.step (u_ix rfl rfl rfl rfl rfl rfl rfl rfl (by omega) (by simp; omega)) rfl rfl ?_
    refine Qv.step (u_lde (r := rI ls[k]) (by simp [hlt]) rfl rfl rfl rfl rfl) rfl rfl ?_
    refine Qv.step (u_clo (hP ls[k]) hb rfl rfl rfl rfl) rfl rfl ?_
    refine o_nil ?_
    refine x_go ?_
    refine w_if rfl (fun h => ?_) (fun h => ?_)
    · refine w_seq ?_
      refine w_reg ?_
      refine Qv.step (u_p rfl rfl rfl) rfl rfl ?_
      refine Qv.step (u_p rfl rfl rfl) rfl rfl ?_
      refine o_nil ?_
      refine x_go ?_
      rw [h, if_pos rfl] at hI
      refine w_ret (x_rt rfl rfl ?_)
      rw [← hI]
    
    · refine w_skip ?_
      refine x_go ?_
      refine w_reg ?_
      refine Qv.step (u_p rfl rfl rfl) rfl rfl ?_
      refine Qv.step (u_p rfl rfl rfl) rfl rfl ?_
      refine o_nil ?_
      rw [h, if_neg (by simp)] at hI
      exact x_rd (k + 1) 0 (by omega) ⟨by omega, hI⟩ rfl ⟨rfl, rfl, rfl, lkS rfl (by omega), trivial⟩
  
  have hge : ¬ k < ls.length := by simpa using h
  refine w_exit ?_
  refine x_go ?_
  refine w_seq ?_
  refine w_reg ?_
  refine Qv.step (u_p rfl rfl rfl) rfl rfl ?_
  refine o_nil ?_
  refine x_go ?_
  refine w_ret (x_rt rfl rfl ?_)
  rw [← hI, List.drop_eq_nil_of_le (by omega)]
  rfl
theorem ContainsI_ok (g : FuncId) (hb : ∀ args w, (callFunc g args).run cx.P w = .ok (.enter g args) w) (P : Int → Bool) (hP : ∀ n, FunOk cx g ([.i n] ++ []) (.b (P n))) (ls : List Int) (hr : Sh ls) :
    FunOk cx 15 [.sl 1 (ls.map rI), .v (.func (.func g) #[] #[])] (.b (ls.any P)) := by
  refine fn_ok (c := _) _ Try.func15 rfl Try.ntmps15 rfl fun A w => ?_
  refine w_seq ?_
  refine w_reg ?_
  refine Qv.step (u_p rfl rfl rfl) rfl rfl ?_
  refine o_nil ?_
  refine x_go ?_
  refine w_seq ?_
  refine w_reg ?_
  refine Qv.step (u_p rfl rfl rfl) rfl rfl ?_
  refine Qv.step (u_p rfl rfl rfl) rfl rfl ?_
  refine Qv.step (u_call (IndexI_ok g hb P hP ls hr) Try.call30 rfl rfl rfl) rfl rfl ?_
  refine Qv.step (u_p rfl rfl rfl) rfl rfl ?_
  refine Qv.step (u_p rfl rfl rfl) rfl rfl ?_
  refine o_nil ?_
  refine x_go ?_
  refine w_ret (x_rt rfl rfl ?_)
  rw [fnd_ge]

/-! ### what Draw makes -/
abbrev FA := List (Hlf × Int) × List (Int × Int)
def dRing (k : Nat) (face : List (Hlf × Int)) (ring : List Hlf) : List (Hlf × Int) := ring.foldl (fun f h => mset h (k : Int) f) face
def dRings (k : Nat) (face : List (Hlf × Int)) (rs : List (List Hlf)) : List (Hlf × Int) := rs.foldl (dRing k) face
def dAl (k : Nat) (alone : List (Int × Int)) (l : List Int) : List (Int × Int) := l.foldl (fun a v => mset v (k : Int) a) alone
def dRm (s : FA) (k : Nat) (r : Rm) : FA := (dRings k s.1 (r.1 :: r.2.1), dAl k s.2 r.2.2)
def dRms : Nat → FA → List Rm → FA
  | _, s, [] => s
  | k, s, r :: rs => dRms (k + 1) (dRm s k r) rs
def dFA (p : Pln) : FA := dRms 0 ([], []) (mRealms p)
def dFs (attrs : List Int) (n : Nat) : List (Int × Int) := (List.range n).map fun i : Nat => ((i : Int), attrs.getD i 0)
def dVr (alone : List (Int × Int)) (v : Vtx) : VRow := (v.1, v.2, if (mget v.1 alone).isSome then (mget v.1 alone).getD 0 else -1)
def dEr (np : NP) (face : List (Hlf × Int)) (e : Edg) : ERow :=
  ⟨e.1, e.2.1, e.2.2, (sNxt np.1 (e.1, false), sNxt np.1 (e.1, true)), (sNxt np.2 (e.1, false), sNxt np.2 (e.1, true)), ((mget (e.1, false) face).getD 0, (mget (e.1, true) face).getD 0)⟩
def dLv (vs : List Vtx) : Int := (vs.map (·.1)).getLastD 0
def dLe (es : List Edg) : Int := (es.map (·.1)).getLastD 0
theorem dLv_take {vs : List Vtx} {k : Nat} (h : k < vs.length) : dLv (vs.take (k + 1)) = vs[k].1 := by
  rw [dLv, List.take_succ_eq_append_getElem h, List.map_append, List.map_cons, List.map_nil, List.getLastD_concat]
theorem dLe_take {es : List Edg} {k : Nat} (h : k < es.length) : dLe (es.take (k + 1)) = es[k].1 := by
  rw [dLe, List.take_succ_eq_append_getElem h, List.map_append, List.map_cons, List.map_nil, List.getLastD_concat]
def dTb (p : Pln) (attrs : List Int) : Tab := ⟨dLv p.1, dLe p.2, (((mRealms p).length - 1 : Nat) : Int), p.1.map (dVr (dFA p).2), p.2.map (dEr (aLinks p) (dFA p).1), dFs attrs (mRealms p).length⟩
def zTab : Tab := ⟨0, 0, 0, [], [], []⟩
def dBig (p : Pln) : Bool := decide (dLv p.1 > 1099511627776) || decide (dLe p.2 > 1099511627776)
def dDraw (p : Pln) (attrs : List Int) : Tab × Int := if (!pRight p) || attrs.any aAtt then (zTab, 1) else if dBig p then (zTab, 1) else (dTb p attrs, 0)
@[reducible] def zT : List DV := [.i 0, .i 0, .i 0, .os nilV, .os nilV, .os nilV]
theorem os_sl (k : Nat) (A : Nat → Prop) (w : World) (u : Value) (h : Rep A w u (.os nilV)) : Rep A w u (.sl k []) := by rw [h.os_inv]; exact .slnil k
theorem dFs_succ (attrs : List Int) (k : Nat) : dFs attrs k ++ [((k : Int), attrs.getD k 0)] = dFs attrs (k + 1) := by simp [dFs, List.range_succ]
/-- An edge's row, after so many of its halves. -/
def eRj (np : NP) (face : List (Hlf × Int)) (e : Edg) : Nat → ERow
  | 0 => ⟨e.1, e.2.1, e.2.2, ((0, false), (0, false)), ((0, false), (0, false)), (0, 0)⟩
  | 1 => ⟨e.1, e.2.1, e.2.2, (sNxt np.1 (e.1, false), (0, false)), (sNxt np.2 (e.1, false), (0, false)), ((mget (e.1, false) face).getD 0, 0)⟩
  | _ => dEr np face e

/-- A table of one's own, and an error's number. -/
@[reducible] def dTabO (t : Tab) (e : Int) (x : Value × Value × Value) : DV := .tup [.agg [.i t.lv, .i t.le, .i t.lf, .os x.1, .os x.2.1, .os x.2.2], .i e]
@[reducible] def tabL (t : Tab) (x : Value × Value × Value) : List Res := [rowR x.1 78 4 (t.vs.map rVR), rowR x.2.1 44 13 (t.es.map rER), rowR x.2.2 46 2 (t.fs.map rF)]
@[reducible] def tabR (t : Tab) (x : Value × Value × Value) : Res := starR (tabL t x)

set_option maxHeartbeats 4000000 in
theorem Draw_ow (p : Pln) (attrs : List Int) (hp : p.1.length < 100000000) (hp2 : p.2.length < 100000000) (ha : Sh attrs) (hT : pRight p = true → TOk p) : FunOw cx 6 [dPl p, .sl 1 (attrs.map rI)] (dTabO (dDraw p attrs).1 (dDraw p attrs).2) (tabR (dDraw p attrs).1) := by
  have hs1 : Sh p.1 := by show p.1.length < _; omega
  have hs2 : Sh p.2 := by show p.2.length < _; omega
  have hAl := aRings_len p
  have hRl := mRealms_len p
  refine fno_ok (c := _) _ Try.func6 rfl Try.ntmps6 rfl fun A w => ?_
  refine w_seq ?_
  refine w_reg ?_
  refine o_box rfl rfl rfl rfl rfl rfl ?_; intro b0
  refine o_alloc rfl rfl rfl rfl rfl rfl ?_; intro b1
  refine Qv.step (u_p rfl rfl rfl) rfl rfl ?_
  refine o_nil ?_
  refine x_go ?_
  refine w_seq ?_
  refine w_seq ?_
  refine w_reg ?_
  refine Qv.step (d := .agg [_, _]) (.as (u_ld 0 rfl rfl rfl rfl rfl rfl) rfl) rfl rfl ?_
  refine Qv.step (u_call (Right_ok p hs1 hs2) Try.call14 rfl rfl rfl) rfl rfl ?_
  refine Qv.step (u_p rfl rfl rfl) rfl rfl ?_
  refine Qv.step (u_p rfl rfl rfl) rfl rfl ?_
  refine Qv.step (d := .gd _ _ _) (.as (q_p (G := [(_, false)]) rfl rfl rfl rfl) rfl) rfl rfl ?_
  refine Qv.step (d := .gd _ _ _) (.as (q_call (G := [(_, false)]) (ContainsI_ok 16 Try.call16 aAtt att_ok attrs ha) Try.call15 rfl rfl rfl rfl) rfl) rfl rfl ?_
  refine Qv.step (d := .v _) (.as (u_pick rfl rfl rfl rfl rfl rfl rfl rfl rfl) rfl) rfl rfl ?_
  refine o_nil ?_
  refine x_go ?_
  refine w_if rfl (fun h => ?_) (fun h => ?_)
  · have h' : ((!pRight p) || attrs.any aAtt) = true := Eq.trans (by cases pRight p <;> rfl) h
    refine w_seq ?_
    refine w_reg ?_
    refine Qv.step (d := .agg [_, _, _, _, _, _]) (.as (u_bst rfl rfl rfl rfl rfl rfl rfl rfl) rfl) rfl rfl ?_
    refine o_st 1 rfl rfl rfl rfl rfl rfl rfl rfl rfl rfl (by first | rfl | kernel_rfl) ?_
    refine Qv.step (u_p rfl rfl rfl) rfl rfl ?_
    refine o_nil ?_
    refine x_go ?_
    have hd : dDraw p attrs = (zTab, 1) := by rw [dDraw, if_pos h']
    rw [hd]
    refine w_nil 78 4 ?_
    refine w_nil 44 13 ?_
    refine w_nil 46 2 ?_
    exact w_ret (x_ow3 2 3 4 (.slice none 0 0, .slice none 0 0, .slice none 0 0) rfl rfl rfl rfl rfl rfl (rs_c 1 rfl rfl rfl rfl) (rs_t rfl) rfl)
  
  have h' : ((!pRight p) || attrs.any aAtt) = false := Eq.trans (by cases pRight p <;> rfl) h
  clear h
  have hR : pRight p = true := by
    cases hc : pRight p with
    | true => rfl
    | false => rw [hc] at h'; cases h'
  refine w_skip ?_
  refine x_go ?_
  refine w_seq ?_
  refine w_reg ?_
  refine Qv.step (d := .agg [_, _]) (.as (u_ld 0 rfl rfl rfl rfl rfl rfl) rfl) rfl rfl ?_
  refine Qv.step (u_call (links_ok p hp hp2 hT) Try.call17 rfl rfl rfl) rfl rfl ?_
  refine Qv.step (u_p rfl rfl rfl) rfl rfl ?_
  refine Qv.step (u_p rfl rfl rfl) rfl rfl ?_
  refine Qv.step (u_p rfl rfl rfl) rfl rfl ?_
  refine Qv.step (u_p rfl rfl rfl) rfl rfl ?_
  refine Qv.step (u_p rfl rfl rfl) rfl rfl ?_
  refine o_nil ?_
  refine x_go ?_
  refine w_seq ?_
  refine w_reg ?_
  refine o_mk kH DV.i rfl rfl rfl rfl ?_; intro b2
  refine Qv.step (u_p rfl rfl rfl) rfl rfl ?_
  refine o_nil ?_
  refine x_go ?_
  refine w_seq ?_
  refine w_reg ?_
  refine o_mk kI DV.i rfl rfl rfl rfl ?_; intro b3
  refine Qv.step (u_p rfl rfl rfl) rfl rfl ?_
  refine o_nil ?_
  refine x_go ?_
  refine w_seq ?_
  refine w_reg ?_
  refine o_alloc rfl rfl rfl rfl rfl rfl ?_; intro b4
  refine o_nil ?_
  refine x_go ?_
  refine w_nil 78 4 ?_
  refine w_nil 44 13 ?_
  refine w_nil 46 2 ?_
  skip
  refine w_seq ?_
  refine w_seq ?_
  refine w_reg ?_
  refine Qv.step (d := .agg [_, _]) (.as (u_ld 0 rfl rfl rfl rfl rfl rfl) rfl) rfl rfl ?_
  refine Qv.step (u_call (Realms_ok p hp hp2 hT hR) Try.call18 rfl rfl rfl) rfl rfl ?_
  refine Qv.step (u_len rfl rfl rfl rfl rfl rfl) rfl rfl ?_
  refine Qv.step (u_p rfl rfl rfl) rfl rfl ?_
  refine o_nil ?_
  refine x_go ?_
  refine w_block ?_
  
  refine w_loop (fun s : Nat × FA × Value => s.1 ≤ (mRealms p).length ∧ dRms s.1 s.2.1 ((mRealms p).drop s.1) = dFA p) (fun s => ([(1, .sl 1 (attrs.map rI)), (2, .v (.pointer (some ⟨b0, 0, none⟩))), (4, .v (.pointer (some ⟨b1, 0, none⟩))), (6, mpD kH dH (aLinks p).1), (7, mpD kH dH (aLinks p).2), (8, .v (.map (some b2))), (9, .v (.map (some b3))), (10, .v (.pointer (some ⟨b4, 0, none⟩))), (46, .sl 3 ((mRealms p).map rRm)), (47, .i (mRealms p).length), (48, .i s.1)],
    [cellsR b0 36 (rPl p), cellsR b1 32 zT, mapR b2 kH DV.i s.2.1.1, mapR b3 kI DV.i s.2.1.2, cellsR b4 32 [.i 0, .i 0, .i ((s.1 - 1 : Nat) : Int), .os nilV, .os nilV, .os s.2.2], rowR (.slice none 0 0) 78 4 [], rowR (.slice none 0 0) 44 13 [], rowR s.2.2 46 2 ((dFs attrs s.1).map rF)])) (fun s => (mRealms p).length - s.1) (0, ([], []), .slice none 0 0) ⟨Nat.zero_le _, rfl⟩ ⟨rfl, rfl, rfl, rfl, rfl, rfl, rfl, rfl, rfl, lenS rfl, rfl, trivial⟩ rfl ?_
  rintro ⟨k, ⟨face, alone⟩, vf⟩ ⟨hk, hI⟩
  simp only at hk hI
  refine w_seq ?_
  refine w_reg ?_
  refine Qv.step (u_p rfl rfl rfl) rfl rfl ?_
  refine o_nil ?_
  refine x_go ?_
  refine w_seq ?_
  refine w_if rfl (fun h => ?_) (fun h => ?_)
  · have hlt : k < (mRealms p).length := by simpa using h
    rw [List.drop_eq_getElem_cons hlt, dRms] at hI
    clear h
    have hro := mRealms_ok p _ (List.getElem_mem hlt)
    have hou := mRealms_outer p (List.getElem?_eq_getElem hlt)
    generalize hr : (mRealms p)[k] = r at hI hro hou
    have h2 : ∀ x ∈ r.1 :: r.2.1, x.length < 1000000000 := fun x hx => by
      rcases List.mem_cons.1 hx with rfl | hx
      · split at hou
        · rw [hou]; decide
        · have := (aRings_ring _ hou).2; omega
      · have := (aRings_ring _ (hro.inn x hx)).2; omega
    have hil : r.2.1.length < 1000000000 := by have := hro.len; omega
    have hal : r.2.2.length < 1000000000 := by have := hro.alo; omega
    have hdl : (dFs attrs k).length = k := by simp [dFs]
    generalize hrs : r.1 :: r.2.1 = rs at h2
    have hrl : rs.length < 2000000000 := by rw [← hrs]; simp; omega
    refine w_skip ?_
    refine x_go ?_
    refine w_seq ?_
    refine w_block ?_
    refine w_seq ?_
    refine w_reg ?_
    refine Qv.step (u_p rfl rfl rfl) rfl rfl ?_
    refine Qv.step (u_ix rfl rfl rfl rfl rfl rfl rfl rfl (by omega) (by simp; omega)) rfl rfl ?_
    refine Qv.step (d := .agg [_, _, _]) (.as (u_lde (r := rRm r) (by simp [hlt, hr]) rfl rfl rfl rfl rfl) rfl) rfl rfl ?_
    refine o_alloc rfl rfl rfl rfl rfl rfl ?_; intro b8
    refine Qv.step (u_p rfl rfl rfl) rfl rfl ?_
    refine o_st 8 rfl rfl rfl rfl rfl rfl rfl rfl rfl rfl (by first | rfl | kernel_rfl) ?_
    refine o_nil ?_
    refine x_go ?_
    refine w_seq ?_
    refine w_reg ?_
    refine Qv.step (u_p rfl rfl rfl) rfl rfl ?_
    refine Qv.step (d := .agg [_, _]) (.as (u_bst rfl rfl rfl rfl rfl rfl rfl rfl) rfl) rfl rfl ?_
    refine o_alloc rfl rfl rfl rfl rfl rfl ?_; intro b9
    refine o_st 9 rfl rfl rfl rfl rfl rfl rfl rfl rfl rfl (by first | rfl | kernel_rfl) ?_
    refine o_nil ?_
    refine x_go ?_
    refine w_seq ?_
    refine w_seq ?_
    refine w_reg ?_
    refine Qv.step (u_p rfl rfl rfl) rfl rfl ?_
    refine Qv.step (u_p rfl rfl rfl) rfl rfl ?_
    refine Qv.step (u_len rfl rfl rfl rfl rfl rfl) rfl rfl ?_
    refine Qv.step (u_p rfl rfl rfl) rfl rfl ?_
    refine o_nil ?_
    refine x_go ?_
    refine w_if rfl (fun h => ?_) (fun h => ?_)
    · have hka : k < attrs.length := by simpa using h
      clear h
      have hatt : dFs attrs k ++ [((k : Int), attrs[k])] = dFs attrs (k + 1) := by rw [← dFs_succ]; simp [hka]
      refine w_reg ?_
      refine Qv.step (u_p rfl rfl rfl) rfl rfl ?_
      refine Qv.step (u_p rfl rfl rfl) rfl rfl ?_
      refine Qv.step (u_ix rfl rfl rfl rfl rfl rfl rfl rfl (by omega) (by simp; omega)) rfl rfl ?_
      refine Qv.step (u_lde (r := rI attrs[k]) (by simp [hka]) rfl rfl rfl rfl rfl) rfl rfl ?_
      refine Qv.step (u_p rfl rfl rfl) rfl rfl ?_
      refine o_st 9 rfl rfl rfl rfl rfl rfl rfl rfl rfl rfl (by first | rfl | kernel_rfl) ?_
      refine o_nil ?_
      refine x_go ?_
      have hfs : dFs attrs k ++ [((k : Int), attrs[k])] = dFs attrs (k + 1) := hatt
      refine w_seq ?_
      refine w_reg ?_
      refine Qv.step (u_p rfl rfl rfl) rfl rfl ?_
      refine Qv.step (u_ld 4 rfl rfl rfl rfl rfl rfl) rfl rfl ?_
      refine Qv.step (d := .agg [_, _]) (.as (u_ld 9 rfl rfl rfl rfl rfl rfl) rfl) rfl rfl ?_
      refine Qv.step (q_bsl rfl rfl rfl rfl rfl rfl rfl rfl rfl rfl rfl) rfl rfl ?_
      refine o_app 7 (L := 2000000000) (rows2 := [rF ((k : Int), attrs[k])]) (by simp; omega) rfl rfl rfl rfl rfl rfl rfl rfl rfl rfl rfl rfl rfl rfl (by simp [one1]) ?_; intro vf2
      refine Qv.step (u_p rfl rfl rfl) rfl rfl ?_
      refine o_st 4 rfl rfl rfl rfl rfl rfl rfl rfl rfl rfl (by first | rfl | kernel_rfl) ?_
      refine o_nil ?_
      refine x_go ?_
      refine w_seq ?_
      refine w_reg ?_
      refine Qv.step (u_p rfl rfl rfl) rfl rfl ?_
      refine Qv.step (u_p rfl rfl rfl) rfl rfl ?_
      refine o_st 4 rfl rfl rfl rfl rfl rfl rfl rfl rfl rfl (by first | rfl | kernel_rfl) ?_
      refine o_nil ?_
      refine x_go ?_
      refine w_seq ?_
      refine w_seq ?_
      refine w_reg ?_
      refine Qv.step (u_p rfl rfl rfl) rfl rfl ?_
      refine Qv.step (u_ld 8 rfl rfl rfl rfl rfl rfl) rfl rfl ?_
      refine o_bso rfl rfl rfl rfl rfl rfl rfl rfl rfl rfl rfl rfl ?_; intro vb
      refine Qv.step (u_p rfl rfl rfl) rfl rfl ?_
      refine Qv.step (u_ld 8 rfl rfl rfl rfl rfl rfl) rfl rfl ?_
      refine o_app 10 (L := 2000000000) (rows := [[.sl 2 (r.1.map rH)]]) (rows2 := r.2.1.map rRg) (by simp; omega) rfl rfl rfl rfl rfl rfl rfl rfl rfl rfl rfl rfl rfl rfl (by intro x hx d hd; obtain ⟨y, _, rfl⟩ := List.mem_map.1 hx; rw [List.mem_singleton.1 hd]; rfl) ?_; intro vb2
      refine Qv.step (u_olen 10 rfl rfl rfl rfl rfl rfl rfl) rfl rfl ?_
      refine Qv.step (u_p rfl rfl rfl) rfl rfl ?_
      refine o_nil ?_
      refine x_go ?_
      refine w_frr 10 77 rfl rfl ?_
      skip
      have hm : [DV.sl 2 (r.1.map rH)] :: r.2.1.map rRg = rs.map rRg := by rw [← hrs]; rfl
      refine w_block ?_
      
      refine w_loop (fun s : Nat × List (Hlf × Int) => s.1 ≤ rs.length ∧ (rs.drop s.1).foldl (dRing k) s.2 = dRings k face rs) (fun s => ([(1, .sl 1 (attrs.map rI)), (2, .v (.pointer (some ⟨b0, 0, none⟩))), (4, .v (.pointer (some ⟨b1, 0, none⟩))), (6, mpD kH dH (aLinks p).1), (7, mpD kH dH (aLinks p).2), (8, .v (.map (some b2))), (9, .v (.map (some b3))), (10, .v (.pointer (some ⟨b4, 0, none⟩))), (46, .sl 3 ((mRealms p).map rRm)), (47, .i (mRealms p).length), (48, .i k), (11, .i k), (12, .v (.pointer (some ⟨b8, 0, none⟩))), (77, .sl 1 (rs.map rRg)), (78, .i rs.length), (79, .i s.1)],
        [cellsR b0 36 (rPl p), cellsR b1 32 zT, mapR b2 kH DV.i s.2, mapR b3 kI DV.i alone, cellsR b4 32 [.i 0, .i 0, .i (k : Int), .os nilV, .os nilV, .os vf2], rowR (.slice none 0 0) 78 4 [], rowR (.slice none 0 0) 44 13 [], rowR vf2 46 2 ((dFs attrs (k + 1)).map rF), cellsR b8 75 (rRm r), cellsR b9 46 [.i (k : Int), .i attrs[k]], unitR])) (fun s => rs.length - s.1) (0, face) ⟨Nat.zero_le _, rfl⟩ ⟨rfl, rfl, rfl, rfl, rfl, rfl, rfl, rfl, rfl, rfl, rfl, rfl, rfl, by rw [← hm]; rfl, by
          show some (DV.i (([[DV.sl 2 (r.1.map rH)]] ++ r.2.1.map rRg).length : Int)) = _
          rw [List.singleton_append, hm, List.length_map], rfl, trivial⟩ (by rw [← hfs]; simp only [List.map_append, List.map_cons, List.map_nil]; rfl) ?_
      rintro ⟨j, fc⟩ ⟨hj, hJ⟩
      simp only at hj hJ
      refine w_seq ?_
      refine w_reg ?_
      refine Qv.step (u_p rfl rfl rfl) rfl rfl ?_
      refine o_nil ?_
      refine x_go ?_
      refine w_seq ?_
      refine w_if rfl (fun h => ?_) (fun h => ?_)
      · have hlt : j < rs.length := by simpa using h
        rw [List.drop_eq_getElem_cons hlt, List.foldl_cons] at hJ
        clear h
        have hrl2 := h2 _ (List.getElem_mem hlt)
        generalize hring : rs[j] = ring at hJ hrl2
        refine w_skip ?_
        refine x_go ?_
        refine w_seq ?_
        refine w_block ?_
        refine w_seq ?_
        refine w_reg ?_
        refine Qv.step (u_ix rfl rfl rfl rfl rfl rfl rfl rfl (by omega) (by simp; omega)) rfl rfl ?_
        refine Qv.step (u_lde (r := rRg ring) (by simp [hlt, hring]) rfl rfl rfl rfl rfl) rfl rfl ?_
        refine Qv.step (u_p rfl rfl rfl) rfl rfl ?_
        refine o_nil ?_
        refine x_go ?_
        refine w_seq ?_
        refine w_reg ?_
        refine Qv.step (u_p rfl rfl rfl) rfl rfl ?_
        refine Qv.step (u_len rfl rfl rfl rfl rfl rfl) rfl rfl ?_
        refine Qv.step (u_p rfl rfl rfl) rfl rfl ?_
        refine o_nil ?_
        refine x_go ?_
        refine w_block ?_
        
        refine w_loop (fun s : Nat × List (Hlf × Int) => s.1 ≤ ring.length ∧ (ring.drop s.1).foldl (fun f h => mset h (k : Int) f) s.2 = dRing k fc ring) (fun s => ([(1, .sl 1 (attrs.map rI)), (2, .v (.pointer (some ⟨b0, 0, none⟩))), (4, .v (.pointer (some ⟨b1, 0, none⟩))), (6, mpD kH dH (aLinks p).1), (7, mpD kH dH (aLinks p).2), (8, .v (.map (some b2))), (9, .v (.map (some b3))), (10, .v (.pointer (some ⟨b4, 0, none⟩))), (46, .sl 3 ((mRealms p).map rRm)), (47, .i (mRealms p).length), (48, .i k), (11, .i k), (12, .v (.pointer (some ⟨b8, 0, none⟩))), (77, .sl 1 (rs.map rRg)), (78, .i rs.length), (79, .i j), (83, .sl 2 (ring.map rH)), (84, .i ring.length), (85, .i s.1)],
          [cellsR b0 36 (rPl p), cellsR b1 32 zT, mapR b2 kH DV.i s.2, mapR b3 kI DV.i alone, cellsR b4 32 [.i 0, .i 0, .i (k : Int), .os nilV, .os nilV, .os vf2], rowR (.slice none 0 0) 78 4 [], rowR (.slice none 0 0) 44 13 [], rowR vf2 46 2 ((dFs attrs (k + 1)).map rF), cellsR b8 75 (rRm r), cellsR b9 46 [.i (k : Int), .i attrs[k]], unitR])) (fun s => ring.length - s.1) (0, fc) ⟨Nat.zero_le _, rfl⟩ ⟨rfl, rfl, rfl, rfl, rfl, rfl, rfl, rfl, rfl, rfl, rfl, rfl, rfl, rfl, rfl, rfl, rfl, lenS rfl, rfl, trivial⟩ rfl ?_
        rintro ⟨i, fd⟩ ⟨hi, hM⟩
        simp only at hi hM
        refine w_seq ?_
        refine w_reg ?_
        refine Qv.step (u_p rfl rfl rfl) rfl rfl ?_
        refine o_nil ?_
        refine x_go ?_
        refine w_seq ?_
        refine w_if rfl (fun h => ?_) (fun h => ?_)
        · have hlt : i < ring.length := by simpa using h
          rw [List.drop_eq_getElem_cons hlt, List.foldl_cons] at hM
          clear h
          refine w_skip ?_
          refine x_go ?_
          refine w_seq ?_
          refine w_block ?_
          refine w_seq ?_
          refine w_reg ?_
          refine Qv.step (u_ix rfl rfl rfl rfl rfl rfl rfl rfl (by omega) (by simp; omega)) rfl rfl ?_
          refine Qv.step (d := .agg [_, _]) (.as (u_lde (r := rH ring[i]) (by simp [hlt]) rfl rfl rfl rfl rfl) rfl) rfl rfl ?_
          refine o_alloc rfl rfl rfl rfl rfl rfl ?_; intro b11
          refine o_st 11 rfl rfl rfl rfl rfl rfl rfl rfl rfl rfl (by first | rfl | kernel_rfl) ?_
          refine o_nil ?_
          refine x_go ?_
          refine w_reg ?_
          refine Qv.step (u_p rfl rfl rfl) rfl rfl ?_
          refine Qv.step (d := .agg [_, _]) (.as (u_ld 11 rfl rfl rfl rfl rfl rfl) rfl) rfl rfl ?_
          refine Qv.step (u_p rfl rfl rfl) rfl rfl ?_
          refine o_mu 2 KH ring[i] (k : Int) rfl rfl rfl rfl rfl rfl rfl rfl rfl rfl rfl ?_
          refine o_nil ?_
          refine x_go ?_
          refine w_reg ?_
          refine Qv.step (u_p rfl rfl rfl) rfl rfl ?_
          refine Qv.step (u_p rfl rfl rfl) rfl rfl ?_
          refine o_nil ?_
          exact x_rd (i + 1, mset ring[i] (k : Int) fd) 11 (by show ring.length - (i + 1) < ring.length - i; omega) ⟨by show i + 1 ≤ _; omega, hM⟩ rfl ⟨rfl, rfl, rfl, rfl, rfl, rfl, rfl, rfl, rfl, rfl, rfl, rfl, rfl, rfl, rfl, rfl, rfl, rfl, lkS rfl (by omega), trivial⟩
        
        have hge : ¬ i < ring.length := by simpa using h
        clear h
        rw [List.drop_eq_nil_of_le (by omega)] at hM
        rw [← hM] at hJ
        refine w_exit ?_
        refine x_go ?_
        refine w_reg ?_
        refine Qv.step (u_p rfl rfl rfl) rfl rfl ?_
        refine Qv.step (u_p rfl rfl rfl) rfl rfl ?_
        refine o_nil ?_
        exact x_rd (j + 1, fd) 11 (by show rs.length - (j + 1) < rs.length - j; omega) ⟨by show j + 1 ≤ _; omega, hJ⟩ rfl ⟨rfl, rfl, rfl, rfl, rfl, rfl, rfl, rfl, rfl, rfl, rfl, rfl, rfl, rfl, rfl, lkS rfl (by omega), trivial⟩
      
      have hge : ¬ j < rs.length := by simpa using h
      clear h
      rw [List.drop_eq_nil_of_le (by omega)] at hJ
      have hJ : fc = dRings k face rs := hJ
      subst hJ
      refine w_exit ?_
      refine x_go ?_
      refine w_seq ?_
      refine w_reg ?_
      refine Qv.step (u_p rfl rfl rfl) rfl rfl ?_
      refine Qv.step (u_ld 8 rfl rfl rfl rfl rfl rfl) rfl rfl ?_
      refine Qv.step (u_len rfl rfl rfl rfl rfl rfl) rfl rfl ?_
      refine Qv.step (u_p rfl rfl rfl) rfl rfl ?_
      refine o_nil ?_
      refine x_go ?_
      refine w_block ?_
      
      refine w_loop (fun s : Nat × List (Int × Int) => s.1 ≤ r.2.2.length ∧ (r.2.2.drop s.1).foldl (fun a v => mset v (k : Int) a) s.2 = dAl k alone r.2.2) (fun s => ([(1, .sl 1 (attrs.map rI)), (2, .v (.pointer (some ⟨b0, 0, none⟩))), (4, .v (.pointer (some ⟨b1, 0, none⟩))), (6, mpD kH dH (aLinks p).1), (7, mpD kH dH (aLinks p).2), (8, .v (.map (some b2))), (9, .v (.map (some b3))), (10, .v (.pointer (some ⟨b4, 0, none⟩))), (46, .sl 3 ((mRealms p).map rRm)), (47, .i (mRealms p).length), (48, .i k), (11, .i k), (12, .v (.pointer (some ⟨b8, 0, none⟩))), (95, .sl 1 (r.2.2.map rI)), (96, .i r.2.2.length), (97, .i s.1)],
        [cellsR b0 36 (rPl p), cellsR b1 32 zT, mapR b2 kH DV.i (dRings k face rs), mapR b3 kI DV.i s.2, cellsR b4 32 [.i 0, .i 0, .i (k : Int), .os nilV, .os nilV, .os vf2], rowR (.slice none 0 0) 78 4 [], rowR (.slice none 0 0) 44 13 [], rowR vf2 46 2 ((dFs attrs (k + 1)).map rF), cellsR b8 75 (rRm r), cellsR b9 46 [.i (k : Int), .i attrs[k]], unitR])) (fun s => r.2.2.length - s.1) (0, alone) ⟨Nat.zero_le _, rfl⟩ ⟨rfl, rfl, rfl, rfl, rfl, rfl, rfl, rfl, rfl, rfl, rfl, rfl, rfl, rfl, lenS rfl, rfl, trivial⟩ rfl ?_
      rintro ⟨i, al⟩ ⟨hi, hM⟩
      simp only at hi hM
      refine w_seq ?_
      refine w_reg ?_
      refine Qv.step (u_p rfl rfl rfl) rfl rfl ?_
      refine o_nil ?_
      refine x_go ?_
      refine w_seq ?_
      refine w_if rfl (fun h => ?_) (fun h => ?_)
      · have hlt : i < r.2.2.length := by simpa using h
        rw [List.drop_eq_getElem_cons hlt, List.foldl_cons] at hM
        clear h
        refine w_skip ?_
        refine x_go ?_
        refine w_seq ?_
        refine w_block ?_
        refine w_seq ?_
        refine w_reg ?_
        refine Qv.step (u_ix rfl rfl rfl rfl rfl rfl rfl rfl (by omega) (by simp; omega)) rfl rfl ?_
        refine Qv.step (u_lde (r := rI r.2.2[i]) (by simp [hlt]) rfl rfl rfl rfl rfl) rfl rfl ?_
        refine Qv.step (u_p rfl rfl rfl) rfl rfl ?_
        refine o_nil ?_
        refine x_go ?_
        refine w_reg ?_
        refine Qv.step (u_p rfl rfl rfl) rfl rfl ?_
        refine Qv.step (u_p rfl rfl rfl) rfl rfl ?_
        refine Qv.step (u_p rfl rfl rfl) rfl rfl ?_
        refine o_mu 3 KI r.2.2[i] (k : Int) rfl rfl rfl rfl rfl rfl rfl rfl rfl rfl rfl ?_
        refine o_nil ?_
        refine x_go ?_
        refine w_reg ?_
        refine Qv.step (u_p rfl rfl rfl) rfl rfl ?_
        refine Qv.step (u_p rfl rfl rfl) rfl rfl ?_
        refine o_nil ?_
        exact x_rd (i + 1, mset r.2.2[i] (k : Int) al) 11 (by show r.2.2.length - (i + 1) < r.2.2.length - i; omega) ⟨by show i + 1 ≤ _; omega, hM⟩ rfl ⟨rfl, rfl, rfl, rfl, rfl, rfl, rfl, rfl, rfl, rfl, rfl, rfl, rfl, rfl, rfl, lkS rfl (by omega), trivial⟩
      
      have hge : ¬ i < r.2.2.length := by simpa using h
      clear h
      rw [List.drop_eq_nil_of_le (by omega)] at hM
      have hM : al = dAl k alone r.2.2 := hM
      subst hM
      rw [dRm, hrs] at hI
      refine w_exit ?_
      refine x_go ?_
      refine w_reg ?_
      refine Qv.step (u_p rfl rfl rfl) rfl rfl ?_
      refine Qv.step (u_p rfl rfl rfl) rfl rfl ?_
      refine o_nil ?_
      exact x_rd (k + 1, (dRings k face rs, dAl k alone r.2.2), vf2) 8 (by show (mRealms p).length - (k + 1) < (mRealms p).length - k; omega) ⟨by show k + 1 ≤ _; omega, hI⟩ rfl ⟨rfl, rfl, rfl, rfl, rfl, rfl, rfl, rfl, rfl, rfl, lkS rfl (by omega), trivial⟩
    
    · have hka : ¬ k < attrs.length := by simpa using h
      clear h
      have hatt : dFs attrs k ++ [((k : Int), 0)] = dFs attrs (k + 1) := by rw [← dFs_succ]; simp [List.getElem?_eq_none (Nat.le_of_not_lt hka)]
      have hfs : dFs attrs k ++ [((k : Int), 0)] = dFs attrs (k + 1) := hatt
      refine w_skip ?_
      refine x_go ?_
      refine w_seq ?_
      refine w_reg ?_
      refine Qv.step (u_p rfl rfl rfl) rfl rfl ?_
      refine Qv.step (u_ld 4 rfl rfl rfl rfl rfl rfl) rfl rfl ?_
      refine Qv.step (d := .agg [_, _]) (.as (u_ld 9 rfl rfl rfl rfl rfl rfl) rfl) rfl rfl ?_
      refine Qv.step (q_bsl rfl rfl rfl rfl rfl rfl rfl rfl rfl rfl rfl) rfl rfl ?_
      refine o_app 7 (L := 2000000000) (rows2 := [rF ((k : Int), 0)]) (by simp; omega) rfl rfl rfl rfl rfl rfl rfl rfl rfl rfl rfl rfl rfl rfl (by simp [one1]) ?_; intro vf2
      refine Qv.step (u_p rfl rfl rfl) rfl rfl ?_
      refine o_st 4 rfl rfl rfl rfl rfl rfl rfl rfl rfl rfl (by first | rfl | kernel_rfl) ?_
      refine o_nil ?_
      refine x_go ?_
      refine w_seq ?_
      refine w_reg ?_
      refine Qv.step (u_p rfl rfl rfl) rfl rfl ?_
      refine Qv.step (u_p rfl rfl rfl) rfl rfl ?_
      refine o_st 4 rfl rfl rfl rfl rfl rfl rfl rfl rfl rfl (by first | rfl | kernel_rfl) ?_
      refine o_nil ?_
      refine x_go ?_
      refine w_seq ?_
      refine w_seq ?_
      refine w_reg ?_
      refine Qv.step (u_p rfl rfl rfl) rfl rfl ?_
      refine Qv.step (u_ld 8 rfl rfl rfl rfl rfl rfl) rfl rfl ?_
      refine o_bso rfl rfl rfl rfl rfl rfl rfl rfl rfl rfl rfl rfl ?_; intro vb
      refine Qv.step (u_p rfl rfl rfl) rfl rfl ?_
      refine Qv.step (u_ld 8 rfl rfl rfl rfl rfl rfl) rfl rfl ?_
      refine o_app 10 (L := 2000000000) (rows := [[.sl 2 (r.1.map rH)]]) (rows2 := r.2.1.map rRg) (by simp; omega) rfl rfl rfl rfl rfl rfl rfl rfl rfl rfl rfl rfl rfl rfl (by intro x hx d hd; obtain ⟨y, _, rfl⟩ := List.mem_map.1 hx; rw [List.mem_singleton.1 hd]; rfl) ?_; intro vb2
      refine Qv.step (u_olen 10 rfl rfl rfl rfl rfl rfl rfl) rfl rfl ?_
      refine Qv.step (u_p rfl rfl rfl) rfl rfl ?_
      refine o_nil ?_
      refine x_go ?_
      refine w_frr 10 77 rfl rfl ?_
      skip
      have hm : [DV.sl 2 (r.1.map rH)] :: r.2.1.map rRg = rs.map rRg := by rw [← hrs]; rfl
      refine w_block ?_
      
      refine w_loop (fun s : Nat × List (Hlf × Int) => s.1 ≤ rs.length ∧ (rs.drop s.1).foldl (dRing k) s.2 = dRings k face rs) (fun s => ([(1, .sl 1 (attrs.map rI)), (2, .v (.pointer (some ⟨b0, 0, none⟩))), (4, .v (.pointer (some ⟨b1, 0, none⟩))), (6, mpD kH dH (aLinks p).1), (7, mpD kH dH (aLinks p).2), (8, .v (.map (some b2))), (9, .v (.map (some b3))), (10, .v (.pointer (some ⟨b4, 0, none⟩))), (46, .sl 3 ((mRealms p).map rRm)), (47, .i (mRealms p).length), (48, .i k), (11, .i k), (12, .v (.pointer (some ⟨b8, 0, none⟩))), (77, .sl 1 (rs.map rRg)), (78, .i rs.length), (79, .i s.1)],
        [cellsR b0 36 (rPl p), cellsR b1 32 zT, mapR b2 kH DV.i s.2, mapR b3 kI DV.i alone, cellsR b4 32 [.i 0, .i 0, .i (k : Int), .os nilV, .os nilV, .os vf2], rowR (.slice none 0 0) 78 4 [], rowR (.slice none 0 0) 44 13 [], rowR vf2 46 2 ((dFs attrs (k + 1)).map rF), cellsR b8 75 (rRm r), cellsR b9 46 [.i (k : Int), .i 0], unitR])) (fun s => rs.length - s.1) (0, face) ⟨Nat.zero_le _, rfl⟩ ⟨rfl, rfl, rfl, rfl, rfl, rfl, rfl, rfl, rfl, rfl, rfl, rfl, rfl, by rw [← hm]; rfl, by
          show some (DV.i (([[DV.sl 2 (r.1.map rH)]] ++ r.2.1.map rRg).length : Int)) = _
          rw [List.singleton_append, hm, List.length_map], rfl, trivial⟩ (by rw [← hfs]; simp only [List.map_append, List.map_cons, List.map_nil]; rfl) ?_
      rintro ⟨j, fc⟩ ⟨hj, hJ⟩
      simp only at hj hJ
      refine w_seq ?_
      refine w_reg ?_
      refine Qv.step (u_p rfl rfl rfl) rfl rfl ?_
      refine o_nil ?_
      refine x_go ?_
      refine w_seq ?_
      refine w_if rfl (fun h => ?_) (fun h => ?_)
      · have hlt : j < rs.length := by simpa using h
        rw [List.drop_eq_getElem_cons hlt, List.foldl_cons] at hJ
        clear h
        have hrl2 := h2 _ (List.getElem_mem hlt)
        generalize hring : rs[j] = ring at hJ hrl2
        refine w_skip ?_
        refine x_go ?_
        refine w_seq ?_
        refine w_block ?_
        refine w_seq ?_
        refine w_reg ?_
        refine Qv.step (u_ix rfl rfl rfl rfl rfl rfl rfl rfl (by omega) (by simp; omega)) rfl rfl ?_
        refine Qv.step (u_lde (r := rRg ring) (by simp [hlt, hring]) rfl rfl rfl rfl rfl) rfl rfl ?_
        refine Qv.step (u_p rfl rfl rfl) rfl rfl ?_
        refine o_nil ?_
        refine x_go ?_
        refine w_seq ?_
        refine w_reg ?_
        refine Qv.step (u_p rfl rfl rfl) rfl rfl ?_
        refine Qv.step (u_len rfl rfl rfl rfl rfl rfl) rfl rfl ?_
        refine Qv.step (u_p rfl rfl rfl) rfl rfl ?_
        refine o_nil ?_
        refine x_go ?_
        refine w_block ?_
        
        refine w_loop (fun s : Nat × List (Hlf × Int) => s.1 ≤ ring.length ∧ (ring.drop s.1).foldl (fun f h => mset h (k : Int) f) s.2 = dRing k fc ring) (fun s => ([(1, .sl 1 (attrs.map rI)), (2, .v (.pointer (some ⟨b0, 0, none⟩))), (4, .v (.pointer (some ⟨b1, 0, none⟩))), (6, mpD kH dH (aLinks p).1), (7, mpD kH dH (aLinks p).2), (8, .v (.map (some b2))), (9, .v (.map (some b3))), (10, .v (.pointer (some ⟨b4, 0, none⟩))), (46, .sl 3 ((mRealms p).map rRm)), (47, .i (mRealms p).length), (48, .i k), (11, .i k), (12, .v (.pointer (some ⟨b8, 0, none⟩))), (77, .sl 1 (rs.map rRg)), (78, .i rs.length), (79, .i j), (83, .sl 2 (ring.map rH)), (84, .i ring.length), (85, .i s.1)],
          [cellsR b0 36 (rPl p), cellsR b1 32 zT, mapR b2 kH DV.i s.2, mapR b3 kI DV.i alone, cellsR b4 32 [.i 0, .i 0, .i (k : Int), .os nilV, .os nilV, .os vf2], rowR (.slice none 0 0) 78 4 [], rowR (.slice none 0 0) 44 13 [], rowR vf2 46 2 ((dFs attrs (k + 1)).map rF), cellsR b8 75 (rRm r), cellsR b9 46 [.i (k : Int), .i 0], unitR])) (fun s => ring.length - s.1) (0, fc) ⟨Nat.zero_le _, rfl⟩ ⟨rfl, rfl, rfl, rfl, rfl, rfl, rfl, rfl, rfl, rfl, rfl, rfl, rfl, rfl, rfl, rfl, rfl, lenS rfl, rfl, trivial⟩ rfl ?_
        rintro ⟨i, fd⟩ ⟨hi, hM⟩
        simp only at hi hM
        refine w_seq ?_
        refine w_reg ?_
        refine Qv.step (u_p rfl rfl rfl) rfl rfl ?_
        refine o_nil ?_
        refine x_go ?_
        refine w_seq ?_
        refine w_if rfl (fun h => ?_) (fun h => ?_)
        · have hlt : i < ring.length := by simpa using h
          rw [List.drop_eq_getElem_cons hlt, List.foldl_cons] at hM
          clear h
          refine w_skip ?_
          refine x_go ?_
          refine w_seq ?_
          refine w_block ?_
          refine w_seq ?_
          refine w_reg ?_
          refine Qv.step (u_ix rfl rfl rfl rfl rfl rfl rfl rfl (by omega) (by simp; omega)) rfl rfl ?_
          refine Qv.step (d := .agg [_, _]) (.as (u_lde (r := rH ring[i]) (by simp [hlt]) rfl rfl rfl rfl rfl) rfl) rfl rfl ?_
          refine o_alloc rfl rfl rfl rfl rfl rfl ?_; intro b11
          refine o_st 11 rfl rfl rfl rfl rfl rfl rfl rfl rfl rfl (by first | rfl | kernel_rfl) ?_
          refine o_nil ?_
          refine x_go ?_
          refine w_reg ?_
          refine Qv.step (u_p rfl rfl rfl) rfl rfl ?_
          refine Qv.step (d := .agg [_, _]) (.as (u_ld 11 rfl rfl rfl rfl rfl rfl) rfl) rfl rfl ?_
          refine Qv.step (u_p rfl rfl rfl) rfl rfl ?_
          refine o_mu 2 KH ring[i] (k : Int) rfl rfl rfl rfl rfl rfl rfl rfl rfl rfl rfl ?_
          refine o_nil ?_
          refine x_go ?_
          refine w_reg ?_
          refine Qv.step (u_p rfl rfl rfl) rfl rfl ?_
          refine Qv.step (u_p rfl rfl rfl) rfl rfl ?_
          refine o_nil ?_
          exact x_rd (i + 1, mset ring[i] (k : Int) fd) 11 (by show ring.length - (i + 1) < ring.length - i; omega) ⟨by show i + 1 ≤ _; omega, hM⟩ rfl ⟨rfl, rfl, rfl, rfl, rfl, rfl, rfl, rfl, rfl, rfl, rfl, rfl, rfl, rfl, rfl, rfl, rfl, rfl, lkS rfl (by omega), trivial⟩
        
        have hge : ¬ i < ring.length := by simpa using h
        clear h
        rw [List.drop_eq_nil_of_le (by omega)] at hM
        rw [← hM] at hJ
        refine w_exit ?_
        refine x_go ?_
        refine w_reg ?_
        refine Qv.step (u_p rfl rfl rfl) rfl rfl ?_
        refine Qv.step (u_p rfl rfl rfl) rfl rfl ?_
        refine o_nil ?_
        exact x_rd (j + 1, fd) 11 (by show rs.length - (j + 1) < rs.length - j; omega) ⟨by show j + 1 ≤ _; omega, hJ⟩ rfl ⟨rfl, rfl, rfl, rfl, rfl, rfl, rfl, rfl, rfl, rfl, rfl, rfl, rfl, rfl, rfl, lkS rfl (by omega), trivial⟩
      
      have hge : ¬ j < rs.length := by simpa using h
      clear h
      rw [List.drop_eq_nil_of_le (by omega)] at hJ
      have hJ : fc = dRings k face rs := hJ
      subst hJ
      refine w_exit ?_
      refine x_go ?_
      refine w_seq ?_
      refine w_reg ?_
      refine Qv.step (u_p rfl rfl rfl) rfl rfl ?_
      refine Qv.step (u_ld 8 rfl rfl rfl rfl rfl rfl) rfl rfl ?_
      refine Qv.step (u_len rfl rfl rfl rfl rfl rfl) rfl rfl ?_
      refine Qv.step (u_p rfl rfl rfl) rfl rfl ?_
      refine o_nil ?_
      refine x_go ?_
      refine w_block ?_
      
      refine w_loop (fun s : Nat × List (Int × Int) => s.1 ≤ r.2.2.length ∧ (r.2.2.drop s.1).foldl (fun a v => mset v (k : Int) a) s.2 = dAl k alone r.2.2) (fun s => ([(1, .sl 1 (attrs.map rI)), (2, .v (.pointer (some ⟨b0, 0, none⟩))), (4, .v (.pointer (some ⟨b1, 0, none⟩))), (6, mpD kH dH (aLinks p).1), (7, mpD kH dH (aLinks p).2), (8, .v (.map (some b2))), (9, .v (.map (some b3))), (10, .v (.pointer (some ⟨b4, 0, none⟩))), (46, .sl 3 ((mRealms p).map rRm)), (47, .i (mRealms p).length), (48, .i k), (11, .i k), (12, .v (.pointer (some ⟨b8, 0, none⟩))), (95, .sl 1 (r.2.2.map rI)), (96, .i r.2.2.length), (97, .i s.1)],
        [cellsR b0 36 (rPl p), cellsR b1 32 zT, mapR b2 kH DV.i (dRings k face rs), mapR b3 kI DV.i s.2, cellsR b4 32 [.i 0, .i 0, .i (k : Int), .os nilV, .os nilV, .os vf2], rowR (.slice none 0 0) 78 4 [], rowR (.slice none 0 0) 44 13 [], rowR vf2 46 2 ((dFs attrs (k + 1)).map rF), cellsR b8 75 (rRm r), cellsR b9 46 [.i (k : Int), .i 0], unitR])) (fun s => r.2.2.length - s.1) (0, alone) ⟨Nat.zero_le _, rfl⟩ ⟨rfl, rfl, rfl, rfl, rfl, rfl, rfl, rfl, rfl, rfl, rfl, rfl, rfl, rfl, lenS rfl, rfl, trivial⟩ rfl ?_
      rintro ⟨i, al⟩ ⟨hi, hM⟩
      simp only at hi hM
      refine w_seq ?_
      refine w_reg ?_
      refine Qv.step (u_p rfl rfl rfl) rfl rfl ?_
      refine o_nil ?_
      refine x_go ?_
      refine w_seq ?_
      refine w_if rfl (fun h => ?_) (fun h => ?_)
      · have hlt : i < r.2.2.length := by simpa using h
        rw [List.drop_eq_getElem_cons hlt, List.foldl_cons] at hM
        clear h
        refine w_skip ?_
        refine x_go ?_
        refine w_seq ?_
        refine w_block ?_
        refine w_seq ?_
        refine w_reg ?_
        refine Qv.step (u_ix rfl rfl rfl rfl rfl rfl rfl rfl (by omega) (by simp; omega)) rfl rfl ?_
        refine Qv.step (u_lde (r := rI r.2.2[i]) (by simp [hlt]) rfl rfl rfl rfl rfl) rfl rfl ?_
        refine Qv.step (u_p rfl rfl rfl) rfl rfl ?_
        refine o_nil ?_
        refine x_go ?_
        refine w_reg ?_
        refine Qv.step (u_p rfl rfl rfl) rfl rfl ?_
        refine Qv.step (u_p rfl rfl rfl) rfl rfl ?_
        refine Qv.step (u_p rfl rfl rfl) rfl rfl ?_
        refine o_mu 3 KI r.2.2[i] (k : Int) rfl rfl rfl rfl rfl rfl rfl rfl rfl rfl rfl ?_
        refine o_nil ?_
        refine x_go ?_
        refine w_reg ?_
        refine Qv.step (u_p rfl rfl rfl) rfl rfl ?_
        refine Qv.step (u_p rfl rfl rfl) rfl rfl ?_
        refine o_nil ?_
        exact x_rd (i + 1, mset r.2.2[i] (k : Int) al) 11 (by show r.2.2.length - (i + 1) < r.2.2.length - i; omega) ⟨by show i + 1 ≤ _; omega, hM⟩ rfl ⟨rfl, rfl, rfl, rfl, rfl, rfl, rfl, rfl, rfl, rfl, rfl, rfl, rfl, rfl, rfl, lkS rfl (by omega), trivial⟩
      
      have hge : ¬ i < r.2.2.length := by simpa using h
      clear h
      rw [List.drop_eq_nil_of_le (by omega)] at hM
      have hM : al = dAl k alone r.2.2 := hM
      subst hM
      rw [dRm, hrs] at hI
      refine w_exit ?_
      refine x_go ?_
      refine w_reg ?_
      refine Qv.step (u_p rfl rfl rfl) rfl rfl ?_
      refine Qv.step (u_p rfl rfl rfl) rfl rfl ?_
      refine o_nil ?_
      exact x_rd (k + 1, (dRings k face rs, dAl k alone r.2.2), vf2) 8 (by show (mRealms p).length - (k + 1) < (mRealms p).length - k; omega) ⟨by show k + 1 ≤ _; omega, hI⟩ rfl ⟨rfl, rfl, rfl, rfl, rfl, rfl, rfl, rfl, rfl, rfl, lkS rfl (by omega), trivial⟩
  
  have hge : ¬ k < (mRealms p).length := by simpa using h
  clear h
  have hkk : k = (mRealms p).length := by omega
  subst hkk
  rw [List.drop_length] at hI
  have hI : (face, alone) = dFA p := hI
  generalize hfa : dFA p = fa at hI
  subst hI
  generalize hn : (mRealms p).length = n
  refine w_exit ?_
  refine x_go ?_
  refine w_seq ?_
  refine w_seq ?_
  refine w_reg ?_
  refine Qv.step (u_p rfl rfl rfl) rfl rfl ?_
  refine Qv.step (u_ld 0 rfl rfl rfl rfl rfl rfl) rfl rfl ?_
  refine Qv.step (u_len rfl rfl rfl rfl rfl rfl) rfl rfl ?_
  refine Qv.step (u_p rfl rfl rfl) rfl rfl ?_
  refine o_nil ?_
  refine x_go ?_
  refine w_block ?_
  
  refine w_loop (fun s : Nat × Value => s.1 ≤ p.1.length) (fun s => ([(1, .sl 1 (attrs.map rI)), (2, .v (.pointer (some ⟨b0, 0, none⟩))), (4, .v (.pointer (some ⟨b1, 0, none⟩))), (6, mpD kH dH (aLinks p).1), (7, mpD kH dH (aLinks p).2), (8, .v (.map (some b2))), (9, .v (.map (some b3))), (10, .v (.pointer (some ⟨b4, 0, none⟩))), (107, .sl 3 (p.1.map rV)), (108, .i p.1.length), (109, .i s.1)],
    [cellsR b0 36 (rPl p), cellsR b1 32 zT, mapR b2 kH DV.i face, mapR b3 kI DV.i alone, cellsR b4 32 [.i (dLv (p.1.take s.1)), .i 0, .i ((n - 1 : Nat) : Int), .os s.2, .os nilV, .os vf], rowR s.2 78 4 ((p.1.take s.1).map fun v => rVR (dVr alone v)), rowR (.slice none 0 0) 44 13 [], rowR vf 46 2 ((dFs attrs n).map rF)])) (fun s => p.1.length - s.1) (0, .slice none 0 0) (Nat.zero_le _) ⟨rfl, rfl, rfl, rfl, rfl, rfl, rfl, rfl, rfl, lenS rfl, rfl, trivial⟩ rfl ?_
  rintro ⟨k, vv⟩ hk
  simp only at hk
  refine w_seq ?_
  refine w_reg ?_
  refine Qv.step (u_p rfl rfl rfl) rfl rfl ?_
  refine o_nil ?_
  refine x_go ?_
  refine w_seq ?_
  refine w_if rfl (fun h => ?_) (fun h => ?_)
  · have hlt : k < p.1.length := by simpa using h
    clear h
    refine w_skip ?_
    refine x_go ?_
    refine w_seq ?_
    refine w_block ?_
    refine w_seq ?_
    refine w_reg ?_
    refine Qv.step (u_ix rfl rfl rfl rfl rfl rfl rfl rfl (by omega) (by simp; omega)) rfl rfl ?_
    refine Qv.step (d := .agg [_, _, _]) (.as (u_lde (r := rV p.1[k]) (by simp [hlt]) rfl rfl rfl rfl rfl) rfl) rfl rfl ?_
    refine o_alloc rfl rfl rfl rfl rfl rfl ?_; intro b8
    refine o_st 8 rfl rfl rfl rfl rfl rfl rfl rfl rfl rfl (by first | rfl | kernel_rfl) ?_
    refine o_nil ?_
    refine x_go ?_
    refine w_seq ?_
    refine w_reg ?_
    refine Qv.step (u_p rfl rfl rfl) rfl rfl ?_
    refine Qv.step (u_p rfl rfl rfl) rfl rfl ?_
    refine Qv.step (u_ld 8 rfl rfl rfl rfl rfl rfl) rfl rfl ?_
    refine Qv.step (u_lo2 3 KI p.1[k].1 (0 : Int) rfl rfl rfl rfl rfl rfl rfl rfl rfl rfl) rfl rfl ?_
    refine Qv.step (u_p rfl rfl rfl) rfl rfl ?_
    refine Qv.step (u_p rfl rfl rfl) rfl rfl ?_
    refine Qv.step (u_p rfl rfl rfl) rfl rfl ?_
    refine Qv.step (u_p rfl rfl rfl) rfl rfl ?_
    refine Qv.step (u_p rfl rfl rfl) rfl rfl ?_
    refine o_nil ?_
    refine x_go ?_
    refine w_seq ?_
    refine w_seq ?_
    refine w_reg ?_
    refine Qv.step (u_p rfl rfl rfl) rfl rfl ?_
    refine Qv.step (u_p rfl rfl rfl) rfl rfl ?_
    refine o_nil ?_
    refine x_go ?_
    refine w_if rfl (fun h => ?_) (fun h => ?_)
    · have hs : (mget p.1[k].1 alone).isSome = false := by
        cases hc : (mget p.1[k].1 alone).isSome with
        | false => rfl
        | true => rw [hc] at h; cases h
      clear h
      have hvr : dVr alone p.1[k] = (p.1[k].1, p.1[k].2, -1) := by rw [dVr, hs, if_neg (by simp)]
      refine w_reg ?_
      refine Qv.step (u_p rfl rfl rfl) rfl rfl ?_
      refine o_nil ?_
      refine x_go ?_
      refine w_seq ?_
      refine w_reg ?_
      refine Qv.step (u_p rfl rfl rfl) rfl rfl ?_
      refine Qv.step (u_ld 4 rfl rfl rfl rfl rfl rfl) rfl rfl ?_
      refine Qv.step (u_p rfl rfl rfl) rfl rfl ?_
      refine Qv.step (u_ld 8 rfl rfl rfl rfl rfl rfl) rfl rfl ?_
      refine Qv.step (u_p rfl rfl rfl) rfl rfl ?_
      refine Qv.step (d := .agg [_, _]) (.as (u_ld 8 rfl rfl rfl rfl rfl rfl) rfl) rfl rfl ?_
      refine Qv.step (u_p rfl rfl rfl) rfl rfl ?_
      refine Qv.step (d := .agg [_, _, _, _]) (.as (u_bst rfl rfl rfl rfl rfl rfl rfl rfl) rfl) rfl rfl ?_
      refine Qv.step (q_bsl rfl rfl rfl rfl rfl rfl rfl rfl rfl rfl rfl) rfl rfl ?_
      refine o_app 5 (L := 2000000000) (rows2 := [rVR (p.1[k].1, p.1[k].2, -1)]) (by simp; omega) rfl rfl rfl rfl rfl rfl rfl rfl rfl rfl rfl rfl rfl rfl (by simp [one1]) ?_; intro vv2
      refine Qv.step (u_p rfl rfl rfl) rfl rfl ?_
      refine o_st 4 rfl rfl rfl rfl rfl rfl rfl rfl rfl rfl (by first | rfl | kernel_rfl) ?_
      refine o_nil ?_
      refine x_go ?_
      refine w_reg ?_
      refine Qv.step (u_p rfl rfl rfl) rfl rfl ?_
      refine Qv.step (u_ld 8 rfl rfl rfl rfl rfl rfl) rfl rfl ?_
      refine Qv.step (u_p rfl rfl rfl) rfl rfl ?_
      refine o_st 4 rfl rfl rfl rfl rfl rfl rfl rfl rfl rfl (by first | rfl | kernel_rfl) ?_
      refine o_nil ?_
      refine x_go ?_
      refine w_reg ?_
      refine Qv.step (u_p rfl rfl rfl) rfl rfl ?_
      refine Qv.step (u_p rfl rfl rfl) rfl rfl ?_
      refine o_nil ?_
      exact x_rd (k + 1, vv2) 8 (by show p.1.length - (k + 1) < p.1.length - k; omega) (by show k + 1 ≤ _; omega) (by
        have e : p.1[k].1 = dLv (p.1.take (k + 1)) := (dLv_take hlt).symm
        have e2 : (p.1.take (k + 1)).map (fun v => rVR (dVr alone v)) = (p.1.take k).map (fun v => rVR (dVr alone v)) ++ [rVR (p.1[k].1, p.1[k].2, -1)] := by
          rw [List.take_succ_eq_append_getElem hlt, List.map_append, List.map_cons, List.map_nil, hvr]
        simp only [← e, e2]
        rfl) ⟨rfl, rfl, rfl, rfl, rfl, rfl, rfl, rfl, rfl, rfl, lkS rfl (by omega), trivial⟩
    
    · have hs : (mget p.1[k].1 alone).isSome = true := by
        cases hc : (mget p.1[k].1 alone).isSome with
        | true => rfl
        | false => rw [hc] at h; cases h
      clear h
      have hvr : dVr alone p.1[k] = (p.1[k].1, p.1[k].2, (mget p.1[k].1 alone).getD 0) := by rw [dVr, hs, if_pos rfl]
      refine w_skip ?_
      refine x_go ?_
      refine w_seq ?_
      refine w_reg ?_
      refine Qv.step (u_p rfl rfl rfl) rfl rfl ?_
      refine Qv.step (u_ld 4 rfl rfl rfl rfl rfl rfl) rfl rfl ?_
      refine Qv.step (u_p rfl rfl rfl) rfl rfl ?_
      refine Qv.step (u_ld 8 rfl rfl rfl rfl rfl rfl) rfl rfl ?_
      refine Qv.step (u_p rfl rfl rfl) rfl rfl ?_
      refine Qv.step (d := .agg [_, _]) (.as (u_ld 8 rfl rfl rfl rfl rfl rfl) rfl) rfl rfl ?_
      refine Qv.step (u_p rfl rfl rfl) rfl rfl ?_
      refine Qv.step (d := .agg [_, _, _, _]) (.as (u_bst rfl rfl rfl rfl rfl rfl rfl rfl) rfl) rfl rfl ?_
      refine Qv.step (q_bsl rfl rfl rfl rfl rfl rfl rfl rfl rfl rfl rfl) rfl rfl ?_
      refine o_app 5 (L := 2000000000) (rows2 := [rVR (p.1[k].1, p.1[k].2, (mget p.1[k].1 alone).getD 0)]) (by simp; omega) rfl rfl rfl rfl rfl rfl rfl rfl rfl rfl rfl rfl rfl rfl (by simp [one1]) ?_; intro vv2
      refine Qv.step (u_p rfl rfl rfl) rfl rfl ?_
      refine o_st 4 rfl rfl rfl rfl rfl rfl rfl rfl rfl rfl (by first | rfl | kernel_rfl) ?_
      refine o_nil ?_
      refine x_go ?_
      refine w_reg ?_
      refine Qv.step (u_p rfl rfl rfl) rfl rfl ?_
      refine Qv.step (u_ld 8 rfl rfl rfl rfl rfl rfl) rfl rfl ?_
      refine Qv.step (u_p rfl rfl rfl) rfl rfl ?_
      refine o_st 4 rfl rfl rfl rfl rfl rfl rfl rfl rfl rfl (by first | rfl | kernel_rfl) ?_
      refine o_nil ?_
      refine x_go ?_
      refine w_reg ?_
      refine Qv.step (u_p rfl rfl rfl) rfl rfl ?_
      refine Qv.step (u_p rfl rfl rfl) rfl rfl ?_
      refine o_nil ?_
      exact x_rd (k + 1, vv2) 8 (by show p.1.length - (k + 1) < p.1.length - k; omega) (by show k + 1 ≤ _; omega) (by
        have e : p.1[k].1 = dLv (p.1.take (k + 1)) := (dLv_take hlt).symm
        have e2 : (p.1.take (k + 1)).map (fun v => rVR (dVr alone v)) = (p.1.take k).map (fun v => rVR (dVr alone v)) ++ [rVR (p.1[k].1, p.1[k].2, (mget p.1[k].1 alone).getD 0)] := by
          rw [List.take_succ_eq_append_getElem hlt, List.map_append, List.map_cons, List.map_nil, hvr]
        simp only [← e, e2]
        rfl) ⟨rfl, rfl, rfl, rfl, rfl, rfl, rfl, rfl, rfl, rfl, lkS rfl (by omega), trivial⟩
  
  have hge : ¬ k < p.1.length := by simpa using h
  clear h
  have hkk : k = p.1.length := by omega
  subst hkk
  rw [List.take_length]
  refine w_exit ?_
  refine x_go ?_
  refine w_seq ?_
  refine w_seq ?_
  refine w_reg ?_
  refine Qv.step (u_p rfl rfl rfl) rfl rfl ?_
  refine Qv.step (u_ld 0 rfl rfl rfl rfl rfl rfl) rfl rfl ?_
  refine Qv.step (u_len rfl rfl rfl rfl rfl rfl) rfl rfl ?_
  refine Qv.step (u_p rfl rfl rfl) rfl rfl ?_
  refine o_nil ?_
  refine x_go ?_
  refine w_block ?_
  
  generalize hnp : aLinks p = np
  generalize hvl : (p.1.map fun v => rVR (dVr alone v)) = vl
  refine w_loop (fun s : Nat × Value => s.1 ≤ p.2.length) (fun s => ([(1, .sl 1 (attrs.map rI)), (2, .v (.pointer (some ⟨b0, 0, none⟩))), (4, .v (.pointer (some ⟨b1, 0, none⟩))), (6, mpD kH dH np.1), (7, mpD kH dH np.2), (8, .v (.map (some b2))), (9, .v (.map (some b3))), (10, .v (.pointer (some ⟨b4, 0, none⟩))), (138, .sl 3 (p.2.map rE)), (139, .i p.2.length), (140, .i s.1)],
    [cellsR b0 36 (rPl p), cellsR b1 32 zT, mapR b2 kH DV.i face, mapR b3 kI DV.i alone, cellsR b4 32 [.i (dLv p.1), .i (dLe (p.2.take s.1)), .i ((n - 1 : Nat) : Int), .os vv, .os s.2, .os vf], rowR vv 78 4 vl, rowR s.2 44 13 ((p.2.take s.1).map fun e => rER (dEr np face e)), rowR vf 46 2 ((dFs attrs n).map rF)])) (fun s => p.2.length - s.1) (0, .slice none 0 0) (Nat.zero_le _) ⟨rfl, rfl, rfl, by rw [← hnp]; rfl, by rw [← hnp]; rfl, rfl, rfl, rfl, rfl, lenS rfl, rfl, trivial⟩ rfl ?_
  rintro ⟨j, ve⟩ hj
  simp only at hj
  refine w_seq ?_
  refine w_reg ?_
  refine Qv.step (u_p rfl rfl rfl) rfl rfl ?_
  refine o_nil ?_
  refine x_go ?_
  refine w_seq ?_
  refine w_if rfl (fun h => ?_) (fun h => ?_)
  · have hlt : j < p.2.length := by simpa using h
    clear h
    generalize hRE : ((p.2.take j).map fun e => rER (dEr np face e)) = re
    have hrl : re.length < 1000000000 := by rw [← hRE]; simp; omega
    refine w_skip ?_
    refine x_go ?_
    refine w_seq ?_
    refine w_block ?_
    refine w_seq ?_
    refine w_reg ?_
    refine Qv.step (u_ix rfl rfl rfl rfl rfl rfl rfl rfl (by omega) (by simp; omega)) rfl rfl ?_
    refine Qv.step (d := .agg [_, _, _]) (.as (u_lde (r := rE p.2[j]) (by simp [hlt]) rfl rfl rfl rfl rfl) rfl) rfl rfl ?_
    refine o_alloc rfl rfl rfl rfl rfl rfl ?_; intro b8
    refine o_st 8 rfl rfl rfl rfl rfl rfl rfl rfl rfl rfl (by first | rfl | kernel_rfl) ?_
    refine o_nil ?_
    refine x_go ?_
    refine w_seq ?_
    refine w_reg ?_
    refine Qv.step (u_p rfl rfl rfl) rfl rfl ?_
    refine Qv.step (u_ld 8 rfl rfl rfl rfl rfl rfl) rfl rfl ?_
    refine Qv.step (u_p rfl rfl rfl) rfl rfl ?_
    refine Qv.step (u_ld 8 rfl rfl rfl rfl rfl rfl) rfl rfl ?_
    refine Qv.step (u_p rfl rfl rfl) rfl rfl ?_
    refine Qv.step (u_ld 8 rfl rfl rfl rfl rfl rfl) rfl rfl ?_
    refine Qv.step (d := .agg [_, _, _, _, _, _, _, _, _, _, _, _, _]) (.as (u_bst rfl rfl rfl rfl rfl rfl rfl rfl) rfl) rfl rfl ?_
    refine o_alloc rfl rfl rfl rfl rfl rfl ?_; intro b9
    refine o_st 9 rfl rfl rfl rfl rfl rfl rfl rfl rfl rfl (by first | rfl | kernel_rfl) ?_
    refine o_nil ?_
    refine x_go ?_
    refine w_seq ?_
    refine w_seq ?_
    refine w_reg ?_
    refine Qv.step (q_bsl rfl rfl rfl rfl rfl rfl rfl rfl rfl rfl rfl) rfl rfl ?_
    refine Qv.step (u_len rfl rfl rfl rfl rfl rfl) rfl rfl ?_
    refine Qv.step (u_p rfl rfl rfl) rfl rfl ?_
    refine o_nil ?_
    refine x_go ?_
    refine w_block ?_
    skip
    
    refine w_loop (fun i : Nat => i ≤ 2) (fun i => ([(1, .sl 1 (attrs.map rI)), (2, .v (.pointer (some ⟨b0, 0, none⟩))), (4, .v (.pointer (some ⟨b1, 0, none⟩))), (6, mpD kH dH np.1), (7, mpD kH dH np.2), (8, .v (.map (some b2))), (9, .v (.map (some b3))), (10, .v (.pointer (some ⟨b4, 0, none⟩))), (138, .sl 3 (p.2.map rE)), (139, .i p.2.length), (140, .i j), (25, .v (.pointer (some ⟨b8, 0, none⟩))), (26, .v (.pointer (some ⟨b9, 0, none⟩))), (151, .sl 1 [[.b false], [.b true]]), (152, .i ((2 : Nat) : Int)), (153, .i (i : Int))],
      [cellsR b0 36 (rPl p), cellsR b1 32 zT, mapR b2 kH DV.i face, mapR b3 kI DV.i alone, cellsR b4 32 [.i (dLv p.1), .i (dLe (p.2.take j)), .i ((n - 1 : Nat) : Int), .os vv, .os ve, .os vf], rowR vv 78 4 vl, rowR ve 44 13 re, rowR vf 46 2 ((dFs attrs n).map rF), cellsR b8 55 (rE p.2[j]), cellsR b9 44 (rER (eRj np face p.2[j] i))])) (fun i => 2 - i) 0 (Nat.zero_le _) ⟨rfl, rfl, rfl, rfl, rfl, rfl, rfl, rfl, rfl, rfl, rfl, rfl, rfl, rfl, rfl, rfl, trivial⟩ rfl ?_
    intro i hi
    refine w_seq ?_
    refine w_reg ?_
    refine Qv.step (u_p rfl rfl rfl) rfl rfl ?_
    refine o_nil ?_
    refine x_go ?_
    refine w_seq ?_
    refine w_if rfl (fun h => ?_) (fun h => ?_)
    · have hi2 : i = 0 ∨ i = 1 := by
        have : (i : Int) < 2 := by simpa using h
        omega
      clear h
      rcases hi2 with rfl | rfl
      · skip
        refine w_skip ?_
        refine x_go ?_
        refine w_seq ?_
        refine w_block ?_
        refine w_seq ?_
        refine w_reg ?_
        refine Qv.step (u_ix rfl rfl rfl rfl rfl rfl rfl rfl (Int.natCast_nonneg _) (by simp)) rfl rfl ?_
        refine Qv.step (u_lde (r := [.b false]) rfl rfl rfl rfl rfl rfl) rfl rfl ?_
        refine Qv.step (u_p rfl rfl rfl) rfl rfl ?_
        refine o_nil ?_
        refine x_go ?_
        refine w_seq ?_
        refine w_reg ?_
        refine Qv.step (u_p rfl rfl rfl) rfl rfl ?_
        refine Qv.step (u_ld 8 rfl rfl rfl rfl rfl rfl) rfl rfl ?_
        refine Qv.step (u_p rfl rfl rfl) rfl rfl ?_
        refine Qv.step (d := .agg [_, _]) (.as (u_bst rfl rfl rfl rfl rfl rfl rfl rfl) rfl) rfl rfl ?_
        refine o_alloc rfl rfl rfl rfl rfl rfl ?_; intro b10
        refine o_st 10 rfl rfl rfl rfl rfl rfl rfl rfl rfl rfl (by first | rfl | kernel_rfl) ?_
        refine o_nil ?_
        refine x_go ?_
        refine w_asG [cellsR _ _ [_, _], cellsR _ _ [_, _, _, _, _, _], mapR _ _ _ _, mapR _ _ _ _, cellsR _ _ [_, _, _, _, _, _], rowR _ _ _ _, rowR _ _ _ _, rowR _ _ _ _, cellsR _ _ [_, _, _], cellsR _ _ [_, _, _, _, _, _, _, _, _, _, _, _, _], cellsR _ _ [_, _]] rfl ?_
        apply d_begin1b 9 _ _ _ rfl
        refine d_qE (d := .agg [_, _]) [] (by kernel_rfl) rfl (fun _ _ _ _ => .onk (L' := []) rfl (u_ld 10 rfl rfl rfl rfl rfl rfl) rfl) ?_
        refine d_qE [0] (by kernel_rfl) rfl (fun _ _ _ _ => .onk (L' := [(161, _)]) rfl (u_call (sideF_ok p.2[j].1) Try.call19 rfl rfl rfl) rfl) ?_
        refine d_qE (d := .agg [_, _]) [] (by kernel_rfl) rfl (fun _ _ _ _ => .onk (L' := []) rfl (u_ld 10 rfl rfl rfl rfl rfl rfl) rfl) ?_
        refine d_qE [2] (by kernel_rfl) rfl (fun _ _ _ _ => .onk (L' := [(163, _)]) rfl (u_call (sideF_ok p.2[j].1) Try.call19 rfl rfl rfl) rfl) ?_
        refine d_qE (d := .agg [_, _]) [] (by kernel_rfl) rfl (fun _ _ _ _ => .onk (L' := []) rfl (u_ld 10 rfl rfl rfl rfl rfl rfl) rfl) ?_
        refine d_qE [4] (by kernel_rfl) rfl (fun _ _ _ _ => .onk (L' := [(165, _)]) rfl (u_call (sideF_ok p.2[j].1) Try.call19 rfl rfl rfl) rfl) ?_
        refine d_qE [] (by kernel_rfl) rfl (fun _ _ _ _ => .onk (L' := []) rfl (u_p rfl rfl rfl) rfl) ?_
        refine d_qE (d := .agg [_, _]) [] (by kernel_rfl) rfl (fun _ _ _ _ => .onk (L' := []) rfl (u_ld 10 rfl rfl rfl rfl rfl rfl) rfl) ?_
        refine d_qE [6, 7] (by kernel_rfl) rfl (fun _ _ _ _ => .onk (L' := [(167, _), (168, _)]) rfl (u_lr KH (p.2[j].1, false) (0, false) rfl rfl rfl rfl rfl rfl rfl rfl rfl) rfl) ?_
        refine d_qE [] (by kernel_rfl) rfl (fun _ _ _ _ => .onk (L' := []) rfl (u_p rfl rfl rfl) rfl) ?_
        refine d_qE (d := .agg [_, _]) [] (by kernel_rfl) rfl (fun _ _ _ _ => .onk (L' := []) rfl (u_ld 10 rfl rfl rfl rfl rfl rfl) rfl) ?_
        refine d_qE [9, 10] (by kernel_rfl) rfl (fun _ _ _ _ => .onk (L' := [(170, _), (171, _)]) rfl (u_lr KH (p.2[j].1, false) (0, false) rfl rfl rfl rfl rfl rfl rfl rfl rfl) rfl) ?_
        refine d_qE [] (by kernel_rfl) rfl (fun _ _ _ _ => .onk (L' := []) rfl (u_p rfl rfl rfl) rfl) ?_
        refine d_qE (d := .agg [_, _]) [] (by kernel_rfl) rfl (fun _ _ _ _ => .onk (L' := []) rfl (u_ld 10 rfl rfl rfl rfl rfl rfl) rfl) ?_
        refine d_qE [12, 13] (by kernel_rfl) rfl (fun _ _ _ _ => .onk (L' := [(173, _), (174, _)]) rfl (u_lo 2 KH (p.2[j].1, false) (0 : Int) rfl rfl rfl rfl rfl rfl rfl rfl rfl rfl) rfl) ?_
        refine d_qE [] (by kernel_rfl) rfl (fun _ _ _ _ => .onk (L' := []) rfl (u_p rfl rfl rfl) rfl) ?_
        refine d_qE [1, 15] (by kernel_rfl) rfl (fun _ _ _ _ => .onk (L' := [(162, _), (176, _)]) rfl (u_ixa rfl rfl rfl rfl rfl rfl rfl (by decide) (by decide)) rfl) ?_
        refine d_st 9 [8, 16] 0 (by kernel_rfl) rfl rfl rfl (by kernel_rfl) (fun _ _ => rfl) (fun _ _ => rfl) rfl rfl (fun _ _ => rfl) rfl rfl (by first | rfl | kernel_rfl) (fun _ _ => rfl) ?_
        refine d_qE [] (by kernel_rfl) rfl (fun _ _ _ _ => .onk (L' := []) rfl (u_p rfl rfl rfl) rfl) ?_
        refine d_qE [3, 18] (by kernel_rfl) rfl (fun _ _ _ _ => .onk (L' := [(164, _), (178, _)]) rfl (u_ixa rfl rfl rfl rfl rfl rfl rfl (by decide) (by decide)) rfl) ?_
        refine d_st 9 [11, 19] 1 (by kernel_rfl) rfl rfl rfl (by kernel_rfl) (fun _ _ => rfl) (fun _ _ => rfl) rfl rfl (fun _ _ => rfl) rfl rfl (by first | rfl | kernel_rfl) (fun _ _ => rfl) ?_
        refine d_qE [] (by kernel_rfl) rfl (fun _ _ _ _ => .onk (L' := []) rfl (u_p rfl rfl rfl) rfl) ?_
        refine d_endE (by kernel_rfl) (by kernel_rfl) (by kernel_rfl) (fun _ => rfl) (fun bs _ => so_asE (L' := [(161, _), (162, _), (163, _), (164, _), (165, _), (166, _), (167, _), (168, _), (169, _), (170, _), (171, _), (172, _), (173, _), (174, _), (175, _), (176, _), (177, _), (178, _), (179, _), (180, _)]) (G' := []) (Γ' := [_, _, _, _, _, _, _, _, _, _, _]) rfl rfl rfl ?_)
        refine Qv.step (u_ixa rfl rfl rfl rfl rfl rfl rfl (by decide) (by decide)) rfl rfl ?_
        refine o_st 9 rfl rfl rfl rfl rfl rfl rfl rfl rfl rfl (by first | rfl | kernel_rfl) ?_
        refine o_nil ?_
        refine x_go ?_
        refine w_reg ?_
        refine Qv.step (u_p rfl rfl rfl) rfl rfl ?_
        refine Qv.step (u_p rfl rfl rfl) rfl rfl ?_
        refine o_nil ?_
        exact x_rd 1 10 (by show 2 - 1 < 2 - 0; omega) (by show 1 ≤ 2; omega) rfl ⟨rfl, rfl, rfl, rfl, rfl, rfl, rfl, rfl, rfl, rfl, rfl, rfl, rfl, rfl, rfl, rfl, trivial⟩
      · skip
        refine w_skip ?_
        refine x_go ?_
        refine w_seq ?_
        refine w_block ?_
        refine w_seq ?_
        refine w_reg ?_
        refine Qv.step (u_ix rfl rfl rfl rfl rfl rfl rfl rfl (Int.natCast_nonneg _) (by simp)) rfl rfl ?_
        refine Qv.step (u_lde (r := [.b true]) rfl rfl rfl rfl rfl rfl) rfl rfl ?_
        refine Qv.step (u_p rfl rfl rfl) rfl rfl ?_
        refine o_nil ?_
        refine x_go ?_
        refine w_seq ?_
        refine w_reg ?_
        refine Qv.step (u_p rfl rfl rfl) rfl rfl ?_
        refine Qv.step (u_ld 8 rfl rfl rfl rfl rfl rfl) rfl rfl ?_
        refine Qv.step (u_p rfl rfl rfl) rfl rfl ?_
        refine Qv.step (d := .agg [_, _]) (.as (u_bst rfl rfl rfl rfl rfl rfl rfl rfl) rfl) rfl rfl ?_
        refine o_alloc rfl rfl rfl rfl rfl rfl ?_; intro b10
        refine o_st 10 rfl rfl rfl rfl rfl rfl rfl rfl rfl rfl (by first | rfl | kernel_rfl) ?_
        refine o_nil ?_
        refine x_go ?_
        refine w_asG [cellsR _ _ [_, _], cellsR _ _ [_, _, _, _, _, _], mapR _ _ _ _, mapR _ _ _ _, cellsR _ _ [_, _, _, _, _, _], rowR _ _ _ _, rowR _ _ _ _, rowR _ _ _ _, cellsR _ _ [_, _, _], cellsR _ _ [_, _, _, _, _, _, _, _, _, _, _, _, _], cellsR _ _ [_, _]] rfl ?_
        apply d_begin1b 9 _ _ _ rfl
        refine d_qE (d := .agg [_, _]) [] (by kernel_rfl) rfl (fun _ _ _ _ => .onk (L' := []) rfl (u_ld 10 rfl rfl rfl rfl rfl rfl) rfl) ?_
        refine d_qE [0] (by kernel_rfl) rfl (fun _ _ _ _ => .onk (L' := [(161, _)]) rfl (u_call (sideT_ok p.2[j].1) Try.call19 rfl rfl rfl) rfl) ?_
        refine d_qE (d := .agg [_, _]) [] (by kernel_rfl) rfl (fun _ _ _ _ => .onk (L' := []) rfl (u_ld 10 rfl rfl rfl rfl rfl rfl) rfl) ?_
        refine d_qE [2] (by kernel_rfl) rfl (fun _ _ _ _ => .onk (L' := [(163, _)]) rfl (u_call (sideT_ok p.2[j].1) Try.call19 rfl rfl rfl) rfl) ?_
        refine d_qE (d := .agg [_, _]) [] (by kernel_rfl) rfl (fun _ _ _ _ => .onk (L' := []) rfl (u_ld 10 rfl rfl rfl rfl rfl rfl) rfl) ?_
        refine d_qE [4] (by kernel_rfl) rfl (fun _ _ _ _ => .onk (L' := [(165, _)]) rfl (u_call (sideT_ok p.2[j].1) Try.call19 rfl rfl rfl) rfl) ?_
        refine d_qE [] (by kernel_rfl) rfl (fun _ _ _ _ => .onk (L' := []) rfl (u_p rfl rfl rfl) rfl) ?_
        refine d_qE (d := .agg [_, _]) [] (by kernel_rfl) rfl (fun _ _ _ _ => .onk (L' := []) rfl (u_ld 10 rfl rfl rfl rfl rfl rfl) rfl) ?_
        refine d_qE [6, 7] (by kernel_rfl) rfl (fun _ _ _ _ => .onk (L' := [(167, _), (168, _)]) rfl (u_lr KH (p.2[j].1, true) (0, false) rfl rfl rfl rfl rfl rfl rfl rfl rfl) rfl) ?_
        refine d_qE [] (by kernel_rfl) rfl (fun _ _ _ _ => .onk (L' := []) rfl (u_p rfl rfl rfl) rfl) ?_
        refine d_qE (d := .agg [_, _]) [] (by kernel_rfl) rfl (fun _ _ _ _ => .onk (L' := []) rfl (u_ld 10 rfl rfl rfl rfl rfl rfl) rfl) ?_
        refine d_qE [9, 10] (by kernel_rfl) rfl (fun _ _ _ _ => .onk (L' := [(170, _), (171, _)]) rfl (u_lr KH (p.2[j].1, true) (0, false) rfl rfl rfl rfl rfl rfl rfl rfl rfl) rfl) ?_
        refine d_qE [] (by kernel_rfl) rfl (fun _ _ _ _ => .onk (L' := []) rfl (u_p rfl rfl rfl) rfl) ?_
        refine d_qE (d := .agg [_, _]) [] (by kernel_rfl) rfl (fun _ _ _ _ => .onk (L' := []) rfl (u_ld 10 rfl rfl rfl rfl rfl rfl) rfl) ?_
        refine d_qE [12, 13] (by kernel_rfl) rfl (fun _ _ _ _ => .onk (L' := [(173, _), (174, _)]) rfl (u_lo 2 KH (p.2[j].1, true) (0 : Int) rfl rfl rfl rfl rfl rfl rfl rfl rfl rfl) rfl) ?_
        refine d_qE [] (by kernel_rfl) rfl (fun _ _ _ _ => .onk (L' := []) rfl (u_p rfl rfl rfl) rfl) ?_
        refine d_qE [1, 15] (by kernel_rfl) rfl (fun _ _ _ _ => .onk (L' := [(162, _), (176, _)]) rfl (u_ixa rfl rfl rfl rfl rfl rfl rfl (by decide) (by decide)) rfl) ?_
        refine d_st 9 [8, 16] 0 (by kernel_rfl) rfl rfl rfl (by kernel_rfl) (fun _ _ => rfl) (fun _ _ => rfl) rfl rfl (fun _ _ => rfl) rfl rfl (by first | rfl | kernel_rfl) (fun _ _ => rfl) ?_
        refine d_qE [] (by kernel_rfl) rfl (fun _ _ _ _ => .onk (L' := []) rfl (u_p rfl rfl rfl) rfl) ?_
        refine d_qE [3, 18] (by kernel_rfl) rfl (fun _ _ _ _ => .onk (L' := [(164, _), (178, _)]) rfl (u_ixa rfl rfl rfl rfl rfl rfl rfl (by decide) (by decide)) rfl) ?_
        refine d_st 9 [11, 19] 1 (by kernel_rfl) rfl rfl rfl (by kernel_rfl) (fun _ _ => rfl) (fun _ _ => rfl) rfl rfl (fun _ _ => rfl) rfl rfl (by first | rfl | kernel_rfl) (fun _ _ => rfl) ?_
        refine d_qE [] (by kernel_rfl) rfl (fun _ _ _ _ => .onk (L' := []) rfl (u_p rfl rfl rfl) rfl) ?_
        refine d_endE (by kernel_rfl) (by kernel_rfl) (by kernel_rfl) (fun _ => rfl) (fun bs _ => so_asE (L' := [(161, _), (162, _), (163, _), (164, _), (165, _), (166, _), (167, _), (168, _), (169, _), (170, _), (171, _), (172, _), (173, _), (174, _), (175, _), (176, _), (177, _), (178, _), (179, _), (180, _)]) (G' := []) (Γ' := [_, _, _, _, _, _, _, _, _, _, _]) rfl rfl rfl ?_)
        refine Qv.step (u_ixa rfl rfl rfl rfl rfl rfl rfl (by decide) (by decide)) rfl rfl ?_
        refine o_st 9 rfl rfl rfl rfl rfl rfl rfl rfl rfl rfl (by first | rfl | kernel_rfl) ?_
        refine o_nil ?_
        refine x_go ?_
        refine w_reg ?_
        refine Qv.step (u_p rfl rfl rfl) rfl rfl ?_
        refine Qv.step (u_p rfl rfl rfl) rfl rfl ?_
        refine o_nil ?_
        exact x_rd 2 10 (by show 2 - 2 < 2 - 1; omega) (by show 2 ≤ 2; omega) rfl ⟨rfl, rfl, rfl, rfl, rfl, rfl, rfl, rfl, rfl, rfl, rfl, rfl, rfl, rfl, rfl, rfl, trivial⟩
    
    have hi2 : i = 2 := by
      have : ¬ (i : Int) < 2 := by simpa using h
      omega
    clear h
    subst hi2
    refine w_exit ?_
    refine x_go ?_
    refine w_seq ?_
    refine w_reg ?_
    refine Qv.step (u_p rfl rfl rfl) rfl rfl ?_
    refine Qv.step (u_ld 4 rfl rfl rfl rfl rfl rfl) rfl rfl ?_
    refine Qv.step (d := .agg [_, _, _, _, _, _, _, _, _, _, _, _, _]) (.as (u_ld 9 rfl rfl rfl rfl rfl rfl) rfl) rfl rfl ?_
    refine Qv.step (q_bsl rfl rfl rfl rfl rfl rfl rfl rfl rfl rfl rfl) rfl rfl ?_
    refine o_app 6 (L := 2000000000) (rows2 := [rER (dEr np face p.2[j])]) (by simp; omega) rfl rfl rfl rfl rfl rfl rfl rfl rfl rfl rfl rfl rfl rfl (by simp [one1]) ?_; intro ve2
    refine Qv.step (u_p rfl rfl rfl) rfl rfl ?_
    refine o_st 4 rfl rfl rfl rfl rfl rfl rfl rfl rfl rfl (by first | rfl | kernel_rfl) ?_
    refine o_nil ?_
    refine x_go ?_
    refine w_reg ?_
    refine Qv.step (u_p rfl rfl rfl) rfl rfl ?_
    refine Qv.step (u_ld 8 rfl rfl rfl rfl rfl rfl) rfl rfl ?_
    refine Qv.step (u_p rfl rfl rfl) rfl rfl ?_
    refine o_st 4 rfl rfl rfl rfl rfl rfl rfl rfl rfl rfl (by first | rfl | kernel_rfl) ?_
    refine o_nil ?_
    refine x_go ?_
    refine w_reg ?_
    refine Qv.step (u_p rfl rfl rfl) rfl rfl ?_
    refine Qv.step (u_p rfl rfl rfl) rfl rfl ?_
    refine o_nil ?_
    exact x_rd (j + 1, ve2) 8 (by show p.2.length - (j + 1) < p.2.length - j; omega) (by show j + 1 ≤ _; omega) (by
      have e : p.2[j].1 = dLe (p.2.take (j + 1)) := (dLe_take hlt).symm
      have e2 : (p.2.take (j + 1)).map (fun e => rER (dEr np face e)) = re ++ [rER (dEr np face p.2[j])] := by
        rw [List.take_succ_eq_append_getElem hlt, List.map_append, List.map_cons, List.map_nil, hRE]
      simp only [← e, e2]
      rfl) ⟨rfl, rfl, rfl, rfl, rfl, rfl, rfl, rfl, rfl, rfl, lkS rfl (by omega), trivial⟩
  
  have hge : ¬ j < p.2.length := by simpa using h
  clear h
  have hjj : j = p.2.length := by omega
  subst hjj
  rw [List.take_length]
  refine w_exit ?_
  refine x_go ?_
  refine w_seq ?_
  refine w_seq ?_
  refine w_reg ?_
  refine Qv.step (u_p rfl rfl rfl) rfl rfl ?_
  refine Qv.step (u_ld 4 rfl rfl rfl rfl rfl rfl) rfl rfl ?_
  refine Qv.step (u_p rfl rfl rfl) rfl rfl ?_
  refine Qv.step (u_p rfl rfl rfl) rfl rfl ?_
  refine Qv.step (d := .gd _ _ _) (.as (q_p (G := [(_, false)]) rfl rfl rfl rfl) rfl) rfl rfl ?_
  refine Qv.step (d := .gd _ _ _) (.as (q_ld (G := [(_, false)]) 4 rfl rfl rfl rfl rfl rfl rfl) rfl) rfl rfl ?_
  refine Qv.step (d := .gd _ _ _) (.as (q_p (G := [(_, false)]) rfl rfl rfl rfl) rfl) rfl rfl ?_
  refine Qv.step (d := .v _) (.as (u_pick rfl rfl rfl rfl rfl rfl rfl rfl rfl) rfl) rfl rfl ?_
  refine o_nil ?_
  refine x_go ?_
  refine w_if rfl (fun h => ?_) (fun h => ?_)
  · have hb : dBig p = true := Eq.trans (by unfold dBig; cases decide (dLv p.1 > 1099511627776) <;> rfl) h
    refine w_seq ?_
    refine w_reg ?_
    refine Qv.step (d := .agg [_, _, _, _, _, _]) (.as (u_bst rfl rfl rfl rfl rfl rfl rfl rfl) rfl) rfl rfl ?_
    refine o_st 1 rfl rfl rfl rfl rfl rfl rfl rfl rfl rfl (by first | rfl | kernel_rfl) ?_
    refine Qv.step (u_p rfl rfl rfl) rfl rfl ?_
    refine o_nil ?_
    refine x_go ?_
    have hd : dDraw p attrs = (zTab, 1) := by rw [dDraw, if_neg (by rw [h']; simp), if_pos hb]
    rw [hd]
    refine w_nil 78 4 ?_
    refine w_nil 44 13 ?_
    refine w_nil 46 2 ?_
    exact w_ret (x_ow3 8 9 10 (.slice none 0 0, .slice none 0 0, .slice none 0 0) rfl rfl rfl rfl rfl rfl (rs_c 1 rfl rfl rfl rfl) (rs_t rfl) rfl)
  
  have hb : dBig p = false := Eq.trans (by unfold dBig; cases decide (dLv p.1 > 1099511627776) <;> rfl) h
  clear h
  have hd : dDraw p attrs = (⟨dLv p.1, dLe p.2, ((n - 1 : Nat) : Int), p.1.map (dVr alone), p.2.map (dEr np face), dFs attrs n⟩, 0) := by
    rw [dDraw, if_neg (by rw [h']; simp), if_neg (by rw [hb]; simp), dTb, hfa, hnp, hn]
  refine w_skip ?_
  refine x_go ?_
  refine w_seq ?_
  refine w_reg ?_
  refine Qv.step (d := .agg [_, _, _, _, _, _]) (.as (u_ld 4 rfl rfl rfl rfl rfl rfl) rfl) rfl rfl ?_
  refine o_st 1 rfl rfl rfl rfl rfl rfl rfl rfl rfl rfl (by first | rfl | kernel_rfl) ?_
  refine Qv.step (u_p rfl rfl rfl) rfl rfl ?_
  refine o_nil ?_
  refine x_go ?_
  rw [hd]
  have e1 : (p.1.map (dVr alone)).map rVR = vl := by rw [List.map_map, ← hvl]; rfl
  have e2 : (p.2.map (dEr np face)).map rER = p.2.map fun e => rER (dEr np face e) := by rw [List.map_map]; rfl
  exact w_ret (x_ow3 5 6 7 (vv, ve, vf) (by show starR [rowR vv _ 4 ((p.1.map (dVr alone)).map rVR), rowR ve _ 13 ((p.2.map (dEr np face)).map rER), _] = _; rw [e1, e2]) rfl rfl rfl rfl rfl (rs_c 1 rfl rfl rfl rfl) (rs_t rfl) rfl)

theorem tab_free (t : Tab) (e : Int) (x : Value × Value × Value) (A A' : Nat → Prop) (w : World) (v : Value) (hr : (tabR t x).ok A w) (hA : ∀ b, A' b → A b ∧ ¬ (tabR t x).fp b) (h : Rep A w v (dTabO t e x)) : Rep A' w v (.tup [dTab t, .i e]) := by
  have hf : ∀ r ∈ tabL t x, ∀ b, r.fp b → ¬ A' b := fun r hr b hb hA' => (hA b hA').2 ⟨r, hr, hb⟩
  have hA1 : ∀ b, b < w.heap.size → A' b → A b := fun b _ h => (hA b h).1
  have m1 : rowR x.1 78 4 (t.vs.map rVR) ∈ tabL t x := by simp [tabL]
  have m2 : rowR x.2.1 44 13 (t.es.map rER) ∈ tabL t x := by simp [tabL]
  have m3 : rowR x.2.2 46 2 (t.fs.map rF) ∈ tabL t x := by simp [tabL]
  have h1 : Rep A' w x.1 (.sl 4 (t.vs.map rVR)) := rowR_rep (hr.1 _ m1) hA1 fun b hb => hf _ m1 b hb
  have h2 : Rep A' w x.2.1 (.sl 13 (t.es.map rER)) := rowR_rep (hr.1 _ m2) hA1 fun b hb => hf _ m2 b hb
  have h3 : Rep A' w x.2.2 (.sl 2 (t.fs.map rF)) := rowR_rep (hr.1 _ m3) hA1 fun b hb => hf _ m3 b hb
  cases h with
  | tup cs _ hl hcs =>
    match cs, hl with
    | [c1, c2], _ =>
      have g1 := hcs 0 c1 _ rfl rfl
      have g2 := (hcs 1 c2 _ rfl rfl).v_inv
      subst g2
      have key : Rep A' w c1 (dTab t) := by
        cases g1 with
        | agg ds _ hl' hds =>
          match ds, hl' with
          | [a1, a2, a3, a4, a5, a6], _ =>
            have q1 := (hds 0 a1 _ rfl rfl).v_inv
            have q2 := (hds 1 a2 _ rfl rfl).v_inv
            have q3 := (hds 2 a3 _ rfl rfl).v_inv
            have q4 := (hds 3 a4 _ rfl rfl).os_inv
            have q5 := (hds 4 a5 _ rfl rfl).os_inv
            have q6 := (hds 5 a6 _ rfl rfl).os_inv
            subst q1 q2 q3 q4 q5 q6
            have hL : RepL A' w [.int .i64 t.lv, .int .i64 t.le, .int .i64 t.lf, x.1, x.2.1, x.2.2] (rTab t) := RepL.cons (.v _) (RepL.cons (.v _) (RepL.cons (.v _) (RepL.cons h1 (RepL.cons h2 (RepL.cons h3 RepL.nil)))))
            exact .agg _ _ hL.1 hL.2
      have hL : RepL A' w [c1, .int .i64 e] [dTab t, .i e] := RepL.cons key (RepL.cons (.v _) RepL.nil)
      exact .tup _ _ hL.1 hL.2
theorem Draw_ok (p : Pln) (attrs : List Int) (hp : p.1.length < 100000000) (hp2 : p.2.length < 100000000) (ha : Sh attrs) (hT : pRight p = true → TOk p) : FunOk cx 6 [dPl p, .sl 1 (attrs.map rI)] (.tup [dTab (dDraw p attrs).1, .i (dDraw p attrs).2]) :=
  (Draw_ow p attrs hp hp2 ha hT).free fun x A A' w v h1 h2 h3 => tab_free _ _ x A A' w v h1 h2 h3
end Go.Proofs.Ytcdakcemcehfiaa
