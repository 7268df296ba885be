/- plan: contracts. -/
import Derived.Test.YtcdakcemcehfiaaCtx
import Derived.Test.YtcdakcemcehfiaaSxl
import Derived.Test.YtcdakcemcehfiaaGeo
namespace Go.Proofs.Ytcdakcemcehfiaa
open Go
set_option maxRecDepth 100000

abbrev Vtx := Int × Pt
abbrev Edg := Int × Int × Int
abbrev Pln := List Vtx × List Edg
@[reducible] def rV (v : Vtx) : List DV := [.i v.1, .i v.2.1, .i v.2.2]
@[reducible] def rE (e : Edg) : List DV := [.i e.1, .i e.2.1, .i e.2.2]
@[reducible] def dV (v : Vtx) : DV := .agg (rV v)
@[reducible] def dE (e : Edg) : DV := .agg (rE e)
@[reducible] def rPl (p : Pln) : List DV := [.sl 3 (p.1.map rV), .sl 3 (p.2.map rE)]
@[reducible] def dPl (p : Pln) : DV := .agg (rPl p)
/-- So short that counting along it is exact. -/
def Sh {α : Type} (l : List α) : Prop := l.length < 4611686018427387904

theorem lenS {K : Kn} {s : Nat} {α : Type} {f : α → List DV} {l : List α} (h : lk K s = some (.i ((l.map f).length : Int))) : lk K s = some (.i l.length) := by rw [h, List.length_map]

def pOnWay (p : Pln) (a b : Pt) : Bool := p.1.any fun v => gOn v.2 a b
theorem onWay_ok (p : Pln) (hp : Sh p.1) (a b : Pt) : FunOk cx 28 [dPl p, dPt a, dPt b] (.b (pOnWay p a b)) := by
  have hp : p.1.length < 4611686018427387904 := hp
  refine fn_ok (c := _) _ Try.func28 rfl Try.ntmps28 rfl fun A w => ?_
  refine w_seq ?_
  refine w_reg ?_
  refine o_box rfl rfl rfl rfl rfl rfl ?_; intro b0
  refine o_box rfl rfl rfl rfl rfl rfl ?_; intro b1
  refine o_box rfl rfl rfl rfl rfl rfl ?_; intro b2
  refine Qv.step (u_p rfl rfl rfl) rfl rfl ?_
  refine o_nil ?_
  refine x_go ?_
  refine w_seq ?_
  refine w_seq ?_
  refine w_reg ?_
  refine Qv.step (u_p rfl rfl rfl) rfl rfl ?_
  refine Qv.step (u_ld 0 rfl rfl rfl rfl rfl rfl) rfl rfl ?_
  refine Qv.step (u_len rfl rfl rfl rfl rfl rfl) rfl rfl ?_
  refine Qv.step (u_p rfl rfl rfl) rfl rfl ?_
  refine o_nil ?_
  refine x_go ?_
  refine w_block ?_
  
  refine w_loop (fun k : Nat => k ≤ p.1.length ∧ (p.1.drop k).any (fun v => gOn v.2 a b) = pOnWay p a b) (fun k => ([(10, .sl 3 (p.1.map rV)), (11, .i p.1.length), (12, .i k), (4, .v (.pointer (some ⟨b1, 0, none⟩))), (5, .v (.pointer (some ⟨b2, 0, none⟩)))],
    [cellsR b0 36 (rPl p), cellsR b1 50 (rPt a), cellsR b2 50 (rPt b)])) (fun k => p.1.length - k) 0 ⟨Nat.zero_le _, rfl⟩ ⟨rfl, lenS rfl, rfl, rfl, rfl, trivial⟩ rfl ?_
  rintro k ⟨hk, hI⟩
  refine w_seq ?_
  refine w_reg ?_
  refine Qv.step (u_p rfl rfl rfl) rfl rfl ?_
  refine o_nil ?_
  refine x_go ?_
  refine w_seq ?_
  refine w_if rfl (fun h => ?_) (fun h => ?_)
  · have hlt : k < p.1.length := by simpa using h
    rw [List.drop_eq_getElem_cons hlt, List.any_cons] at hI
    refine w_skip ?_
    refine x_go ?_
    refine w_seq ?_
    refine w_block ?_
    refine w_seq ?_
    refine w_reg ?_
    refine Qv.step (u_ix rfl rfl rfl rfl rfl rfl rfl rfl (by omega) (by simp; omega)) rfl rfl ?_
    refine Qv.step (d := .agg [_, _, _]) (.as (u_lde (r := rV p.1[k]) (by simp [hlt]) rfl rfl rfl rfl rfl) rfl) rfl rfl ?_
    refine o_alloc rfl rfl rfl rfl rfl rfl ?_; intro b3
    refine o_st 3 rfl rfl rfl rfl rfl rfl rfl rfl rfl rfl (by first | rfl | kernel_rfl) ?_
    refine o_nil ?_
    refine x_go ?_
    refine w_seq ?_
    refine w_reg ?_
    refine Qv.step (u_p rfl rfl rfl) rfl rfl ?_
    refine Qv.step (d := .agg [_, _]) (.as (u_ld 3 rfl rfl rfl rfl rfl rfl) rfl) rfl rfl ?_
    refine Qv.step (d := .agg [_, _]) (.as (u_ld 1 rfl rfl rfl rfl rfl rfl) rfl) rfl rfl ?_
    refine Qv.step (d := .agg [_, _]) (.as (u_ld 2 rfl rfl rfl rfl rfl rfl) rfl) rfl rfl ?_
    refine Qv.step (u_call (On_ok p.1[k].2 a b) Try.call36 rfl rfl rfl) rfl rfl ?_
    refine o_nil ?_
    refine x_go ?_
    clear h
    refine w_if rfl (fun h => ?_) (fun h => ?_)
    · refine w_seq ?_
      refine w_reg ?_
      refine Qv.step (u_p rfl rfl rfl) rfl rfl ?_
      refine o_nil ?_
      refine x_go ?_
      refine w_ret (x_rt rfl rfl ?_)
      rw [← hI, h, Bool.true_or]
    
    · refine w_skip ?_
      refine x_go ?_
      refine w_reg ?_
      refine Qv.step (u_p rfl rfl rfl) rfl rfl ?_
      refine Qv.step (u_p rfl rfl rfl) rfl rfl ?_
      refine o_nil ?_
      rw [h, Bool.false_or] at hI
      exact x_rd (k + 1) 3 (by omega) ⟨by omega, hI⟩ rfl ⟨rfl, rfl, lkS rfl (by omega), rfl, rfl, trivial⟩
  
  · have hge : ¬ k < p.1.length := by simpa using h
    refine w_exit ?_
    refine x_go ?_
    refine w_seq ?_
    refine w_reg ?_
    refine Qv.step (u_p rfl rfl rfl) rfl rfl ?_
    refine o_nil ?_
    refine x_go ?_
    refine w_ret (x_rt rfl rfl ?_)
    rw [← hI, List.drop_eq_nil_of_le (by omega)]
    rfl

def pEnds (e : Edg) : Int × Int := (if e.2.2 < e.2.1 then e.2.2 else e.2.1, if e.2.1 < e.2.2 then e.2.2 else e.2.1)
theorem ends_ok (e : Edg) : FunOk cx 27 [dE e] (dPt (pEnds e)) := by
  refine fn_ok (c := _) _ Try.func27 rfl Try.ntmps27 rfl fun A w => ?_
  refine w_seq ?_
  refine w_reg ?_
  refine o_box rfl rfl rfl rfl rfl rfl ?_; intro b0
  refine o_alloc rfl rfl rfl rfl rfl rfl ?_; intro b1
  refine o_nil ?_
  refine x_go ?_
  refine w_seq ?_
  refine w_reg ?_
  refine Qv.step (u_p rfl rfl rfl) rfl rfl ?_
  refine Qv.step (u_ld 0 rfl rfl rfl rfl rfl rfl) rfl rfl ?_
  refine Qv.step (u_p rfl rfl rfl) rfl rfl ?_
  refine Qv.step (u_ld 0 rfl rfl rfl rfl rfl rfl) rfl rfl ?_
  refine Qv.step (u_min rfl rfl rfl rfl) rfl rfl ?_
  refine Qv.step (u_p rfl rfl rfl) rfl rfl ?_
  refine Qv.step (u_ld 0 rfl rfl rfl rfl rfl rfl) rfl rfl ?_
  refine Qv.step (u_p rfl rfl rfl) rfl rfl ?_
  refine Qv.step (u_ld 0 rfl rfl rfl rfl rfl rfl) rfl rfl ?_
  refine Qv.step (u_max rfl rfl rfl rfl) rfl rfl ?_
  refine Qv.step (d := .agg [_, _]) (.as (u_bar rfl rfl rfl rfl rfl rfl rfl rfl) rfl) rfl rfl ?_
  refine o_st 1 rfl rfl rfl rfl rfl rfl rfl rfl rfl rfl (by first | rfl | kernel_rfl) ?_
  refine o_nil ?_
  refine x_go ?_
  exact w_ret (x_r1 rfl (rs_c 1 rfl rfl rfl rfl) rfl)

/-- Where the vertices are. -/
def pAt (m : List (Int × Pt)) (vs : List Vtx) : List (Int × Pt) := vs.foldl (fun m v => mset v.1 v.2 m) m
def pPt (m : List (Int × Pt)) (id : Int) : Pt := (mget id m).getD (0, 0)
def pCrossed (p : Pln) (a b : Pt) : Bool := p.2.any fun e => gMeet a b (pPt (pAt [] p.1) e.2.1) (pPt (pAt [] p.1) e.2.2)
theorem crossed_ok (p : Pln) (hp : Sh p.1) (hp2 : Sh p.2) (a b : Pt) : FunOk cx 29 [dPl p, dPt a, dPt b] (.b (pCrossed p a b)) := by
  have hp : p.1.length < 4611686018427387904 := hp
  have hp2 : p.2.length < 4611686018427387904 := hp2
  refine fn_ok (c := _) _ Try.func29 rfl Try.ntmps29 rfl fun A w => ?_
  refine w_seq ?_
  refine w_reg ?_
  refine o_box rfl rfl rfl rfl rfl rfl ?_; intro b0
  refine o_box rfl rfl rfl rfl rfl rfl ?_; intro b1
  refine o_box rfl rfl rfl rfl rfl rfl ?_; intro b2
  refine Qv.step (u_p rfl rfl rfl) rfl rfl ?_
  refine o_nil ?_
  refine x_go ?_
  refine w_seq ?_
  refine w_reg ?_
  refine o_mk kI dPt rfl rfl rfl rfl ?_; intro b3
  refine Qv.step (u_p rfl rfl rfl) rfl rfl ?_
  refine o_nil ?_
  refine x_go ?_
  refine w_seq ?_
  refine w_seq ?_
  refine w_reg ?_
  refine Qv.step (u_p rfl rfl rfl) rfl rfl ?_
  refine Qv.step (u_ld 0 rfl rfl rfl rfl rfl rfl) rfl rfl ?_
  refine Qv.step (u_len rfl rfl rfl rfl rfl rfl) rfl rfl ?_
  refine Qv.step (u_p rfl rfl rfl) rfl rfl ?_
  refine o_nil ?_
  refine x_go ?_
  refine w_block ?_
  
  refine w_loop (fun s : Nat × List (Int × Pt) => s.1 ≤ p.1.length ∧ pAt s.2 (p.1.drop s.1) = pAt [] p.1) (fun s => ([(14, .sl 3 (p.1.map rV)), (15, .i p.1.length), (16, .i s.1), (3, .v (.pointer (some ⟨b0, 0, none⟩))), (4, .v (.pointer (some ⟨b1, 0, none⟩))), (5, .v (.pointer (some ⟨b2, 0, none⟩))), (7, .v (.map (some b3)))],
    [cellsR b0 36 (rPl p), cellsR b1 50 (rPt a), cellsR b2 50 (rPt b), mapR b3 kI dPt s.2])) (fun s => p.1.length - s.1) (0, []) ⟨Nat.zero_le _, rfl⟩ ⟨rfl, lenS rfl, rfl, rfl, rfl, rfl, rfl, trivial⟩ rfl ?_
  rintro ⟨k, m⟩ ⟨hk, hI⟩
  refine w_seq ?_
  refine w_reg ?_
  refine Qv.step (u_p rfl rfl rfl) rfl rfl ?_
  refine o_nil ?_
  refine x_go ?_
  refine w_seq ?_
  refine w_if rfl (fun h => ?_) (fun h => ?_)
  · have hlt : k < p.1.length := by simpa using h
    rw [List.drop_eq_getElem_cons hlt, pAt, List.foldl_cons] at hI
    refine w_skip ?_
    refine x_go ?_
    refine w_seq ?_
    refine w_block ?_
    refine w_seq ?_
    refine w_reg ?_
    refine Qv.step (u_ix rfl rfl rfl rfl rfl rfl rfl rfl (by omega) (by simp; omega)) rfl rfl ?_
    refine Qv.step (d := .agg [_, _, _]) (.as (u_lde (r := rV p.1[k]) (by simp [hlt]) rfl rfl rfl rfl rfl) rfl) rfl rfl ?_
    refine o_alloc rfl rfl rfl rfl rfl rfl ?_; intro b4
    refine o_st 4 rfl rfl rfl rfl rfl rfl rfl rfl rfl rfl (by first | rfl | kernel_rfl) ?_
    refine o_nil ?_
    refine x_go ?_
    refine w_reg ?_
    refine Qv.step (u_p rfl rfl rfl) rfl rfl ?_
    refine Qv.step (u_p rfl rfl rfl) rfl rfl ?_
    refine Qv.step (u_ld 4 rfl rfl rfl rfl rfl rfl) rfl rfl ?_
    refine Qv.step (u_p rfl rfl rfl) rfl rfl ?_
    refine Qv.step (d := .agg [_, _]) (.as (u_ld 4 rfl rfl rfl rfl rfl rfl) rfl) rfl rfl ?_
    refine o_mu 3 KI p.1[k].1 p.1[k].2 rfl rfl rfl rfl rfl rfl rfl rfl rfl rfl rfl ?_
    refine o_nil ?_
    refine x_go ?_
    refine w_reg ?_
    refine Qv.step (u_p rfl rfl rfl) rfl rfl ?_
    refine Qv.step (u_p rfl rfl rfl) rfl rfl ?_
    refine o_nil ?_
    exact x_rd (k + 1, mset p.1[k].1 p.1[k].2 m) 4 (by show p.1.length - (k + 1) < p.1.length - k; omega) ⟨by show k + 1 ≤ _; omega, hI⟩ rfl ⟨rfl, rfl, lkS rfl (by omega), rfl, rfl, rfl, rfl, trivial⟩
  
  have hge : ¬ k < p.1.length := by simpa using h
  have hm : m = pAt [] p.1 := by
    rw [← hI]
    simp only
    rw [List.drop_eq_nil_of_le (by omega)]
    rfl
  clear hI h
  subst hm
  refine w_exit ?_
  refine x_go ?_
  refine w_seq ?_
  refine w_seq ?_
  refine w_reg ?_
  refine Qv.step (u_p rfl rfl rfl) rfl rfl ?_
  refine Qv.step (u_ld 0 rfl rfl rfl rfl rfl rfl) rfl rfl ?_
  refine Qv.step (u_len rfl rfl rfl rfl rfl rfl) rfl rfl ?_
  refine Qv.step (u_p rfl rfl rfl) rfl rfl ?_
  refine o_nil ?_
  refine x_go ?_
  refine w_block ?_
  
  refine w_loop (fun k : Nat => k ≤ p.2.length ∧ (p.2.drop k).any (fun e => gMeet a b (pPt (pAt [] p.1) e.2.1) (pPt (pAt [] p.1) e.2.2)) = pCrossed p a b) (fun k => ([(27, .sl 3 (p.2.map rE)), (28, .i p.2.length), (29, .i k), (4, .v (.pointer (some ⟨b1, 0, none⟩))), (5, .v (.pointer (some ⟨b2, 0, none⟩))), (7, .v (.map (some b3)))],
    [cellsR b0 36 (rPl p), cellsR b1 50 (rPt a), cellsR b2 50 (rPt b), mapR b3 kI dPt (pAt [] p.1)])) (fun k => p.2.length - k) 0 ⟨Nat.zero_le _, rfl⟩ ⟨rfl, lenS rfl, rfl, rfl, rfl, rfl, trivial⟩ rfl ?_
  rintro k ⟨hk, hI⟩
  refine w_seq ?_
  refine w_reg ?_
  refine Qv.step (u_p rfl rfl rfl) rfl rfl ?_
  refine o_nil ?_
  refine x_go ?_
  refine w_seq ?_
  refine w_if rfl (fun h => ?_) (fun h => ?_)
  · have hlt : k < p.2.length := by simpa using h
    rw [List.drop_eq_getElem_cons hlt, List.any_cons] at hI
    refine w_skip ?_
    refine x_go ?_
    refine w_seq ?_
    refine w_block ?_
    refine w_seq ?_
    refine w_reg ?_
    refine Qv.step (u_ix rfl rfl rfl rfl rfl rfl rfl rfl (by omega) (by simp; omega)) rfl rfl ?_
    refine Qv.step (d := .agg [_, _, _]) (.as (u_lde (r := rE p.2[k]) (by simp [hlt]) rfl rfl rfl rfl rfl) rfl) rfl rfl ?_
    refine o_alloc rfl rfl rfl rfl rfl rfl ?_; intro b4
    refine o_st 4 rfl rfl rfl rfl rfl rfl rfl rfl rfl rfl (by first | rfl | kernel_rfl) ?_
    refine o_nil ?_
    refine x_go ?_
    refine w_seq ?_
    refine w_reg ?_
    refine Qv.step (d := .agg [_, _]) (.as (u_ld 1 rfl rfl rfl rfl rfl rfl) rfl) rfl rfl ?_
    refine Qv.step (d := .agg [_, _]) (.as (u_ld 2 rfl rfl rfl rfl rfl rfl) rfl) rfl rfl ?_
    refine Qv.step (u_p rfl rfl rfl) rfl rfl ?_
    refine Qv.step (u_p rfl rfl rfl) rfl rfl ?_
    refine Qv.step (u_ld 4 rfl rfl rfl rfl rfl rfl) rfl rfl ?_
    refine Qv.step (u_lo 3 KI p.2[k].2.1 (0, 0) rfl rfl rfl rfl rfl rfl rfl rfl rfl rfl) rfl rfl ?_
    refine Qv.step (u_p rfl rfl rfl) rfl rfl ?_
    refine Qv.step (u_p rfl rfl rfl) rfl rfl ?_
    refine Qv.step (u_ld 4 rfl rfl rfl rfl rfl rfl) rfl rfl ?_
    refine Qv.step (u_lo 3 KI p.2[k].2.2 (0, 0) rfl rfl rfl rfl rfl rfl rfl rfl rfl rfl) rfl rfl ?_
    refine Qv.step (u_call (Meet_ok a b (pPt (pAt [] p.1) p.2[k].2.1) (pPt (pAt [] p.1) p.2[k].2.2)) Try.call37 rfl rfl rfl) rfl rfl ?_
    refine o_nil ?_
    refine x_go ?_
    clear h
    refine w_if rfl (fun h => ?_) (fun h => ?_)
    · refine w_seq ?_
      refine w_reg ?_
      refine Qv.step (u_p rfl rfl rfl) rfl rfl ?_
      refine o_nil ?_
      refine x_go ?_
      refine w_ret (x_rt rfl rfl ?_)
      rw [← hI, h, Bool.true_or]
    
    · refine w_skip ?_
      refine x_go ?_
      refine w_reg ?_
      refine Qv.step (u_p rfl rfl rfl) rfl rfl ?_
      refine Qv.step (u_p rfl rfl rfl) rfl rfl ?_
      refine o_nil ?_
      rw [h, Bool.false_or] at hI
      exact x_rd (k + 1) 4 (by omega) ⟨by omega, hI⟩ rfl ⟨rfl, rfl, lkS rfl (by omega), rfl, rfl, rfl, trivial⟩
  
  · have hge : ¬ k < p.2.length := by simpa using h
    refine w_exit ?_
    refine x_go ?_
    refine w_seq ?_
    refine w_reg ?_
    refine Qv.step (u_p rfl rfl rfl) rfl rfl ?_
    refine o_nil ?_
    refine x_go ?_
    refine w_ret (x_rt rfl rfl ?_)
    rw [← hI, List.drop_eq_nil_of_le (by omega)]
    rfl

/-- Right's first loop: the vertices; it hands back where they are. -/
def pRv (last : Int) (at_ : List (Int × Pt)) (met : List (Pt × Bool)) : List Vtx → Option (List (Int × Pt))
  | [] => some at_
  | v :: vs => if (decide (v.1 ≤ last) || !gIn v.2) || (mget v.2 met).getD false then none else pRv v.1 (mset v.1 v.2 at_) (mset v.2 true met) vs
def pEbad (p : Pln) (at_ : List (Int × Pt)) (last : Int) (pairs : List ((Int × Int) × Bool)) (e : Edg) : Bool :=
  ((((decide (e.1 ≤ last) || !(mget e.2.1 at_).isSome) || !(mget e.2.2 at_).isSome) || (e.2.1 == e.2.2)) || (mget (pEnds e) pairs).getD false) || pOnWay p (pPt at_ e.2.1) (pPt at_ e.2.2)
/-- Right's second loop: the edges. -/
def pRe (p : Pln) (at_ : List (Int × Pt)) : Nat → Int → List ((Int × Int) × Bool) → List Edg → Bool
  | _, _, _, [] => true
  | k, last, pairs, e :: es => if pEbad p at_ last pairs e then false else if pCrossed (p.1, p.2.take k) (pPt at_ e.2.1) (pPt at_ e.2.2) then false else pRe p at_ (k + 1) e.1 (mset (pEnds e) true pairs) es
def pRight (p : Pln) : Bool :=
  if decide ((p.1.length : Int) > 512) || decide ((p.2.length : Int) > 1024) then false else
  match pRv 0 [] [] p.1 with
  | none => false
  | some at_ => pRe p at_ 0 0 [] p.2

theorem Right_ok (p : Pln) (hp : Sh p.1) (hp2 : Sh p.2) : FunOk cx 14 [dPl p] (.b (pRight p)) := by
  have hq : p.1.length < 4611686018427387904 := hp
  have hq2 : p.2.length < 4611686018427387904 := hp2
  refine fn_ok (c := _) _ Try.func14 rfl Try.ntmps14 rfl fun A w => ?_
  refine w_seq ?_
  refine w_reg ?_
  refine o_box rfl rfl rfl rfl rfl rfl ?_; intro b0
  refine Qv.step (u_p rfl rfl rfl) rfl rfl ?_
  refine o_nil ?_
  refine x_go ?_
  refine w_seq ?_
  refine w_seq ?_
  refine w_reg ?_
  refine Qv.step (u_p rfl rfl rfl) rfl rfl ?_
  refine Qv.step (u_ld 0 rfl rfl rfl rfl rfl rfl) rfl rfl ?_
  refine Qv.step (u_len rfl rfl rfl rfl rfl rfl) rfl rfl ?_
  refine Qv.step (u_p rfl rfl rfl) rfl rfl ?_
  refine Qv.step (u_p rfl rfl rfl) rfl rfl ?_
  refine Qv.step (d := .gd _ _ _) (.as (q_p (G := [(_, false)]) rfl rfl rfl rfl) rfl) rfl rfl ?_
  refine Qv.step (d := .gd _ _ _) (.as (q_ld (G := [(_, false)]) 0 rfl rfl rfl rfl rfl rfl rfl) rfl) rfl rfl ?_
  refine Qv.step (d := .gd _ _ _) (.as (q_len (G := [(_, false)]) rfl rfl rfl rfl rfl rfl rfl) rfl) rfl rfl ?_
  refine Qv.step (d := .gd _ _ _) (.as (q_p (G := [(_, false)]) rfl rfl rfl rfl) rfl) rfl rfl ?_
  refine Qv.step (d := .v _) (.as (u_pick rfl rfl rfl rfl rfl rfl rfl rfl rfl) rfl) rfl rfl ?_
  refine o_nil ?_
  refine x_go ?_
  refine w_if rfl (fun h => ?_) (fun h => ?_)
  · refine w_seq ?_
    refine w_reg ?_
    refine Qv.step (u_p rfl rfl rfl) rfl rfl ?_
    refine o_nil ?_
    refine x_go ?_
    refine w_ret (x_rt rfl rfl ?_)
    have h' : (decide ((p.1.length : Int) > 512) || decide ((p.2.length : Int) > 1024)) = true := by rw [← h]; simp
    simp only [pRight, h', if_true]
  
  have h0 : (decide ((p.1.length : Int) > 512) || decide ((p.2.length : Int) > 1024)) = false := by rw [← h]; simp
  clear h
  refine w_skip ?_
  refine x_go ?_
  refine w_seq ?_
  refine w_reg ?_
  refine o_mk kI dPt rfl rfl rfl rfl ?_; intro b1
  refine Qv.step (u_p rfl rfl rfl) rfl rfl ?_
  refine o_nil ?_
  refine x_go ?_
  refine w_seq ?_
  refine w_reg ?_
  refine o_mk k2 DV.b rfl rfl rfl rfl ?_; intro b2
  refine Qv.step (u_p rfl rfl rfl) rfl rfl ?_
  refine o_nil ?_
  refine x_go ?_
  refine w_seq ?_
  refine w_reg ?_
  refine Qv.step (u_p rfl rfl rfl) rfl rfl ?_
  refine o_nil ?_
  refine x_go ?_
  refine w_seq ?_
  refine w_seq ?_
  refine w_reg ?_
  refine Qv.step (u_p rfl rfl rfl) rfl rfl ?_
  refine Qv.step (u_ld 0 rfl rfl rfl rfl rfl rfl) rfl rfl ?_
  refine Qv.step (u_len rfl rfl rfl rfl rfl rfl) rfl rfl ?_
  refine Qv.step (u_p rfl rfl rfl) rfl rfl ?_
  refine o_nil ?_
  refine x_go ?_
  refine w_block ?_
  
  refine w_loop (fun s : Nat × Int × List (Int × Pt) × List (Pt × Bool) => s.1 ≤ p.1.length ∧ pRv s.2.1 s.2.2.1 s.2.2.2 (p.1.drop s.1) = pRv 0 [] [] p.1) (fun s => ([(28, .sl 3 (p.1.map rV)), (29, .i p.1.length), (30, .i s.1), (1, .v (.pointer (some ⟨b0, 0, none⟩))), (3, .v (.map (some b1))), (4, .v (.map (some b2))), (5, .i s.2.1)],
    [cellsR b0 36 (rPl p), mapR b1 kI dPt s.2.2.1, mapR b2 k2 DV.b s.2.2.2])) (fun s => p.1.length - s.1) (0, 0, [], []) ⟨Nat.zero_le _, rfl⟩ ⟨rfl, lenS rfl, rfl, rfl, rfl, rfl, rfl, trivial⟩ rfl ?_
  rintro ⟨k, last, m, met⟩ ⟨hk, hI⟩
  refine w_seq ?_
  refine w_reg ?_
  refine Qv.step (u_p rfl rfl rfl) rfl rfl ?_
  refine o_nil ?_
  refine x_go ?_
  refine w_seq ?_
  refine w_if rfl (fun h => ?_) (fun h => ?_)
  · have hlt : k < p.1.length := by simpa using h
    rw [List.drop_eq_getElem_cons hlt, pRv] at hI
    clear h
    refine w_skip ?_
    refine x_go ?_
    refine w_seq ?_
    refine w_block ?_
    refine w_seq ?_
    refine w_reg ?_
    refine Qv.step (u_ix rfl rfl rfl rfl rfl rfl rfl rfl (by omega) (by simp; omega)) rfl rfl ?_
    refine Qv.step (d := .agg [_, _, _]) (.as (u_lde (r := rV p.1[k]) (by simp [hlt]) rfl rfl rfl rfl rfl) rfl) rfl rfl ?_
    refine o_alloc rfl rfl rfl rfl rfl rfl ?_; intro b3
    refine o_st 3 rfl rfl rfl rfl rfl rfl rfl rfl rfl rfl (by first | rfl | kernel_rfl) ?_
    refine o_nil ?_
    refine x_go ?_
    refine w_seq ?_
    refine w_seq ?_
    refine w_reg ?_
    refine Qv.step (u_p rfl rfl rfl) rfl rfl ?_
    refine Qv.step (u_ld 3 rfl rfl rfl rfl rfl rfl) rfl rfl ?_
    refine Qv.step (u_p rfl rfl rfl) rfl rfl ?_
    refine Qv.step (u_p rfl rfl rfl) rfl rfl ?_
    refine Qv.step (u_p rfl rfl rfl) rfl rfl ?_
    refine Qv.step (d := .gd _ _ _) (.as (q_p (G := [(_, false)]) rfl rfl rfl rfl) rfl) rfl rfl ?_
    refine Qv.step (d := .gd _ _ (.agg [_, _])) (.as (q_ld (G := [(_, false)]) 3 rfl rfl rfl rfl rfl rfl rfl) rfl) rfl rfl ?_
    refine Qv.step (d := .gd _ _ _) (.as (q_call (G := [(_, false)]) (In_ok p.1[k].2) Try.call26 rfl rfl rfl rfl) rfl) rfl rfl ?_
    refine Qv.step (d := .gd _ _ _) (.as (q_p (G := [(_, false)]) rfl rfl rfl rfl) rfl) rfl rfl ?_
    refine Qv.step (d := .v _) (.as (u_pick rfl rfl rfl rfl rfl rfl rfl rfl rfl) rfl) rfl rfl ?_
    refine Qv.step (u_p rfl rfl rfl) rfl rfl ?_
    refine Qv.step (d := .gd _ _ _) (.as (q_p (G := [(_, false)]) rfl rfl rfl rfl) rfl) rfl rfl ?_
    refine Qv.step (d := .gd _ _ _) (.as (q_p (G := [(_, false)]) rfl rfl rfl rfl) rfl) rfl rfl ?_
    refine Qv.step (d := .gd _ _ (.agg [_, _])) (.as (q_ld (G := [(_, false)]) 3 rfl rfl rfl rfl rfl rfl rfl) rfl) rfl rfl ?_
    refine Qv.step (d := .gd _ _ _) (.as (q_lo (G := [(_, false)]) 2 KP p.1[k].2 false rfl rfl rfl rfl rfl rfl rfl rfl rfl rfl rfl) rfl) rfl rfl ?_
    refine Qv.step (d := .v _) (.as (u_pick rfl rfl rfl rfl rfl rfl rfl rfl rfl) rfl) rfl rfl ?_
    refine o_nil ?_
    refine x_go ?_
    refine w_if rfl (fun h => ?_) (fun h => ?_)
    · refine w_seq ?_
      refine w_reg ?_
      refine Qv.step (u_p rfl rfl rfl) rfl rfl ?_
      refine o_nil ?_
      refine x_go ?_
      refine w_ret (x_rt rfl rfl ?_)
      have h' : ((decide (p.1[k].1 ≤ last) || !gIn p.1[k].2) || (mget p.1[k].2 met).getD false) = true := Eq.trans (by simp) h
      rw [h', if_pos rfl] at hI
      simp only [pRight, h0, ← hI, Bool.false_eq_true, if_false]
    
    have h' : ((decide (p.1[k].1 ≤ last) || !gIn p.1[k].2) || (mget p.1[k].2 met).getD false) = false := Eq.trans (by simp) h
    clear h
    rw [h', if_neg (by simp)] at hI
    refine w_skip ?_
    refine x_go ?_
    refine w_seq ?_
    refine w_reg ?_
    refine Qv.step (u_p rfl rfl rfl) rfl rfl ?_
    refine Qv.step (u_ld 3 rfl rfl rfl rfl rfl rfl) rfl rfl ?_
    refine Qv.step (u_p rfl rfl rfl) rfl rfl ?_
    refine o_nil ?_
    refine x_go ?_
    refine w_seq ?_
    refine w_reg ?_
    refine Qv.step (u_p rfl rfl rfl) rfl rfl ?_
    refine Qv.step (u_p rfl rfl rfl) rfl rfl ?_
    refine Qv.step (u_ld 3 rfl rfl rfl rfl rfl rfl) rfl rfl ?_
    refine Qv.step (u_p rfl rfl rfl) rfl rfl ?_
    refine Qv.step (d := .agg [_, _]) (.as (u_ld 3 rfl rfl rfl rfl rfl rfl) rfl) rfl rfl ?_
    refine o_mu 1 KI p.1[k].1 p.1[k].2 rfl rfl rfl rfl rfl rfl rfl rfl rfl rfl rfl ?_
    refine o_nil ?_
    refine x_go ?_
    refine w_reg ?_
    refine Qv.step (u_p rfl rfl rfl) rfl rfl ?_
    refine Qv.step (u_p rfl rfl rfl) rfl rfl ?_
    refine Qv.step (d := .agg [_, _]) (.as (u_ld 3 rfl rfl rfl rfl rfl rfl) rfl) rfl rfl ?_
    refine o_mu 2 KP p.1[k].2 true rfl rfl rfl rfl rfl rfl rfl rfl rfl rfl rfl ?_
    refine o_nil ?_
    refine x_go ?_
    refine w_reg ?_
    refine Qv.step (u_p rfl rfl rfl) rfl rfl ?_
    refine Qv.step (u_p rfl rfl rfl) rfl rfl ?_
    refine o_nil ?_
    exact x_rd (k + 1, p.1[k].1, mset p.1[k].1 p.1[k].2 m, mset p.1[k].2 true met) 3 (by show p.1.length - (k + 1) < p.1.length - k; omega) ⟨by show k + 1 ≤ _; omega, hI⟩ rfl ⟨rfl, rfl, lkS rfl (by omega), rfl, rfl, rfl, rfl, trivial⟩
  
  have hge : ¬ k < p.1.length := by simpa using h
  clear h
  have hm : pRv 0 [] [] p.1 = some m := by
    rw [← hI]
    simp only
    rw [List.drop_eq_nil_of_le (by omega)]
    rfl
  clear hI
  refine w_exit ?_
  refine x_go ?_
  refine w_seq ?_
  refine w_reg ?_
  refine o_mk k2 DV.b rfl rfl rfl rfl ?_; intro b3
  refine Qv.step (u_p rfl rfl rfl) rfl rfl ?_
  refine o_nil ?_
  refine x_go ?_
  refine w_seq ?_
  refine w_reg ?_
  refine Qv.step (u_p rfl rfl rfl) rfl rfl ?_
  refine o_nil ?_
  refine x_go ?_
  refine w_seq ?_
  refine w_seq ?_
  refine w_reg ?_
  refine Qv.step (u_p rfl rfl rfl) rfl rfl ?_
  refine Qv.step (u_ld 0 rfl rfl rfl rfl rfl rfl) rfl rfl ?_
  refine Qv.step (u_len rfl rfl rfl rfl rfl rfl) rfl rfl ?_
  refine Qv.step (u_p rfl rfl rfl) rfl rfl ?_
  refine o_nil ?_
  refine x_go ?_
  refine w_block ?_
  
  refine w_loop (fun s : Nat × Int × List ((Int × Int) × Bool) => s.1 ≤ p.2.length ∧ pRe p m s.1 s.2.1 s.2.2 (p.2.drop s.1) = pRe p m 0 0 [] p.2) (fun s => ([(63, .sl 3 (p.2.map rE)), (64, .i p.2.length), (65, .i s.1), (1, .v (.pointer (some ⟨b0, 0, none⟩))), (3, .v (.map (some b1))), (8, .v (.map (some b3))), (5, .i s.2.1)],
    [cellsR b0 36 (rPl p), mapR b1 kI dPt m, mapR b2 k2 DV.b met, mapR b3 k2 DV.b s.2.2])) (fun s => p.2.length - s.1) (0, 0, []) ⟨Nat.zero_le _, rfl⟩ ⟨rfl, lenS rfl, rfl, rfl, rfl, rfl, rfl, trivial⟩ rfl ?_
  rintro ⟨k, last, pairs⟩ ⟨hk, hI⟩
  refine w_seq ?_
  refine w_reg ?_
  refine Qv.step (u_p rfl rfl rfl) rfl rfl ?_
  refine o_nil ?_
  refine x_go ?_
  refine w_seq ?_
  refine w_if rfl (fun h => ?_) (fun h => ?_)
  · have hlt : k < p.2.length := by simpa using h
    rw [List.drop_eq_getElem_cons hlt, pRe] at hI
    clear h
    refine w_skip ?_
    refine x_go ?_
    refine w_seq ?_
    refine w_block ?_
    refine w_seq ?_
    refine w_reg ?_
    refine Qv.step (u_p rfl rfl rfl) rfl rfl ?_
    refine Qv.step (u_ix rfl rfl rfl rfl rfl rfl rfl rfl (by omega) (by simp; omega)) rfl rfl ?_
    refine Qv.step (d := .agg [_, _, _]) (.as (u_lde (r := rE p.2[k]) (by simp [hlt]) rfl rfl rfl rfl rfl) rfl) rfl rfl ?_
    refine o_alloc rfl rfl rfl rfl rfl rfl ?_; intro b4
    refine Qv.step (u_p rfl rfl rfl) rfl rfl ?_
    refine o_st 4 rfl rfl rfl rfl rfl rfl rfl rfl rfl rfl (by first | rfl | kernel_rfl) ?_
    refine o_nil ?_
    refine x_go ?_
    refine w_seq ?_
    refine w_reg ?_
    refine Qv.step (u_p rfl rfl rfl) rfl rfl ?_
    refine Qv.step (u_p rfl rfl rfl) rfl rfl ?_
    refine Qv.step (u_ld 4 rfl rfl rfl rfl rfl rfl) rfl rfl ?_
    refine Qv.step (u_lo2 1 KI p.2[k].2.1 (0, 0) rfl rfl rfl rfl rfl rfl rfl rfl rfl rfl) rfl rfl ?_
    refine Qv.step (u_p rfl rfl rfl) rfl rfl ?_
    refine Qv.step (u_p rfl rfl rfl) rfl rfl ?_
    refine Qv.step (u_p rfl rfl rfl) rfl rfl ?_
    refine o_alloc rfl rfl rfl rfl rfl rfl ?_; intro b5
    refine o_st 5 rfl rfl rfl rfl rfl rfl rfl rfl rfl rfl (by first | rfl | kernel_rfl) ?_
    refine Qv.step (u_p rfl rfl rfl) rfl rfl ?_
    refine o_nil ?_
    refine x_go ?_
    refine w_seq ?_
    refine w_reg ?_
    refine Qv.step (u_p rfl rfl rfl) rfl rfl ?_
    refine Qv.step (u_p rfl rfl rfl) rfl rfl ?_
    refine Qv.step (u_ld 4 rfl rfl rfl rfl rfl rfl) rfl rfl ?_
    refine Qv.step (u_lo2 1 KI p.2[k].2.2 (0, 0) rfl rfl rfl rfl rfl rfl rfl rfl rfl rfl) rfl rfl ?_
    refine Qv.step (u_p rfl rfl rfl) rfl rfl ?_
    refine Qv.step (u_p rfl rfl rfl) rfl rfl ?_
    refine Qv.step (u_p rfl rfl rfl) rfl rfl ?_
    refine o_alloc rfl rfl rfl rfl rfl rfl ?_; intro b6
    refine o_st 6 rfl rfl rfl rfl rfl rfl rfl rfl rfl rfl (by first | rfl | kernel_rfl) ?_
    refine Qv.step (u_p rfl rfl rfl) rfl rfl ?_
    refine o_nil ?_
    refine x_go ?_
    refine w_seq ?_
    refine w_seq ?_
    refine w_reg ?_
    refine Qv.step (u_p rfl rfl rfl) rfl rfl ?_
    refine Qv.step (u_ld 4 rfl rfl rfl rfl rfl rfl) rfl rfl ?_
    refine Qv.step (u_p rfl rfl rfl) rfl rfl ?_
    refine Qv.step (u_p rfl rfl rfl) rfl rfl ?_
    refine Qv.step (u_p rfl rfl rfl) rfl rfl ?_
    refine Qv.step (d := .gd _ _ _) (.as (q_p (G := [(_, false)]) rfl rfl rfl rfl) rfl) rfl rfl ?_
    refine Qv.step (d := .gd _ _ _) (.as (q_p (G := [(_, false)]) rfl rfl rfl rfl) rfl) rfl rfl ?_
    refine Qv.step (d := .v _) (.as (u_pick rfl rfl rfl rfl rfl rfl rfl rfl rfl) rfl) rfl rfl ?_
    refine Qv.step (u_p rfl rfl rfl) rfl rfl ?_
    refine Qv.step (d := .gd _ _ _) (.as (q_p (G := [(_, false)]) rfl rfl rfl rfl) rfl) rfl rfl ?_
    refine Qv.step (d := .gd _ _ _) (.as (q_p (G := [(_, false)]) rfl rfl rfl rfl) rfl) rfl rfl ?_
    refine Qv.step (d := .v _) (.as (u_pick rfl rfl rfl rfl rfl rfl rfl rfl rfl) rfl) rfl rfl ?_
    refine Qv.step (u_p rfl rfl rfl) rfl rfl ?_
    refine Qv.step (d := .gd _ _ _) (.as (q_p (G := [(_, false)]) rfl rfl rfl rfl) rfl) rfl rfl ?_
    refine Qv.step (d := .gd _ _ _) (.as (q_ld (G := [(_, false)]) 4 rfl rfl rfl rfl rfl rfl rfl) rfl) rfl rfl ?_
    refine Qv.step (d := .gd _ _ _) (.as (q_p (G := [(_, false)]) rfl rfl rfl rfl) rfl) rfl rfl ?_
    refine Qv.step (d := .gd _ _ _) (.as (q_ld (G := [(_, false)]) 4 rfl rfl rfl rfl rfl rfl rfl) rfl) rfl rfl ?_
    refine Qv.step (d := .gd _ _ _) (.as (q_p (G := [(_, false)]) rfl rfl rfl rfl) rfl) rfl rfl ?_
    refine Qv.step (d := .v _) (.as (u_pick rfl rfl rfl rfl rfl rfl rfl rfl rfl) rfl) rfl rfl ?_
    refine Qv.step (u_p rfl rfl rfl) rfl rfl ?_
    refine Qv.step (d := .gd _ _ _) (.as (q_p (G := [(_, false)]) rfl rfl rfl rfl) rfl) rfl rfl ?_
    refine Qv.step (d := .gd _ _ (.agg [_, _, _])) (.as (q_ld (G := [(_, false)]) 4 rfl rfl rfl rfl rfl rfl rfl) rfl) rfl rfl ?_
    refine Qv.step (d := .gd _ _ _) (.as (q_call (G := [(_, false)]) (ends_ok p.2[k]) Try.call27 rfl rfl rfl rfl) rfl) rfl rfl ?_
    refine Qv.step (d := .gd _ _ _) (.as (q_lo (G := [(_, false)]) 3 K2 (pEnds p.2[k]) false rfl rfl rfl rfl rfl rfl rfl rfl rfl rfl rfl) rfl) rfl rfl ?_
    refine Qv.step (d := .v _) (.as (u_pick rfl rfl rfl rfl rfl rfl rfl rfl rfl) rfl) rfl rfl ?_
    refine Qv.step (u_p rfl rfl rfl) rfl rfl ?_
    refine Qv.step (d := .gd _ _ (.agg [_, _])) (.as (q_ld (G := [(_, false)]) 0 rfl rfl rfl rfl rfl rfl rfl) rfl) rfl rfl ?_
    refine Qv.step (d := .gd _ _ (.agg [_, _])) (.as (q_ld (G := [(_, false)]) 5 rfl rfl rfl rfl rfl rfl rfl) rfl) rfl rfl ?_
    refine Qv.step (d := .gd _ _ (.agg [_, _])) (.as (q_ld (G := [(_, false)]) 6 rfl rfl rfl rfl rfl rfl rfl) rfl) rfl rfl ?_
    refine Qv.step (d := .gd _ _ _) (.as (q_call (G := [(_, false)]) (onWay_ok p hp (pPt m p.2[k].2.1) (pPt m p.2[k].2.2)) Try.call28 rfl rfl rfl rfl) rfl) rfl rfl ?_
    refine Qv.step (d := .v _) (.as (u_pick rfl rfl rfl rfl rfl rfl rfl rfl rfl) rfl) rfl rfl ?_
    refine o_nil ?_
    refine x_go ?_
    refine w_if rfl (fun h => ?_) (fun h => ?_)
    · refine w_seq ?_
      refine w_reg ?_
      refine Qv.step (u_p rfl rfl rfl) rfl rfl ?_
      refine o_nil ?_
      refine x_go ?_
      refine w_ret (x_rt rfl rfl ?_)
      have h' : pEbad p m last pairs p.2[k] = true := Eq.trans (by simp [pEbad]) h
      rw [h', if_pos rfl] at hI
      simp only [pRight, h0, hm, ← hI, Bool.false_eq_true, if_false]
    
    have h' : pEbad p m last pairs p.2[k] = false := Eq.trans (by simp [pEbad]) h
    clear h
    rw [h', if_neg (by simp)] at hI
    refine w_skip ?_
    refine x_go ?_
    refine w_seq ?_
    refine w_reg ?_
    refine Qv.step (u_p rfl rfl rfl) rfl rfl ?_
    refine Qv.step (u_ld 4 rfl rfl rfl rfl rfl rfl) rfl rfl ?_
    refine Qv.step (u_p rfl rfl rfl) rfl rfl ?_
    refine o_nil ?_
    refine x_go ?_
    refine w_seq ?_
    refine w_reg ?_
    refine Qv.step (u_p rfl rfl rfl) rfl rfl ?_
    refine Qv.step (d := .agg [_, _, _]) (.as (u_ld 4 rfl rfl rfl rfl rfl rfl) rfl) rfl rfl ?_
    refine Qv.step (u_call (ends_ok p.2[k]) Try.call27 rfl rfl rfl) rfl rfl ?_
    refine o_mu 3 K2 (pEnds p.2[k]) true rfl rfl rfl rfl rfl rfl rfl rfl rfl rfl rfl ?_
    refine o_nil ?_
    refine x_go ?_
    refine w_seq ?_
    refine d_begin ?_
    refine d_q [] (by kernel_rfl) rfl (fun _ _ _ => .onk (L' := []) rfl (u_p rfl rfl rfl) rfl) ?_
    refine d_q [0] (by kernel_rfl) rfl (fun _ _ _ => .onk (L' := [(120, _)]) rfl (u_ld 0 rfl rfl rfl rfl rfl rfl) rfl) ?_
    refine d_q [] (by kernel_rfl) rfl (fun _ _ _ => .onk (L' := []) rfl (u_p rfl rfl rfl) rfl) ?_
    refine d_q [2] (by kernel_rfl) rfl (fun _ _ _ => .onk (L' := [(122, _)]) rfl (u_ld 0 rfl rfl rfl rfl rfl rfl) rfl) ?_
    refine d_q [] (by kernel_rfl) rfl (fun _ _ _ => .onk (L' := []) rfl (u_p rfl rfl rfl) rfl) ?_
    refine d_q [3, 4] (by kernel_rfl) rfl (fun _ _ _ => .onk (L' := [(123, _), (124, _)]) rfl (u_slm rfl rfl rfl rfl rfl rfl rfl (by omega)) rfl) ?_
    refine d_q (d := .agg [_, _]) [1, 5] (by kernel_rfl) rfl (fun _ _ _ => .onk (L' := [(121, _), (125, _)]) rfl (u_bst rfl rfl rfl rfl rfl rfl rfl rfl) rfl) ?_
    refine d_q (d := .agg [_, _]) [] (by kernel_rfl) rfl (fun _ _ _ => .onk (L' := []) rfl (u_ld 5 rfl rfl rfl rfl rfl rfl) rfl) ?_
    refine d_q (d := .agg [_, _]) [] (by kernel_rfl) rfl (fun _ _ _ => .onk (L' := []) rfl (u_ld 6 rfl rfl rfl rfl rfl rfl) rfl) ?_
    refine d_end (by kernel_rfl) (by kernel_rfl) (by kernel_rfl) (fun bs _ => so_as (L' := [(120, _), (121, _), (122, _), (123, _), (124, _), (125, _), (126, _), (127, _), (128, _)]) (G' := []) rfl rfl ?_)
    refine Qv.step (u_call (crossed_ok (p.1, p.2.take k) hp (by show (p.2.take k).length < _; simp; omega) (pPt m p.2[k].2.1) (pPt m p.2[k].2.2)) Try.call29 rfl rfl rfl) rfl rfl ?_
    refine o_nil ?_
    refine x_go ?_
    refine w_if rfl (fun h => ?_) (fun h => ?_)
    · refine w_seq ?_
      refine w_reg ?_
      refine Qv.step (u_p rfl rfl rfl) rfl rfl ?_
      refine o_nil ?_
      refine x_go ?_
      refine w_ret (x_rt rfl rfl ?_)
      rw [h, if_pos rfl] at hI
      simp only [pRight, h0, hm, ← hI, Bool.false_eq_true, if_false]
    
    rw [h, if_neg (by simp)] at hI
    clear h
    refine w_skip ?_
    refine x_go ?_
    refine w_reg ?_
    refine Qv.step (u_p rfl rfl rfl) rfl rfl ?_
    refine Qv.step (u_p rfl rfl rfl) rfl rfl ?_
    refine o_nil ?_
    exact x_rd (k + 1, p.2[k].1, mset (pEnds p.2[k]) true pairs) 4 (by show p.2.length - (k + 1) < p.2.length - k; omega) ⟨by show k + 1 ≤ _; omega, hI⟩ rfl ⟨rfl, rfl, lkS rfl (by omega), rfl, rfl, rfl, rfl, trivial⟩
  
  have hge : ¬ k < p.2.length := by simpa using h
  clear h
  refine w_exit ?_
  refine x_go ?_
  refine w_seq ?_
  refine w_reg ?_
  refine Qv.step (u_p rfl rfl rfl) rfl rfl ?_
  refine o_nil ?_
  refine x_go ?_
  refine w_ret (x_rt rfl rfl ?_)
  rw [List.drop_eq_nil_of_le (by show p.2.length ≤ k; omega)] at hI
  simp only [pRight, h0, hm, ← hI, Bool.false_eq_true, if_false]
  rfl

def pVertex (id : Int) : List Vtx → Vtx × Bool
  | [] => (((0, 0, 0) : Vtx), false)
  | v :: l => if v.1 == id then (v, true) else pVertex id l
theorem Vertex_ok (p : Pln) (hp : Sh p.1) (id : Int) : FunOk cx 59 [dPl p, .i id] (.tup [.agg (rV (pVertex id p.1).1), .b (pVertex id p.1).2]) := by
  have hq : p.1.length < 4611686018427387904 := hp
  refine fn_ok (c := _) _ Try.func59 rfl Try.ntmps59 rfl fun A w => ?_
  refine w_seq ?_
  refine w_reg ?_
  refine o_box rfl rfl rfl rfl rfl rfl ?_; intro b0
  refine o_alloc rfl rfl rfl rfl rfl rfl ?_; intro b1
  refine Qv.step (u_p rfl rfl rfl) rfl rfl ?_
  refine o_nil ?_
  refine x_go ?_
  refine w_seq ?_
  refine w_seq ?_
  refine w_reg ?_
  refine Qv.step (u_p rfl rfl rfl) rfl rfl ?_
  refine Qv.step (u_ld 0 rfl rfl rfl rfl rfl rfl) rfl rfl ?_
  refine Qv.step (u_len rfl rfl rfl rfl rfl rfl) rfl rfl ?_
  refine Qv.step (u_p rfl rfl rfl) rfl rfl ?_
  refine o_nil ?_
  refine x_go ?_
  refine w_block ?_
  
  refine w_loop (fun k : Nat => k ≤ p.1.length ∧ pVertex id (p.1.drop k) = pVertex id p.1) (fun k => ([(9, .sl 3 (p.1.map rV)), (10, .i p.1.length), (11, .i k), (1, .i id), (4, .v (.pointer (some ⟨b1, 0, none⟩)))],
    [cellsR b0 36 (rPl p), cellsR b1 52 (rV ((0, 0, 0) : Vtx))])) (fun k => p.1.length - k) 0 ⟨Nat.zero_le _, rfl⟩ ⟨rfl, lenS rfl, rfl, rfl, rfl, trivial⟩ rfl ?_
  rintro k ⟨hk, hI⟩
  refine w_seq ?_
  refine w_reg ?_
  refine Qv.step (u_p rfl rfl rfl) rfl rfl ?_
  refine o_nil ?_
  refine x_go ?_
  refine w_seq ?_
  refine w_if rfl (fun h => ?_) (fun h => ?_)
  · have hlt : k < p.1.length := by simpa using h
    rw [List.drop_eq_getElem_cons hlt, pVertex] at hI
    clear h
    refine w_skip ?_
    refine x_go ?_
    refine w_seq ?_
    refine w_block ?_
    refine w_seq ?_
    refine w_reg ?_
    refine Qv.step (u_ix rfl rfl rfl rfl rfl rfl rfl rfl (by omega) (by simp; omega)) rfl rfl ?_
    refine Qv.step (d := .agg [_, _, _]) (.as (u_lde (r := rV p.1[k]) (by simp [hlt]) rfl rfl rfl rfl rfl) rfl) rfl rfl ?_
    refine o_alloc rfl rfl rfl rfl rfl rfl ?_; intro b2
    refine o_st 2 rfl rfl rfl rfl rfl rfl rfl rfl rfl rfl (by first | rfl | kernel_rfl) ?_
    refine o_nil ?_
    refine x_go ?_
    refine w_seq ?_
    refine w_reg ?_
    refine Qv.step (u_p rfl rfl rfl) rfl rfl ?_
    refine Qv.step (u_ld 2 rfl rfl rfl rfl rfl rfl) rfl rfl ?_
    refine Qv.step (u_p rfl rfl rfl) rfl rfl ?_
    refine Qv.step (u_p rfl rfl rfl) rfl rfl ?_
    refine o_nil ?_
    refine x_go ?_
    refine w_if rfl (fun h => ?_) (fun h => ?_)
    · refine w_seq ?_
      refine w_reg ?_
      refine Qv.step (d := .agg [_, _, _]) (.as (u_ld 2 rfl rfl rfl rfl rfl rfl) rfl) rfl rfl ?_
      refine o_st 1 rfl rfl rfl rfl rfl rfl rfl rfl rfl rfl (by first | rfl | kernel_rfl) ?_
      refine Qv.step (u_p rfl rfl rfl) rfl rfl ?_
      refine o_nil ?_
      refine x_go ?_
      refine w_ret (x_r2 rfl (rs_c 1 rfl rfl rfl rfl) (rs_t rfl) ?_)
      rw [h, if_pos rfl] at hI
      rw [← hI]
      rfl
    
    · rw [h, if_neg (by simp)] at hI
      refine w_skip ?_
      refine x_go ?_
      refine w_reg ?_
      refine Qv.step (u_p rfl rfl rfl) rfl rfl ?_
      refine Qv.step (u_p rfl rfl rfl) rfl rfl ?_
      refine o_nil ?_
      exact x_rd (k + 1) 2 (by omega) ⟨by omega, hI⟩ rfl ⟨rfl, rfl, lkS rfl (by omega), rfl, rfl, trivial⟩
  
  · have hge : ¬ k < p.1.length := by simpa using h
    refine w_exit ?_
    refine x_go ?_
    refine w_seq ?_
    refine w_reg ?_
    refine Qv.step (d := .agg [_, _, _]) (.as (u_bst rfl rfl rfl rfl rfl rfl rfl rfl) rfl) rfl rfl ?_
    refine o_st 1 rfl rfl rfl rfl rfl rfl rfl rfl rfl rfl (by first | rfl | kernel_rfl) ?_
    refine Qv.step (u_p rfl rfl rfl) rfl rfl ?_
    refine o_nil ?_
    refine x_go ?_
    refine w_ret (x_r2 rfl (rs_c 1 rfl rfl rfl rfl) (rs_t rfl) ?_)
    have hn : p.1.drop k = [] := List.drop_eq_nil_of_le (by omega)
    rw [← hI, hn]
    rfl

def pEdge (id : Int) : List Edg → Edg × Bool
  | [] => (((0, 0, 0) : Edg), false)
  | v :: l => if v.1 == id then (v, true) else pEdge id l
theorem Edge_ok (p : Pln) (hp : Sh p.2) (id : Int) : FunOk cx 43 [dPl p, .i id] (.tup [.agg (rE (pEdge id p.2).1), .b (pEdge id p.2).2]) := by
  have hq : p.2.length < 4611686018427387904 := hp
  refine fn_ok (c := _) _ Try.func43 rfl Try.ntmps43 rfl fun A w => ?_
  refine w_seq ?_
  refine w_reg ?_
  refine o_box rfl rfl rfl rfl rfl rfl ?_; intro b0
  refine o_alloc rfl rfl rfl rfl rfl rfl ?_; intro b1
  refine Qv.step (u_p rfl rfl rfl) rfl rfl ?_
  refine o_nil ?_
  refine x_go ?_
  refine w_seq ?_
  refine w_seq ?_
  refine w_reg ?_
  refine Qv.step (u_p rfl rfl rfl) rfl rfl ?_
  refine Qv.step (u_ld 0 rfl rfl rfl rfl rfl rfl) rfl rfl ?_
  refine Qv.step (u_len rfl rfl rfl rfl rfl rfl) rfl rfl ?_
  refine Qv.step (u_p rfl rfl rfl) rfl rfl ?_
  refine o_nil ?_
  refine x_go ?_
  refine w_block ?_
  
  refine w_loop (fun k : Nat => k ≤ p.2.length ∧ pEdge id (p.2.drop k) = pEdge id p.2) (fun k => ([(9, .sl 3 (p.2.map rE)), (10, .i p.2.length), (11, .i k), (1, .i id), (4, .v (.pointer (some ⟨b1, 0, none⟩)))],
    [cellsR b0 36 (rPl p), cellsR b1 55 (rE ((0, 0, 0) : Edg))])) (fun k => p.2.length - k) 0 ⟨Nat.zero_le _, rfl⟩ ⟨rfl, lenS rfl, rfl, rfl, rfl, trivial⟩ rfl ?_
  rintro k ⟨hk, hI⟩
  refine w_seq ?_
  refine w_reg ?_
  refine Qv.step (u_p rfl rfl rfl) rfl rfl ?_
  refine o_nil ?_
  refine x_go ?_
  refine w_seq ?_
  refine w_if rfl (fun h => ?_) (fun h => ?_)
  · have hlt : k < p.2.length := by simpa using h
    rw [List.drop_eq_getElem_cons hlt, pEdge] at hI
    clear h
    refine w_skip ?_
    refine x_go ?_
    refine w_seq ?_
    refine w_block ?_
    refine w_seq ?_
    refine w_reg ?_
    refine Qv.step (u_ix rfl rfl rfl rfl rfl rfl rfl rfl (by omega) (by simp; omega)) rfl rfl ?_
    refine Qv.step (d := .agg [_, _, _]) (.as (u_lde (r := rE p.2[k]) (by simp [hlt]) rfl rfl rfl rfl rfl) rfl) rfl rfl ?_
    refine o_alloc rfl rfl rfl rfl rfl rfl ?_; intro b2
    refine o_st 2 rfl rfl rfl rfl rfl rfl rfl rfl rfl rfl (by first | rfl | kernel_rfl) ?_
    refine o_nil ?_
    refine x_go ?_
    refine w_seq ?_
    refine w_reg ?_
    refine Qv.step (u_p rfl rfl rfl) rfl rfl ?_
    refine Qv.step (u_ld 2 rfl rfl rfl rfl rfl rfl) rfl rfl ?_
    refine Qv.step (u_p rfl rfl rfl) rfl rfl ?_
    refine Qv.step (u_p rfl rfl rfl) rfl rfl ?_
    refine o_nil ?_
    refine x_go ?_
    refine w_if rfl (fun h => ?_) (fun h => ?_)
    · refine w_seq ?_
      refine w_reg ?_
      refine Qv.step (d := .agg [_, _, _]) (.as (u_ld 2 rfl rfl rfl rfl rfl rfl) rfl) rfl rfl ?_
      refine o_st 1 rfl rfl rfl rfl rfl rfl rfl rfl rfl rfl (by first | rfl | kernel_rfl) ?_
      refine Qv.step (u_p rfl rfl rfl) rfl rfl ?_
      refine o_nil ?_
      refine x_go ?_
      refine w_ret (x_r2 rfl (rs_c 1 rfl rfl rfl rfl) (rs_t rfl) ?_)
      rw [h, if_pos rfl] at hI
      rw [← hI]
      rfl
    
    · rw [h, if_neg (by simp)] at hI
      refine w_skip ?_
      refine x_go ?_
      refine w_reg ?_
      refine Qv.step (u_p rfl rfl rfl) rfl rfl ?_
      refine Qv.step (u_p rfl rfl rfl) rfl rfl ?_
      refine o_nil ?_
      exact x_rd (k + 1) 2 (by omega) ⟨by omega, hI⟩ rfl ⟨rfl, rfl, lkS rfl (by omega), rfl, rfl, trivial⟩
  
  · have hge : ¬ k < p.2.length := by simpa using h
    refine w_exit ?_
    refine x_go ?_
    refine w_seq ?_
    refine w_reg ?_
    refine Qv.step (d := .agg [_, _, _]) (.as (u_bst rfl rfl rfl rfl rfl rfl rfl rfl) rfl) rfl rfl ?_
    refine o_st 1 rfl rfl rfl rfl rfl rfl rfl rfl rfl rfl (by first | rfl | kernel_rfl) ?_
    refine Qv.step (u_p rfl rfl rfl) rfl rfl ?_
    refine o_nil ?_
    refine x_go ?_
    refine w_ret (x_r2 rfl (rs_c 1 rfl rfl rfl rfl) (rs_t rfl) ?_)
    have hn : p.2.drop k = [] := List.drop_eq_nil_of_le (by omega)
    rw [← hI, hn]
    rfl

def pDeg (id : Int) : Int → List Edg → Int
  | n, [] => n
  | n, e :: l => pDeg id (if e.2.2 == id then w64 ((if e.2.1 == id then w64 (n + 1) else n) + 1) else if e.2.1 == id then w64 (n + 1) else n) l
theorem Degree_ok (p : Pln) (hp : Sh p.2) (id : Int) : FunOk cx 22 [dPl p, .i id] (.i (pDeg id 0 p.2)) := by
  have hq : p.2.length < 4611686018427387904 := hp
  refine fn_ok (c := _) _ Try.func22 rfl Try.ntmps22 rfl fun A w => ?_
  refine w_seq ?_
  refine w_reg ?_
  refine o_box rfl rfl rfl rfl rfl rfl ?_; intro b0
  refine Qv.step (u_p rfl rfl rfl) rfl rfl ?_
  refine o_nil ?_
  refine x_go ?_
  refine w_seq ?_
  refine w_reg ?_
  refine Qv.step (u_p rfl rfl rfl) rfl rfl ?_
  refine o_nil ?_
  refine x_go ?_
  refine w_seq ?_
  refine w_seq ?_
  refine w_reg ?_
  refine Qv.step (u_p rfl rfl rfl) rfl rfl ?_
  refine Qv.step (u_ld 0 rfl rfl rfl rfl rfl rfl) rfl rfl ?_
  refine Qv.step (u_len rfl rfl rfl rfl rfl rfl) rfl rfl ?_
  refine Qv.step (u_p rfl rfl rfl) rfl rfl ?_
  refine o_nil ?_
  refine x_go ?_
  refine w_block ?_
  
  refine w_loop (fun s : Nat × Int => s.1 ≤ p.2.length ∧ pDeg id s.2 (p.2.drop s.1) = pDeg id 0 p.2) (fun s => ([(9, .sl 3 (p.2.map rE)), (10, .i p.2.length), (11, .i s.1), (1, .i id), (5, .i s.2)],
    [cellsR b0 36 (rPl p)])) (fun s => p.2.length - s.1) (0, 0) ⟨Nat.zero_le _, rfl⟩ ⟨rfl, lenS rfl, rfl, rfl, rfl, trivial⟩ rfl ?_
  rintro ⟨k, n⟩ ⟨hk, hI⟩
  refine w_seq ?_
  refine w_reg ?_
  refine Qv.step (u_p rfl rfl rfl) rfl rfl ?_
  refine o_nil ?_
  refine x_go ?_
  refine w_seq ?_
  refine w_if rfl (fun h => ?_) (fun h => ?_)
  · have hlt : k < p.2.length := by simpa using h
    rw [List.drop_eq_getElem_cons hlt, pDeg] at hI
    clear h
    refine w_skip ?_
    refine x_go ?_
    refine w_seq ?_
    refine w_block ?_
    refine w_seq ?_
    refine w_reg ?_
    refine Qv.step (u_ix rfl rfl rfl rfl rfl rfl rfl rfl (by omega) (by simp; omega)) rfl rfl ?_
    refine Qv.step (d := .agg [_, _, _]) (.as (u_lde (r := rE p.2[k]) (by simp [hlt]) rfl rfl rfl rfl rfl) rfl) rfl rfl ?_
    refine o_alloc rfl rfl rfl rfl rfl rfl ?_; intro b1
    refine o_st 1 rfl rfl rfl rfl rfl rfl rfl rfl rfl rfl (by first | rfl | kernel_rfl) ?_
    refine o_nil ?_
    refine x_go ?_
    refine w_seq ?_
    refine w_seq ?_
    refine w_reg ?_
    refine Qv.step (u_p rfl rfl rfl) rfl rfl ?_
    refine Qv.step (u_ld 1 rfl rfl rfl rfl rfl rfl) rfl rfl ?_
    refine Qv.step (u_p rfl rfl rfl) rfl rfl ?_
    refine Qv.step (u_p rfl rfl rfl) rfl rfl ?_
    refine o_nil ?_
    refine x_go ?_
    refine w_if rfl (fun h => ?_) (fun h => ?_)
    · refine w_reg ?_
      refine Qv.step (u_p rfl rfl rfl) rfl rfl ?_
      refine Qv.step (u_p rfl rfl rfl) rfl rfl ?_
      refine Qv.step (u_p rfl rfl rfl) rfl rfl ?_
      refine o_nil ?_
      refine x_go ?_
      refine w_seq ?_
      refine w_reg ?_
      refine Qv.step (u_p rfl rfl rfl) rfl rfl ?_
      refine Qv.step (u_ld 1 rfl rfl rfl rfl rfl rfl) rfl rfl ?_
      refine Qv.step (u_p rfl rfl rfl) rfl rfl ?_
      refine Qv.step (u_p rfl rfl rfl) rfl rfl ?_
      refine o_nil ?_
      refine x_go ?_
      have h1 := h
      clear h
      refine w_if rfl (fun h => ?_) (fun h => ?_)
      · refine w_reg ?_
        refine Qv.step (u_p rfl rfl rfl) rfl rfl ?_
        refine Qv.step (u_p rfl rfl rfl) rfl rfl ?_
        refine Qv.step (u_p rfl rfl rfl) rfl rfl ?_
        refine o_nil ?_
        refine x_go ?_
        refine w_reg ?_
        refine Qv.step (u_p rfl rfl rfl) rfl rfl ?_
        refine Qv.step (u_p rfl rfl rfl) rfl rfl ?_
        refine o_nil ?_
        simp only [h1, h, if_true] at hI
        exact x_rd (k + 1, w64 (w64 (n + 1) + 1)) 1 (by show p.2.length - (k + 1) < p.2.length - k; omega) ⟨by show k + 1 ≤ _; omega, hI⟩ rfl ⟨rfl, rfl, lkS rfl (by omega), rfl, rfl, trivial⟩
      
      · refine w_skip ?_
        refine x_go ?_
        refine w_reg ?_
        refine Qv.step (u_p rfl rfl rfl) rfl rfl ?_
        refine Qv.step (u_p rfl rfl rfl) rfl rfl ?_
        refine o_nil ?_
        simp only [h1, h, if_true, Bool.false_eq_true, if_false] at hI
        exact x_rd (k + 1, w64 (n + 1)) 1 (by show p.2.length - (k + 1) < p.2.length - k; omega) ⟨by show k + 1 ≤ _; omega, hI⟩ rfl ⟨rfl, rfl, lkS rfl (by omega), rfl, rfl, trivial⟩
    
    · refine w_skip ?_
      refine x_go ?_
      refine w_seq ?_
      refine w_reg ?_
      refine Qv.step (u_p rfl rfl rfl) rfl rfl ?_
      refine Qv.step (u_ld 1 rfl rfl rfl rfl rfl rfl) rfl rfl ?_
      refine Qv.step (u_p rfl rfl rfl) rfl rfl ?_
      refine Qv.step (u_p rfl rfl rfl) rfl rfl ?_
      refine o_nil ?_
      refine x_go ?_
      have h1 := h
      clear h
      refine w_if rfl (fun h => ?_) (fun h => ?_)
      · refine w_reg ?_
        refine Qv.step (u_p rfl rfl rfl) rfl rfl ?_
        refine Qv.step (u_p rfl rfl rfl) rfl rfl ?_
        refine Qv.step (u_p rfl rfl rfl) rfl rfl ?_
        refine o_nil ?_
        refine x_go ?_
        refine w_reg ?_
        refine Qv.step (u_p rfl rfl rfl) rfl rfl ?_
        refine Qv.step (u_p rfl rfl rfl) rfl rfl ?_
        refine o_nil ?_
        simp only [h1, h, if_true, Bool.false_eq_true, if_false] at hI
        exact x_rd (k + 1, w64 (n + 1)) 1 (by show p.2.length - (k + 1) < p.2.length - k; omega) ⟨by show k + 1 ≤ _; omega, hI⟩ rfl ⟨rfl, rfl, lkS rfl (by omega), rfl, rfl, trivial⟩
      
      · refine w_skip ?_
        refine x_go ?_
        refine w_reg ?_
        refine Qv.step (u_p rfl rfl rfl) rfl rfl ?_
        refine Qv.step (u_p rfl rfl rfl) rfl rfl ?_
        refine o_nil ?_
        simp only [h1, h, Bool.false_eq_true, if_false] at hI
        exact x_rd (k + 1, n) 1 (by show p.2.length - (k + 1) < p.2.length - k; omega) ⟨by show k + 1 ≤ _; omega, hI⟩ rfl ⟨rfl, rfl, lkS rfl (by omega), rfl, rfl, trivial⟩
  
  · have hge : ¬ k < p.2.length := by simpa using h
    refine w_exit ?_
    refine x_go ?_
    refine w_seq ?_
    refine w_reg ?_
    refine Qv.step (u_p rfl rfl rfl) rfl rfl ?_
    refine Qv.step (u_p rfl rfl rfl) rfl rfl ?_
    refine o_nil ?_
    refine x_go ?_
    refine w_ret (x_rt rfl rfl ?_)
    rw [← hI]
    simp only
    rw [List.drop_eq_nil_of_le (by omega)]
    rfl
end Go.Proofs.Ytcdakcemcehfiaa
