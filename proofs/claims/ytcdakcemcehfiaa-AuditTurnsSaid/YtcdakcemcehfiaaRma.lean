/- realm: contracts, first part: ends, points, sum, odd. -/
import Derived.Test.YtcdakcemcehfiaaPln
import Derived.Test.YtcdakcemcehfiaaWid
namespace Go.Proofs.Ytcdakcemcehfiaa
open Go
set_option maxRecDepth 100000

@[reducible] def rH (h : Hlf) : List DV := [.i h.1, .b h.2]
@[reducible] def dH (h : Hlf) : DV := .agg (rH h)
abbrev Lin := Pt × Pt
@[reducible] def rL (l : Lin) : List DV := [.i l.1.1, .i l.1.2, .i l.2.1, .i l.2.2]
@[reducible] def dL (l : Lin) : DV := .agg (rL l)

def mEnds (p : Pln) (h : Hlf) : Lin :=
  if h.2 then ((pVertex (pEdge h.1 p.2).1.2.2 p.1).1.2, (pVertex (pEdge h.1 p.2).1.2.1 p.1).1.2) else ((pVertex (pEdge h.1 p.2).1.2.1 p.1).1.2, (pVertex (pEdge h.1 p.2).1.2.2 p.1).1.2)
theorem mends_ok (p : Pln) (hp : Sh p.1) (hp2 : Sh p.2) (h : Hlf) : FunOk cx 44 [dPl p, dH h] (.tup [dPt (mEnds p h).1, dPt (mEnds p h).2, .b (pEdge h.1 p.2).2]) := by
  obtain ⟨he, hb⟩ := h
  refine fn_ok (c := _) _ Try.func44 rfl Try.ntmps44 rfl fun A w => ?_
  refine w_seq ?_
  refine w_reg ?_
  refine o_box rfl rfl rfl rfl rfl rfl ?_; intro b0
  refine o_box rfl rfl rfl rfl rfl rfl ?_; intro b1
  refine o_alloc rfl rfl rfl rfl rfl rfl ?_; intro b2
  refine o_alloc rfl rfl rfl rfl rfl rfl ?_; intro b3
  refine Qv.step (u_p rfl rfl rfl) rfl rfl ?_
  refine o_nil ?_
  refine x_go ?_
  refine w_seq ?_
  refine w_reg ?_
  refine Qv.step (d := .agg [_, _]) (.as (u_ld 0 rfl rfl rfl rfl rfl rfl) rfl) rfl rfl ?_
  refine Qv.step (u_p rfl rfl rfl) rfl rfl ?_
  refine Qv.step (u_ld 1 rfl rfl rfl rfl rfl rfl) rfl rfl ?_
  refine Qv.step (u_call (Edge_ok p hp2 he) Try.call43 rfl rfl rfl) rfl rfl ?_
  refine Qv.step (u_p rfl rfl rfl) rfl rfl ?_
  refine Qv.step (u_p rfl rfl rfl) rfl rfl ?_
  refine Qv.step (u_p rfl rfl rfl) rfl rfl ?_
  refine o_alloc rfl rfl rfl rfl rfl rfl ?_; intro b4
  refine o_st 4 rfl rfl rfl rfl rfl rfl rfl rfl rfl rfl (by first | rfl | kernel_rfl) ?_
  refine Qv.step (u_p rfl rfl rfl) rfl rfl ?_
  refine o_nil ?_
  refine x_go ?_
  refine w_seq ?_
  refine w_reg ?_
  refine Qv.step (d := .agg [_, _]) (.as (u_ld 0 rfl rfl rfl rfl rfl rfl) rfl) rfl rfl ?_
  refine Qv.step (u_p rfl rfl rfl) rfl rfl ?_
  refine Qv.step (u_ld 4 rfl rfl rfl rfl rfl rfl) rfl rfl ?_
  refine Qv.step (u_call (Vertex_ok p hp (pEdge he p.2).1.2.1) Try.call59 rfl rfl rfl) rfl rfl ?_
  refine Qv.step (u_p rfl rfl rfl) rfl rfl ?_
  refine Qv.step (u_p rfl rfl rfl) rfl rfl ?_
  refine Qv.step (u_p rfl rfl rfl) rfl rfl ?_
  refine o_alloc rfl rfl rfl rfl rfl rfl ?_; intro b5
  refine o_st 5 rfl rfl rfl rfl rfl rfl rfl rfl rfl rfl (by first | rfl | kernel_rfl) ?_
  refine Qv.step (u_p rfl rfl rfl) rfl rfl ?_
  refine o_nil ?_
  refine x_go ?_
  refine w_seq ?_
  refine w_reg ?_
  refine Qv.step (d := .agg [_, _]) (.as (u_ld 0 rfl rfl rfl rfl rfl rfl) rfl) rfl rfl ?_
  refine Qv.step (u_p rfl rfl rfl) rfl rfl ?_
  refine Qv.step (u_ld 4 rfl rfl rfl rfl rfl rfl) rfl rfl ?_
  refine Qv.step (u_call (Vertex_ok p hp (pEdge he p.2).1.2.2) Try.call59 rfl rfl rfl) rfl rfl ?_
  refine Qv.step (u_p rfl rfl rfl) rfl rfl ?_
  refine Qv.step (u_p rfl rfl rfl) rfl rfl ?_
  refine Qv.step (u_p rfl rfl rfl) rfl rfl ?_
  refine o_alloc rfl rfl rfl rfl rfl rfl ?_; intro b6
  refine o_st 6 rfl rfl rfl rfl rfl rfl rfl rfl rfl rfl (by first | rfl | kernel_rfl) ?_
  refine Qv.step (u_p rfl rfl rfl) rfl rfl ?_
  refine o_nil ?_
  refine x_go ?_
  refine w_seq ?_
  refine w_seq ?_
  refine w_reg ?_
  refine Qv.step (u_p rfl rfl rfl) rfl rfl ?_
  refine Qv.step (u_ld 1 rfl rfl rfl rfl rfl rfl) rfl rfl ?_
  refine o_nil ?_
  refine x_go ?_
  refine w_if rfl (fun h => ?_) (fun h => ?_)
  · refine w_reg ?_
    refine Qv.step (d := .agg [_, _, _]) (.as (u_ld 6 rfl rfl rfl rfl rfl rfl) rfl) rfl rfl ?_
    refine Qv.step (d := .agg [_, _, _]) (.as (u_ld 5 rfl rfl rfl rfl rfl rfl) rfl) rfl rfl ?_
    refine o_st 5 rfl rfl rfl rfl rfl rfl rfl rfl rfl rfl (by first | rfl | kernel_rfl) ?_
    refine o_st 6 rfl rfl rfl rfl rfl rfl rfl rfl rfl rfl (by first | rfl | kernel_rfl) ?_
    refine o_nil ?_
    refine x_go ?_
    refine w_seq ?_
    refine w_asG [cellsR _ _ [_, _], cellsR _ _ [_, _], cellsR _ _ [_, _], cellsR _ _ [_, _], cellsR _ _ [_, _, _], cellsR _ _ [_, _, _], cellsR _ _ [_, _, _]] rfl ?_
    apply d_begin2 2 3 _ _ _ _ rfl rfl
    refine d_qE [] (by kernel_rfl) rfl (fun _ _ _ _ => .onk (L' := []) rfl (u_p rfl rfl rfl) rfl) ?_
    refine d_qE (d := .agg [_, _]) [0] (by kernel_rfl) rfl (fun _ _ _ _ => .onk (L' := [(38, _)]) rfl (u_ld 5 rfl rfl rfl rfl rfl rfl) rfl) ?_
    refine d_qE [] (by kernel_rfl) rfl (fun _ _ _ _ => .onk (L' := []) rfl (u_p rfl rfl rfl) rfl) ?_
    refine d_qE (d := .agg [_, _]) [2] (by kernel_rfl) rfl (fun _ _ _ _ => .onk (L' := [(40, _)]) rfl (u_ld 6 rfl rfl rfl rfl rfl rfl) rfl) ?_
    refine d_qE [] (by kernel_rfl) rfl (fun _ _ _ _ => .onk (L' := []) rfl (u_p rfl rfl rfl) rfl) ?_
    refine d_st 2 [1] 0 (by kernel_rfl) rfl rfl rfl (by kernel_rfl) (fun _ _ => rfl) (fun _ _ => rfl) rfl rfl (fun _ _ => rfl) rfl rfl (by first | rfl | kernel_rfl) (fun _ _ => rfl) ?_
    refine d_st 3 [3] 1 (by kernel_rfl) rfl rfl rfl (by kernel_rfl) (fun _ _ => rfl) (fun _ _ => rfl) rfl rfl (fun _ _ => rfl) rfl rfl (by first | rfl | kernel_rfl) (fun _ _ => rfl) ?_
    refine d_endE (by kernel_rfl) (by kernel_rfl) (by kernel_rfl) (fun _ => rfl) (fun bs _ => so_asE (L' := [(38, _), (39, _), (40, _), (41, _), (42, _)]) (G' := []) (Γ' := [_, _, _, _, _, _, _]) rfl rfl rfl ?_)
    refine Qv.step (u_p rfl rfl rfl) rfl rfl ?_
    refine o_nil ?_
    refine x_go ?_
    have hb' : hb = true := h
    subst hb'
    exact w_ret (x_r3 rfl (rs_c 2 rfl rfl rfl rfl) (rs_c 3 rfl rfl rfl rfl) (rs_t rfl) rfl)
  
  · refine w_skip ?_
    refine x_go ?_
    refine w_seq ?_
    refine w_asG [cellsR _ _ [_, _], cellsR _ _ [_, _], cellsR _ _ [_, _], cellsR _ _ [_, _], cellsR _ _ [_, _, _], cellsR _ _ [_, _, _], cellsR _ _ [_, _, _]] rfl ?_
    apply d_begin2 2 3 _ _ _ _ rfl rfl
    refine d_qE [] (by kernel_rfl) rfl (fun _ _ _ _ => .onk (L' := []) rfl (u_p rfl rfl rfl) rfl) ?_
    refine d_qE (d := .agg [_, _]) [0] (by kernel_rfl) rfl (fun _ _ _ _ => .onk (L' := [(38, _)]) rfl (u_ld 5 rfl rfl rfl rfl rfl rfl) rfl) ?_
    refine d_qE [] (by kernel_rfl) rfl (fun _ _ _ _ => .onk (L' := []) rfl (u_p rfl rfl rfl) rfl) ?_
    refine d_qE (d := .agg [_, _]) [2] (by kernel_rfl) rfl (fun _ _ _ _ => .onk (L' := [(40, _)]) rfl (u_ld 6 rfl rfl rfl rfl rfl rfl) rfl) ?_
    refine d_qE [] (by kernel_rfl) rfl (fun _ _ _ _ => .onk (L' := []) rfl (u_p rfl rfl rfl) rfl) ?_
    refine d_st 2 [1] 0 (by kernel_rfl) rfl rfl rfl (by kernel_rfl) (fun _ _ => rfl) (fun _ _ => rfl) rfl rfl (fun _ _ => rfl) rfl rfl (by first | rfl | kernel_rfl) (fun _ _ => rfl) ?_
    refine d_st 3 [3] 1 (by kernel_rfl) rfl rfl rfl (by kernel_rfl) (fun _ _ => rfl) (fun _ _ => rfl) rfl rfl (fun _ _ => rfl) rfl rfl (by first | rfl | kernel_rfl) (fun _ _ => rfl) ?_
    refine d_endE (by kernel_rfl) (by kernel_rfl) (by kernel_rfl) (fun _ => rfl) (fun bs _ => so_asE (L' := [(38, _), (39, _), (40, _), (41, _), (42, _)]) (G' := []) (Γ' := [_, _, _, _, _, _, _]) rfl rfl rfl ?_)
    refine Qv.step (u_p rfl rfl rfl) rfl rfl ?_
    refine o_nil ?_
    refine x_go ?_
    have hb' : hb = false := h
    subst hb'
    exact w_ret (x_r3 rfl (rs_c 2 rfl rfl rfl rfl) (rs_c 3 rfl rfl rfl rfl) (rs_t rfl) rfl)

def mPtsOk (p : Pln) (ring : List Hlf) : Bool := pRight p && ring.all fun h => (pEdge h.1 p.2).2
def mPts (p : Pln) (ring : List Hlf) : List Lin := if mPtsOk p ring then ring.map (mEnds p) else []
theorem points_ok (p : Pln) (hp : Sh p.1) (hp2 : Sh p.2) (ring : List Hlf) (hr : ring.length < 1000000000) : FunOk cx 40 [dPl p, .sl 2 (ring.map rH)] (.tup [.sl 4 ((mPts p ring).map rL), .b (mPtsOk p ring)]) := by
  refine fn_ok (c := _) _ Try.func40 rfl Try.ntmps40 rfl fun A w => ?_
  refine w_seq ?_
  refine w_reg ?_
  refine o_box rfl rfl rfl rfl rfl rfl ?_; intro b0
  refine Qv.step (u_p rfl rfl rfl) rfl rfl ?_
  refine Qv.step (u_p rfl rfl rfl) rfl rfl ?_
  refine o_nil ?_
  refine x_go ?_
  refine w_seq ?_
  refine w_seq ?_
  refine w_reg ?_
  refine Qv.step (d := .agg [_, _]) (.as (u_ld 0 rfl rfl rfl rfl rfl rfl) rfl) rfl rfl ?_
  refine Qv.step (u_call (Right_ok p hp hp2) Try.call14 rfl rfl rfl) rfl rfl ?_
  refine Qv.step (u_p rfl rfl rfl) rfl rfl ?_
  refine o_nil ?_
  refine x_go ?_
  refine w_if rfl (fun h => ?_) (fun h => ?_)
  · refine w_seq ?_
    refine w_reg ?_
    refine Qv.step (u_p rfl rfl rfl) rfl rfl ?_
    refine Qv.step (u_p rfl rfl rfl) rfl rfl ?_
    refine o_nil ?_
    refine x_go ?_
    have h' : pRight p = false := by simpa using h
    refine w_ret (x_r2 rfl (rs_nil (k := 4) rfl) (rs_t rfl) ?_)
    simp [mPts, mPtsOk, h']
  
  have hR : pRight p = true := by simpa using h
  clear h
  refine w_skip ?_
  refine x_go ?_
  refine w_seq ?_
  refine w_reg ?_
  refine Qv.step (u_p rfl rfl rfl) rfl rfl ?_
  refine o_nil ?_
  refine x_go ?_
  refine w_seq ?_
  refine w_seq ?_
  refine w_reg ?_
  refine Qv.step (u_p rfl rfl rfl) rfl rfl ?_
  refine Qv.step (u_len rfl rfl rfl rfl rfl rfl) rfl rfl ?_
  refine Qv.step (u_p rfl rfl rfl) rfl rfl ?_
  refine o_nil ?_
  refine x_go ?_
  refine w_block ?_
  refine w_know 6 _ rfl nil_os ?_
  refine w_nil 127 4 ?_
  skip
  
  refine w_loop (fun s : Nat × Value => s.1 ≤ ring.length ∧ ((ring.drop s.1).all fun h => (pEdge h.1 p.2).2) = ring.all fun h => (pEdge h.1 p.2).2) (fun s => ([(2, .v (.pointer (some ⟨b0, 0, none⟩))), (6, .os s.2), (15, .sl 2 (ring.map rH)), (16, .i ring.length), (17, .i s.1)],
    [cellsR b0 36 (rPl p), rowR s.2 127 4 ((ring.take s.1).map fun h => rL (mEnds p h))])) (fun s => ring.length - s.1) (0, .slice none 0 0) ⟨Nat.zero_le _, rfl⟩ ⟨rfl, rfl, rfl, lenS rfl, rfl, trivial⟩ rfl ?_
  rintro ⟨k, v⟩ ⟨hk, hI⟩
  refine w_seq ?_
  refine w_reg ?_
  refine Qv.step (u_p rfl rfl rfl) rfl rfl ?_
  refine o_nil ?_
  refine x_go ?_
  refine w_seq ?_
  refine w_if rfl (fun h => ?_) (fun h => ?_)
  · have hlt : k < ring.length := by simpa using h
    rw [List.drop_eq_getElem_cons hlt, List.all_cons] at hI
    clear h
    refine w_skip ?_
    refine x_go ?_
    refine w_seq ?_
    refine w_block ?_
    refine w_seq ?_
    refine w_reg ?_
    refine Qv.step (u_ix rfl rfl rfl rfl rfl rfl rfl rfl (by omega) (by simp; omega)) rfl rfl ?_
    refine Qv.step (d := .agg [_, _]) (.as (u_lde (r := rH ring[k]) (by simp [hlt]) rfl rfl rfl rfl rfl) rfl) rfl rfl ?_
    refine o_alloc rfl rfl rfl rfl rfl rfl ?_; intro b2
    refine o_st 2 rfl rfl rfl rfl rfl rfl rfl rfl rfl rfl (by first | rfl | kernel_rfl) ?_
    refine o_nil ?_
    refine x_go ?_
    refine w_seq ?_
    refine w_reg ?_
    refine Qv.step (d := .agg [_, _]) (.as (u_ld 0 rfl rfl rfl rfl rfl rfl) rfl) rfl rfl ?_
    refine Qv.step (d := .agg [_, _]) (.as (u_ld 2 rfl rfl rfl rfl rfl rfl) rfl) rfl rfl ?_
    refine Qv.step (u_call (mends_ok p hp hp2 ring[k]) Try.call44 rfl rfl rfl) rfl rfl ?_
    refine Qv.step (u_p rfl rfl rfl) rfl rfl ?_
    refine Qv.step (u_p rfl rfl rfl) rfl rfl ?_
    refine Qv.step (u_p rfl rfl rfl) rfl rfl ?_
    refine Qv.step (u_p rfl rfl rfl) rfl rfl ?_
    refine o_alloc rfl rfl rfl rfl rfl rfl ?_; intro b3
    refine o_alloc rfl rfl rfl rfl rfl rfl ?_; intro b4
    refine o_st 3 rfl rfl rfl rfl rfl rfl rfl rfl rfl rfl (by first | rfl | kernel_rfl) ?_
    refine o_st 4 rfl rfl rfl rfl rfl rfl rfl rfl rfl rfl (by first | rfl | kernel_rfl) ?_
    refine Qv.step (u_p rfl rfl rfl) rfl rfl ?_
    refine o_nil ?_
    refine x_go ?_
    refine w_seq ?_
    refine w_seq ?_
    refine w_reg ?_
    refine Qv.step (u_p rfl rfl rfl) rfl rfl ?_
    refine Qv.step (u_p rfl rfl rfl) rfl rfl ?_
    refine o_nil ?_
    refine x_go ?_
    refine w_if rfl (fun h => ?_) (fun h => ?_)
    · refine w_seq ?_
      refine w_reg ?_
      refine Qv.step (u_p rfl rfl rfl) rfl rfl ?_
      refine Qv.step (u_p rfl rfl rfl) rfl rfl ?_
      refine o_nil ?_
      refine x_go ?_
      have h' : (pEdge ring[k].1 p.2).2 = false := by simpa using h
      rw [h', Bool.false_and] at hI
      refine w_ret (x_r2 rfl (rs_nil (k := 4) rfl) (rs_t rfl) ?_)
      simp [mPts, mPtsOk, ← hI]
    
    have h' : (pEdge ring[k].1 p.2).2 = true := by simpa using h
    rw [h', Bool.true_and] at hI
    clear h
    refine w_skip ?_
    refine x_go ?_
    refine w_reg ?_
    refine Qv.step (u_p rfl rfl rfl) rfl rfl ?_
    refine Qv.step (d := .agg [_, _]) (.as (u_ld 3 rfl rfl rfl rfl rfl rfl) rfl) rfl rfl ?_
    refine Qv.step (d := .agg [_, _]) (.as (u_ld 4 rfl rfl rfl rfl rfl rfl) rfl) rfl rfl ?_
    refine Qv.step (d := .agg [_, _, _, _]) (.as (u_bar rfl rfl rfl rfl rfl rfl rfl rfl) rfl) rfl rfl ?_
    refine Qv.step (q_bsl rfl rfl rfl rfl rfl rfl rfl rfl rfl rfl rfl) rfl rfl ?_
    refine o_app 1 (L := 2000000000) (rows2 := [rL (mEnds p ring[k])]) (by simp; omega) rfl rfl rfl rfl rfl rfl rfl rfl rfl rfl rfl rfl rfl rfl (by simp [one1]) ?_; intro v2
    refine Qv.step (u_p rfl rfl rfl) rfl rfl ?_
    refine o_nil ?_
    refine x_go ?_
    refine w_reg ?_
    refine Qv.step (u_p rfl rfl rfl) rfl rfl ?_
    refine Qv.step (u_p rfl rfl rfl) rfl rfl ?_
    refine o_nil ?_
    exact x_rd (k + 1, v2) 2 (by show ring.length - (k + 1) < ring.length - k; omega) ⟨by show k + 1 ≤ _; omega, hI⟩ (by simp only [List.take_succ_eq_append_getElem hlt, List.map_append, List.map_cons, List.map_nil]; rfl) ⟨rfl, rfl, rfl, rfl, lkS rfl (by omega), trivial⟩
  
  have hge : ¬ k < ring.length := by simpa using h
  clear h
  have hkk : k = ring.length := by have : k ≤ ring.length := hk; omega
  subst hkk
  rw [List.drop_length] at hI
  refine w_frr 1 6 rfl rfl ?_
  refine w_exit ?_
  refine x_go ?_
  refine w_seq ?_
  refine w_reg ?_
  refine Qv.step (u_p rfl rfl rfl) rfl rfl ?_
  refine Qv.step (u_p rfl rfl rfl) rfl rfl ?_
  refine Qv.step (u_p rfl rfl rfl) rfl rfl ?_
  refine o_nil ?_
  refine x_go ?_
  refine w_ret (x_r2 rfl (rs_t rfl) (rs_t rfl) ?_)
  have hI' : (ring.all fun h => (pEdge h.1 p.2).2) = true := by rw [← hI]; rfl
  simp only [mPts, mPtsOk, hR, hI', Bool.and_self, if_true, List.take_length, List.map_map]
  rfl

def mOf (l : Lin) : W4 := wOf (w64 (w64 (l.1.1 * l.2.2) - w64 (l.2.1 * l.1.2)))
def mSumF (a : W4) (ls : List Lin) : W4 := ls.foldl (fun a l => (wAdd a (mOf l)).1) a
def mSum (ls : List Lin) : W4 := mSumF (0, 0, 0, 0) ls
theorem sum_ok (ls : List Lin) (hr : Sh ls) : FunOk cx 41 [.sl 4 (ls.map rL)] (dW (mSum ls)) := by
  have hr : ls.length < 4611686018427387904 := hr
  refine fn_ok (c := _) _ Try.func41 rfl Try.ntmps41 rfl fun A w => ?_
  refine w_seq ?_
  refine w_reg ?_
  refine o_alloc rfl rfl rfl rfl rfl rfl ?_; intro b0
  refine o_nil ?_
  refine x_go ?_
  refine w_seq ?_
  refine w_reg ?_
  refine Qv.step (d := .agg [_, _, _, _]) (.as (u_bar rfl rfl rfl rfl rfl rfl rfl rfl) rfl) rfl rfl ?_
  refine o_alloc rfl rfl rfl rfl rfl rfl ?_; intro b1
  refine o_st 1 rfl rfl rfl rfl rfl rfl rfl rfl rfl rfl (by first | rfl | kernel_rfl) ?_
  refine o_nil ?_
  refine x_go ?_
  refine w_seq ?_
  refine w_seq ?_
  refine w_reg ?_
  refine Qv.step (u_p rfl rfl rfl) rfl rfl ?_
  refine Qv.step (u_len rfl rfl rfl rfl rfl rfl) rfl rfl ?_
  refine Qv.step (u_p rfl rfl rfl) rfl rfl ?_
  refine o_nil ?_
  refine x_go ?_
  refine w_block ?_
  
  refine w_loop (fun s : Nat × W4 => s.1 ≤ ls.length ∧ WOk s.2 ∧ mSumF s.2 (ls.drop s.1) = mSum ls) (fun s => ([(2, .v (.pointer (some ⟨b0, 0, none⟩))), (3, .v (.pointer (some ⟨b1, 0, none⟩))), (8, .sl 4 (ls.map rL)), (9, .i ls.length), (10, .i s.1)],
    [cellsR b0 113 (rW (0, 0, 0, 0)), cellsR b1 113 (rW s.2)])) (fun s => ls.length - s.1) (0, (0, 0, 0, 0)) ⟨Nat.zero_le _, ⟨by decide, by decide, by decide, by decide⟩, rfl⟩ ⟨rfl, rfl, rfl, lenS rfl, rfl, trivial⟩ rfl ?_
  rintro ⟨k, a⟩ ⟨hk, hW, hI⟩
  refine w_seq ?_
  refine w_reg ?_
  refine Qv.step (u_p rfl rfl rfl) rfl rfl ?_
  refine o_nil ?_
  refine x_go ?_
  refine w_seq ?_
  refine w_if rfl (fun h => ?_) (fun h => ?_)
  · have hlt : k < ls.length := by simpa using h
    rw [List.drop_eq_getElem_cons hlt, mSumF, List.foldl_cons] at hI
    clear h
    refine w_skip ?_
    refine x_go ?_
    refine w_seq ?_
    refine w_block ?_
    refine w_seq ?_
    refine w_reg ?_
    refine Qv.step (u_ix rfl rfl rfl rfl rfl rfl rfl rfl (by omega) (by simp; omega)) rfl rfl ?_
    refine Qv.step (d := .agg [_, _, _, _]) (.as (u_lde (r := rL ls[k]) (by simp [hlt]) rfl rfl rfl rfl rfl) rfl) rfl rfl ?_
    refine o_alloc rfl rfl rfl rfl rfl rfl ?_; intro b2
    refine o_st 2 rfl rfl rfl rfl rfl rfl rfl rfl rfl rfl (by first | rfl | kernel_rfl) ?_
    refine o_nil ?_
    refine x_go ?_
    refine w_seq ?_
    refine w_reg ?_
    refine Qv.step (u_ixa rfl rfl rfl rfl rfl rfl rfl (by decide) (by decide)) rfl rfl ?_
    refine Qv.step (u_p rfl rfl rfl) rfl rfl ?_
    refine Qv.step (u_ld 2 rfl rfl rfl rfl rfl rfl) rfl rfl ?_
    refine Qv.step (u_ixa rfl rfl rfl rfl rfl rfl rfl (by decide) (by decide)) rfl rfl ?_
    refine Qv.step (u_p rfl rfl rfl) rfl rfl ?_
    refine Qv.step (u_ld 2 rfl rfl rfl rfl rfl rfl) rfl rfl ?_
    refine Qv.step (u_p rfl rfl rfl) rfl rfl ?_
    refine Qv.step (u_ixa rfl rfl rfl rfl rfl rfl rfl (by decide) (by decide)) rfl rfl ?_
    refine Qv.step (u_p rfl rfl rfl) rfl rfl ?_
    refine Qv.step (u_ld 2 rfl rfl rfl rfl rfl rfl) rfl rfl ?_
    refine Qv.step (u_ixa rfl rfl rfl rfl rfl rfl rfl (by decide) (by decide)) rfl rfl ?_
    refine Qv.step (u_p rfl rfl rfl) rfl rfl ?_
    refine Qv.step (u_ld 2 rfl rfl rfl rfl rfl rfl) rfl rfl ?_
    refine Qv.step (u_p rfl rfl rfl) rfl rfl ?_
    refine Qv.step (u_p rfl rfl rfl) rfl rfl ?_
    refine Qv.step (u_call (Of_ok (w64 (w64 (ls[k].1.1 * ls[k].2.2) - w64 (ls[k].2.1 * ls[k].1.2)))) Try.call56 rfl rfl rfl) rfl rfl ?_
    refine o_alloc rfl rfl rfl rfl rfl rfl ?_; intro b3
    refine o_st 3 rfl rfl rfl rfl rfl rfl rfl rfl rfl rfl (by first | rfl | kernel_rfl) ?_
    refine o_nil ?_
    refine x_go ?_
    refine w_reg ?_
    refine Qv.step (d := .agg [_, _, _, _]) (.as (u_ld 1 rfl rfl rfl rfl rfl rfl) rfl) rfl rfl ?_
    refine Qv.step (d := .agg [_, _, _, _]) (.as (u_ld 3 rfl rfl rfl rfl rfl rfl) rfl) rfl rfl ?_
    refine Qv.step (u_call (Add_ok a (mOf ls[k]) hW (wOf_ok _)) Try.call57 rfl rfl rfl) rfl rfl ?_
    refine Qv.step (u_p rfl rfl rfl) rfl rfl ?_
    refine Qv.step (u_p rfl rfl rfl) rfl rfl ?_
    refine Qv.step (u_p rfl rfl rfl) rfl rfl ?_
    refine o_st 1 rfl rfl rfl rfl rfl rfl rfl rfl rfl rfl (by first | rfl | kernel_rfl) ?_
    refine o_nil ?_
    refine x_go ?_
    refine w_reg ?_
    refine Qv.step (u_p rfl rfl rfl) rfl rfl ?_
    refine Qv.step (u_p rfl rfl rfl) rfl rfl ?_
    refine o_nil ?_
    exact x_rd (k + 1, (wAdd a (mOf ls[k])).1) 2 (by show ls.length - (k + 1) < ls.length - k; omega) ⟨by show k + 1 ≤ _; omega, wAdd_ok _ _, hI⟩ rfl ⟨rfl, rfl, rfl, rfl, lkS rfl (by omega), trivial⟩
  
  have hge : ¬ k < ls.length := by simpa using h
  clear h
  have hkk : k = ls.length := by have : k ≤ ls.length := hk; omega
  subst hkk
  rw [List.drop_length] at hI
  refine w_exit ?_
  refine x_go ?_
  refine w_seq ?_
  refine w_reg ?_
  refine Qv.step (d := .agg [_, _, _, _]) (.as (u_ld 1 rfl rfl rfl rfl rfl rfl) rfl) rfl rfl ?_
  refine o_st 0 rfl rfl rfl rfl rfl rfl rfl rfl rfl rfl (by first | rfl | kernel_rfl) ?_
  refine o_nil ?_
  refine x_go ?_
  refine w_ret (x_r1 rfl (rs_c 0 rfl rfl rfl rfl) ?_)
  rw [← hI]
  rfl

/-- One line's word on a ray. -/
def mRay (at_ : Pt) (l : Lin) (o : Bool) : Bool :=
  if decide (l.1.2 > at_.2) == decide (l.2.2 > at_.2) then o
  else if (if l.1.2 > l.2.2 then gTurnX l.2 l.1 at_ else gTurnX l.1 l.2 at_) > 0 then !o else o
def mOddF (at_ : Pt) (o : Bool) (ls : List Lin) : Bool := ls.foldl (fun o l => mRay at_ l o) o
def mOdd (ls : List Lin) (at_ : Pt) : Bool := mOddF at_ false ls
theorem odd_ok (ls : List Lin) (hr : Sh ls) (at_ : Pt) : FunOk cx 61 [.sl 4 (ls.map rL), dPt at_] (.b (mOdd ls at_)) := by
  have hr : ls.length < 4611686018427387904 := hr
  refine fn_ok (c := _) _ Try.func61 rfl Try.ntmps61 rfl fun A w => ?_
  refine w_seq ?_
  refine w_reg ?_
  refine o_box rfl rfl rfl rfl rfl rfl ?_; intro b0
  refine Qv.step (u_p rfl rfl rfl) rfl rfl ?_
  refine o_nil ?_
  refine x_go ?_
  refine w_seq ?_
  refine w_reg ?_
  refine Qv.step (u_p rfl rfl rfl) rfl rfl ?_
  refine o_nil ?_
  refine x_go ?_
  refine w_seq ?_
  refine w_seq ?_
  refine w_reg ?_
  refine Qv.step (u_p rfl rfl rfl) rfl rfl ?_
  refine Qv.step (u_len rfl rfl rfl rfl rfl rfl) rfl rfl ?_
  refine Qv.step (u_p rfl rfl rfl) rfl rfl ?_
  refine o_nil ?_
  refine x_go ?_
  refine w_block ?_
  
  refine w_loop (fun s : Nat × Bool => s.1 ≤ ls.length ∧ mOddF at_ s.2 (ls.drop s.1) = mOdd ls at_) (fun s => ([(3, .v (.pointer (some ⟨b0, 0, none⟩))), (5, .b s.2), (10, .sl 4 (ls.map rL)), (11, .i ls.length), (12, .i s.1)],
    [cellsR b0 50 (rPt at_)])) (fun s => ls.length - s.1) (0, false) ⟨Nat.zero_le _, rfl⟩ ⟨rfl, rfl, rfl, lenS rfl, rfl, trivial⟩ rfl ?_
  rintro ⟨k, o⟩ ⟨hk, hI⟩
  refine w_seq ?_
  refine w_reg ?_
  refine Qv.step (u_p rfl rfl rfl) rfl rfl ?_
  refine o_nil ?_
  refine x_go ?_
  refine w_seq ?_
  refine w_if rfl (fun h => ?_) (fun h => ?_)
  · have hlt : k < ls.length := by simpa using h
    rw [List.drop_eq_getElem_cons hlt, mOddF, List.foldl_cons] at hI
    clear h
    refine w_skip ?_
    refine x_go ?_
    refine w_seq ?_
    refine w_block ?_
    refine w_seq ?_
    refine w_reg ?_
    refine Qv.step (u_ix rfl rfl rfl rfl rfl rfl rfl rfl (by omega) (by simp; omega)) rfl rfl ?_
    refine Qv.step (d := .agg [_, _, _, _]) (.as (u_lde (r := rL ls[k]) (by simp [hlt]) rfl rfl rfl rfl rfl) rfl) rfl rfl ?_
    refine o_alloc rfl rfl rfl rfl rfl rfl ?_; intro b1
    refine o_st 1 rfl rfl rfl rfl rfl rfl rfl rfl rfl rfl (by first | rfl | kernel_rfl) ?_
    refine o_nil ?_
    refine x_go ?_
    refine w_seq ?_
    refine d_begin ?_
    refine d_q [] (by kernel_rfl) rfl (fun _ _ _ => .onk (L' := []) rfl (u_ixa rfl rfl rfl rfl rfl rfl rfl (by decide) (by decide)) rfl) ?_
    refine d_q (d := .agg [_, _]) [0] (by kernel_rfl) rfl (fun _ _ _ => .onk (L' := [(16, _)]) rfl (u_ld 1 rfl rfl rfl rfl rfl rfl) rfl) ?_
    refine d_q [] (by kernel_rfl) rfl (fun _ _ _ => .onk (L' := []) rfl (u_ixa rfl rfl rfl rfl rfl rfl rfl (by decide) (by decide)) rfl) ?_
    refine d_q (d := .agg [_, _]) [2] (by kernel_rfl) rfl (fun _ _ _ => .onk (L' := [(18, _)]) rfl (u_ld 1 rfl rfl rfl rfl rfl rfl) rfl) ?_
    refine d_al (ds := [_, _]) rfl rfl rfl rfl rfl rfl ?_
    refine d_al (ds := [_, _]) rfl rfl rfl rfl rfl rfl ?_
    refine d_sa 4 [1, 4] (by kernel_rfl) rfl rfl rfl rfl rfl rfl (fun _ _ => rfl) (fun _ _ => rfl) rfl rfl rfl rfl rfl ?_
    refine d_end (by kernel_rfl) (by kernel_rfl) (by kernel_rfl) (fun bs _ => so_as (L' := [(16, _), (17, _), (18, _), (19, _), (8, _), (9, _)]) (G' := [cellsR (bs 4) _ _, cellsR (bs 5) _ _]) rfl rfl ?_)
    refine o_st 3 rfl rfl rfl rfl rfl rfl rfl rfl rfl rfl (by first | rfl | kernel_rfl) ?_
    refine o_nil ?_
    refine x_go ?_
    refine w_seq ?_
    refine w_seq ?_
    refine w_reg ?_
    refine Qv.step (u_p rfl rfl rfl) rfl rfl ?_
    refine Qv.step (u_ld 2 rfl rfl rfl rfl rfl rfl) rfl rfl ?_
    refine Qv.step (u_p rfl rfl rfl) rfl rfl ?_
    refine Qv.step (u_ld 0 rfl rfl rfl rfl rfl rfl) rfl rfl ?_
    refine Qv.step (u_p rfl rfl rfl) rfl rfl ?_
    refine Qv.step (u_p rfl rfl rfl) rfl rfl ?_
    refine Qv.step (u_ld 3 rfl rfl rfl rfl rfl rfl) rfl rfl ?_
    refine Qv.step (u_p rfl rfl rfl) rfl rfl ?_
    refine Qv.step (u_ld 0 rfl rfl rfl rfl rfl rfl) rfl rfl ?_
    refine Qv.step (u_p rfl rfl rfl) rfl rfl ?_
    refine Qv.step (u_bb rfl rfl rfl rfl rfl rfl rfl) rfl rfl ?_
    refine o_nil ?_
    refine x_go ?_
    refine w_if rfl (fun h => ?_) (fun h => ?_)
    · refine w_exit ?_
      refine x_go ?_
      refine w_reg ?_
      refine Qv.step (u_p rfl rfl rfl) rfl rfl ?_
      refine Qv.step (u_p rfl rfl rfl) rfl rfl ?_
      refine o_nil ?_
      have h' : (decide (ls[k].1.2 > at_.2) == decide (ls[k].2.2 > at_.2)) = true := h
      rw [mRay, if_pos h'] at hI
      exact x_rd (k + 1, o) 1 (by show ls.length - (k + 1) < ls.length - k; omega) ⟨by show k + 1 ≤ _; omega, hI⟩ rfl ⟨rfl, rfl, rfl, rfl, lkS rfl (by omega), trivial⟩
    
    have h0 : ¬ (decide (ls[k].1.2 > at_.2) == decide (ls[k].2.2 > at_.2)) = true := fun h2 => by rw [show (decide (ls[k].1.2 > at_.2) == decide (ls[k].2.2 > at_.2)) = false from h] at h2; cases h2
    rw [mRay, if_neg h0] at hI
    clear h
    refine w_skip ?_
    refine x_go ?_
    refine w_seq ?_
    refine w_seq ?_
    refine w_reg ?_
    refine Qv.step (u_p rfl rfl rfl) rfl rfl ?_
    refine Qv.step (u_ld 2 rfl rfl rfl rfl rfl rfl) rfl rfl ?_
    refine Qv.step (u_p rfl rfl rfl) rfl rfl ?_
    refine Qv.step (u_ld 3 rfl rfl rfl rfl rfl rfl) rfl rfl ?_
    refine Qv.step (u_p rfl rfl rfl) rfl rfl ?_
    refine o_nil ?_
    refine x_go ?_
    refine w_if rfl (fun h => ?_) (fun h => ?_)
    · have h1 : ls[k].1.2 > ls[k].2.2 := by simpa using h
      rw [if_pos h1] at hI
      clear h
      refine w_reg ?_
      refine Qv.step (d := .agg [_, _]) (.as (u_ld 3 rfl rfl rfl rfl rfl rfl) rfl) rfl rfl ?_
      refine Qv.step (d := .agg [_, _]) (.as (u_ld 2 rfl rfl rfl rfl rfl rfl) rfl) rfl rfl ?_
      refine o_st 2 rfl rfl rfl rfl rfl rfl rfl rfl rfl rfl (by first | rfl | kernel_rfl) ?_
      refine o_st 3 rfl rfl rfl rfl rfl rfl rfl rfl rfl rfl (by first | rfl | kernel_rfl) ?_
      refine o_nil ?_
      refine x_go ?_
      refine w_seq ?_
      refine w_reg ?_
      refine Qv.step (d := .agg [_, _]) (.as (u_ld 2 rfl rfl rfl rfl rfl rfl) rfl) rfl rfl ?_
      refine Qv.step (d := .agg [_, _]) (.as (u_ld 3 rfl rfl rfl rfl rfl rfl) rfl) rfl rfl ?_
      refine Qv.step (d := .agg [_, _]) (.as (u_ld 0 rfl rfl rfl rfl rfl rfl) rfl) rfl rfl ?_
      refine Qv.step (u_call (Turn_ok ls[k].2 ls[k].1 at_) Try.call70 rfl rfl rfl) rfl rfl ?_
      refine Qv.step (u_p rfl rfl rfl) rfl rfl ?_
      refine o_nil ?_
      refine x_go ?_
      refine w_if rfl (fun h => ?_) (fun h => ?_)
      · have h2 : gTurnX ls[k].2 ls[k].1 at_ > 0 := by simpa using h
        rw [if_pos h2] at hI
        refine w_reg ?_
        refine Qv.step (u_p rfl rfl rfl) rfl rfl ?_
        refine Qv.step (u_p rfl rfl rfl) rfl rfl ?_
        refine Qv.step (u_p rfl rfl rfl) rfl rfl ?_
        refine o_nil ?_
        refine x_go ?_
        refine w_reg ?_
        refine Qv.step (u_p rfl rfl rfl) rfl rfl ?_
        refine Qv.step (u_p rfl rfl rfl) rfl rfl ?_
        refine o_nil ?_
        exact x_rd (k + 1, !o) 1 (by show ls.length - (k + 1) < ls.length - k; omega) ⟨by show k + 1 ≤ _; omega, hI⟩ rfl ⟨rfl, rfl, rfl, rfl, lkS rfl (by omega), trivial⟩
      
      · have h2 : ¬ gTurnX ls[k].2 ls[k].1 at_ > 0 := by simpa using h
        rw [if_neg h2] at hI
        refine w_skip ?_
        refine x_go ?_
        refine w_reg ?_
        refine Qv.step (u_p rfl rfl rfl) rfl rfl ?_
        refine Qv.step (u_p rfl rfl rfl) rfl rfl ?_
        refine o_nil ?_
        exact x_rd (k + 1, o) 1 (by show ls.length - (k + 1) < ls.length - k; omega) ⟨by show k + 1 ≤ _; omega, hI⟩ rfl ⟨rfl, rfl, rfl, rfl, lkS rfl (by omega), trivial⟩
    
    · have h1 : ¬ ls[k].1.2 > ls[k].2.2 := by simpa using h
      rw [if_neg h1] at hI
      clear h
      refine w_skip ?_
      refine x_go ?_
      refine w_seq ?_
      refine w_reg ?_
      refine Qv.step (d := .agg [_, _]) (.as (u_ld 2 rfl rfl rfl rfl rfl rfl) rfl) rfl rfl ?_
      refine Qv.step (d := .agg [_, _]) (.as (u_ld 3 rfl rfl rfl rfl rfl rfl) rfl) rfl rfl ?_
      refine Qv.step (d := .agg [_, _]) (.as (u_ld 0 rfl rfl rfl rfl rfl rfl) rfl) rfl rfl ?_
      refine Qv.step (u_call (Turn_ok ls[k].1 ls[k].2 at_) Try.call70 rfl rfl rfl) rfl rfl ?_
      refine Qv.step (u_p rfl rfl rfl) rfl rfl ?_
      refine o_nil ?_
      refine x_go ?_
      refine w_if rfl (fun h => ?_) (fun h => ?_)
      · have h2 : gTurnX ls[k].1 ls[k].2 at_ > 0 := by simpa using h
        rw [if_pos h2] at hI
        refine w_reg ?_
        refine Qv.step (u_p rfl rfl rfl) rfl rfl ?_
        refine Qv.step (u_p rfl rfl rfl) rfl rfl ?_
        refine Qv.step (u_p rfl rfl rfl) rfl rfl ?_
        refine o_nil ?_
        refine x_go ?_
        refine w_reg ?_
        refine Qv.step (u_p rfl rfl rfl) rfl rfl ?_
        refine Qv.step (u_p rfl rfl rfl) rfl rfl ?_
        refine o_nil ?_
        exact x_rd (k + 1, !o) 1 (by show ls.length - (k + 1) < ls.length - k; omega) ⟨by show k + 1 ≤ _; omega, hI⟩ rfl ⟨rfl, rfl, rfl, rfl, lkS rfl (by omega), trivial⟩
      
      · have h2 : ¬ gTurnX ls[k].1 ls[k].2 at_ > 0 := by simpa using h
        rw [if_neg h2] at hI
        refine w_skip ?_
        refine x_go ?_
        refine w_reg ?_
        refine Qv.step (u_p rfl rfl rfl) rfl rfl ?_
        refine Qv.step (u_p rfl rfl rfl) rfl rfl ?_
        refine o_nil ?_
        exact x_rd (k + 1, o) 1 (by show ls.length - (k + 1) < ls.length - k; omega) ⟨by show k + 1 ≤ _; omega, hI⟩ rfl ⟨rfl, rfl, rfl, rfl, lkS rfl (by omega), trivial⟩
  
  have hge : ¬ k < ls.length := by simpa using h
  clear h
  have hkk : k = ls.length := by have : k ≤ ls.length := hk; omega
  subst hkk
  rw [List.drop_length] at hI
  refine w_exit ?_
  refine x_go ?_
  refine w_seq ?_
  refine w_reg ?_
  refine Qv.step (u_p rfl rfl rfl) rfl rfl ?_
  refine Qv.step (u_p rfl rfl rfl) rfl rfl ?_
  refine o_nil ?_
  refine x_go ?_
  refine w_ret (x_rt rfl rfl ?_)
  rw [← hI]
  rfl
end Go.Proofs.Ytcdakcemcehfiaa
