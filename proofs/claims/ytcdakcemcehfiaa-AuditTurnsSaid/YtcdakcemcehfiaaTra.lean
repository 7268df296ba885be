/- spin: contracts, first part: Twin, turn's order. -/
import Derived.Test.YtcdakcemcehfiaaRma
namespace Go.Proofs.Ytcdakcemcehfiaa
open Go
set_option maxRecDepth 100000

def sTwin (h : Hlf) : Hlf := (h.1, !h.2)
theorem Twin_ok (h : Hlf) : FunOk cx 54 [dH h] (dH (sTwin h)) := by
  refine fn_ok (c := _) _ Try.func54 rfl Try.ntmps54 rfl fun A w => ?_
  refine w_seq ?_
  refine w_reg ?_
  refine o_box rfl rfl rfl rfl rfl rfl ?_; intro b0
  refine o_alloc rfl rfl rfl rfl rfl rfl ?_; intro b1
  refine o_nil ?_
  refine x_go ?_
  refine w_seq ?_
  refine w_reg ?_
  refine Qv.step (u_p rfl rfl rfl) rfl rfl ?_
  refine Qv.step (u_ld 0 rfl rfl rfl rfl rfl rfl) rfl rfl ?_
  refine Qv.step (u_p rfl rfl rfl) rfl rfl ?_
  refine Qv.step (u_ld 0 rfl rfl rfl rfl rfl rfl) rfl rfl ?_
  refine Qv.step (u_p rfl rfl rfl) rfl rfl ?_
  refine Qv.step (d := .agg [_, _]) (.as (u_bst rfl rfl rfl rfl rfl rfl rfl rfl) rfl) rfl rfl ?_
  refine o_st 1 rfl rfl rfl rfl rfl rfl rfl rfl rfl rfl (by first | rfl | kernel_rfl) ?_
  refine o_nil ?_
  refine x_go ?_
  exact w_ret (x_r1 rfl (rs_c 1 rfl rfl rfl rfl) rfl)

/-- Where a half leads. -/
def sEnd (at_ : List (Int × Vtx)) (fr : List (Hlf × Int)) (h : Hlf) : Pt := ((mget ((mget (sTwin h) fr).getD 0) at_).getD (0, 0, 0)).2
theorem turn1_ok (o : Pt) (at_ : List (Int × Vtx)) (fr : List (Hlf × Int)) (a b : Hlf) : FunOk cx 52 [dH a, dH b, .el 2 [rPt o] 0 0, .el 4 [[mpD kI dV at_, mpD kH DV.i fr, .un, .un]] 0 0] (.i (gAround o (sEnd at_ fr a) (sEnd at_ fr b))) := by
  refine fn_ok (c := _) _ Try.func52 rfl Try.ntmps52 rfl fun A w => ?_
  refine w_seq ?_
  refine w_reg ?_
  refine o_box rfl rfl rfl rfl rfl rfl ?_; intro b0
  refine o_box rfl rfl rfl rfl rfl rfl ?_; intro b1
  refine Qv.step (u_p rfl rfl rfl) rfl rfl ?_
  refine o_nil ?_
  refine x_go ?_
  refine w_seq ?_
  refine d_begin ?_
  refine d_q (d := .agg [_, _]) [] (by kernel_rfl) rfl (fun _ _ _ => .onk (L' := []) rfl (u_lde (r := rPt o) rfl rfl rfl rfl rfl rfl) rfl) ?_
  refine d_q [] (by kernel_rfl) rfl (fun _ _ _ => .onk (L' := []) rfl (u_p rfl rfl rfl) rfl) ?_
  refine d_q [1] (by kernel_rfl) rfl (fun _ _ _ => .onk (L' := [(8, _)]) rfl (u_lde (r := [mpD kI dV at_, mpD kH DV.i fr, .un, .un]) rfl rfl rfl rfl rfl rfl) rfl) ?_
  refine d_q [] (by kernel_rfl) rfl (fun _ _ _ => .onk (L' := []) rfl (u_p rfl rfl rfl) rfl) ?_
  refine d_q [3] (by kernel_rfl) rfl (fun _ _ _ => .onk (L' := [(10, _)]) rfl (u_lde (r := [mpD kI dV at_, mpD kH DV.i fr, .un, .un]) rfl rfl rfl rfl rfl rfl) rfl) ?_
  refine d_q (d := .agg [_, _]) [] (by kernel_rfl) rfl (fun _ _ _ => .onk (L' := []) rfl (u_ld 0 rfl rfl rfl rfl rfl rfl) rfl) ?_
  refine d_q [5] (by kernel_rfl) rfl (fun _ _ _ => .onk (L' := [(12, _)]) rfl (u_call (Twin_ok a) Try.call54 rfl rfl rfl) rfl) ?_
  refine d_q [4, 6] (by kernel_rfl) rfl (fun _ _ _ => .onk (L' := [(11, _), (13, _)]) rfl (u_lr KH (sTwin a) 0 rfl rfl rfl rfl rfl rfl rfl rfl rfl) rfl) ?_
  refine d_q [2, 7] (by kernel_rfl) rfl (fun _ _ _ => .onk (L' := [(9, _), (14, _)]) rfl (u_lr KI ((mget (sTwin a) fr).getD 0) (0, 0, 0) rfl rfl rfl rfl rfl rfl rfl rfl rfl) rfl) ?_
  refine d_q [8] (by kernel_rfl) rfl (fun _ _ _ => .onk (L' := [(15, _)]) rfl (u_p rfl rfl rfl) rfl) ?_
  refine d_q [] (by kernel_rfl) rfl (fun _ _ _ => .onk (L' := []) rfl (u_p rfl rfl rfl) rfl) ?_
  refine d_q [10] (by kernel_rfl) rfl (fun _ _ _ => .onk (L' := [(17, _)]) rfl (u_lde (r := [mpD kI dV at_, mpD kH DV.i fr, .un, .un]) rfl rfl rfl rfl rfl rfl) rfl) ?_
  refine d_q [] (by kernel_rfl) rfl (fun _ _ _ => .onk (L' := []) rfl (u_p rfl rfl rfl) rfl) ?_
  refine d_q [12] (by kernel_rfl) rfl (fun _ _ _ => .onk (L' := [(19, _)]) rfl (u_lde (r := [mpD kI dV at_, mpD kH DV.i fr, .un, .un]) rfl rfl rfl rfl rfl rfl) rfl) ?_
  refine d_q (d := .agg [_, _]) [] (by kernel_rfl) rfl (fun _ _ _ => .onk (L' := []) rfl (u_ld 1 rfl rfl rfl rfl rfl rfl) rfl) ?_
  refine d_q [14] (by kernel_rfl) rfl (fun _ _ _ => .onk (L' := [(21, _)]) rfl (u_call (Twin_ok b) Try.call54 rfl rfl rfl) rfl) ?_
  refine d_q [13, 15] (by kernel_rfl) rfl (fun _ _ _ => .onk (L' := [(20, _), (22, _)]) rfl (u_lr KH (sTwin b) 0 rfl rfl rfl rfl rfl rfl rfl rfl rfl) rfl) ?_
  refine d_q [11, 16] (by kernel_rfl) rfl (fun _ _ _ => .onk (L' := [(18, _), (23, _)]) rfl (u_lr KI ((mget (sTwin b) fr).getD 0) (0, 0, 0) rfl rfl rfl rfl rfl rfl rfl rfl rfl) rfl) ?_
  refine d_q [17] (by kernel_rfl) rfl (fun _ _ _ => .onk (L' := [(24, _)]) rfl (u_p rfl rfl rfl) rfl) ?_
  refine d_end (by kernel_rfl) (by kernel_rfl) (by kernel_rfl) (fun bs _ => so_as (L' := [(7, _), (8, _), (9, _), (10, _), (11, _), (12, _), (13, _), (14, _), (15, _), (16, _), (17, _), (18, _), (19, _), (20, _), (21, _), (22, _), (23, _), (24, _), (25, _)]) (G' := []) rfl rfl ?_)
  refine Qv.step (u_call (Around_ok o (sEnd at_ fr a) (sEnd at_ fr b)) Try.call53 rfl rfl rfl) rfl rfl ?_
  refine Qv.step (u_p rfl rfl rfl) rfl rfl ?_
  refine o_nil ?_
  refine x_go ?_
  exact w_ret (x_rt rfl rfl rfl)
end Go.Proofs.Ytcdakcemcehfiaa
