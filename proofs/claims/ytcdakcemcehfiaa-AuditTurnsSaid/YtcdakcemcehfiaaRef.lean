/- croftref05, croftref15: contracts. -/
import Derived.Test.YtcdakcemcehfiaaPln
namespace Go.Proofs.Ytcdakcemcehfiaa
open Go
set_option maxRecDepth 100000

def r5In (p : Pt) : Bool := decide (p.1 ≤ 268435456) && decide (p.2 ≤ 268435456) && decide (-268435456 ≤ p.1) && decide (-268435456 ≤ p.2)
theorem r5In_ok (p : Pt) : FunOk cx 8 [dPt p] (.b (r5In p)) := by
  refine fn_ok (c := _) _ Try.func8 rfl Try.ntmps8 rfl fun A w => ?_
  refine w_seq ?_
  refine w_reg ?_
  refine o_box rfl rfl rfl rfl rfl rfl ?_; intro b0
  refine Qv.step (u_p rfl rfl rfl) rfl rfl ?_
  refine o_nil ?_
  refine x_go ?_
  refine w_seq ?_
  refine w_reg ?_
  refine Qv.step (u_p rfl rfl rfl) rfl rfl ?_
  refine Qv.step (u_ld 0 rfl rfl rfl rfl rfl rfl) rfl rfl ?_
  refine Qv.step (u_p rfl rfl rfl) rfl rfl ?_
  refine Qv.step (u_p rfl rfl rfl) rfl rfl ?_
  refine Qv.step (d := .gd _ _ _) (.as (q_p (G := [(_, true)]) rfl rfl rfl rfl) rfl) rfl rfl ?_
  refine Qv.step (d := .gd _ _ _) (.as (q_ld (G := [(_, true)]) 0 rfl rfl rfl rfl rfl rfl rfl) rfl) rfl rfl ?_
  refine Qv.step (d := .gd _ _ _) (.as (q_p (G := [(_, true)]) rfl rfl rfl rfl) rfl) rfl rfl ?_
  refine Qv.step (d := .v _) (.as (u_pick rfl rfl rfl rfl rfl rfl rfl rfl rfl) rfl) rfl rfl ?_
  refine Qv.step (u_p rfl rfl rfl) rfl rfl ?_
  refine Qv.step (d := .gd _ _ _) (.as (q_p (G := [(_, true)]) rfl rfl rfl rfl) rfl) rfl rfl ?_
  refine Qv.step (d := .gd _ _ _) (.as (q_ld (G := [(_, true)]) 0 rfl rfl rfl rfl rfl rfl rfl) rfl) rfl rfl ?_
  refine Qv.step (d := .gd _ _ _) (.as (q_p (G := [(_, true)]) rfl rfl rfl rfl) rfl) rfl rfl ?_
  refine Qv.step (d := .v _) (.as (u_pick rfl rfl rfl rfl rfl rfl rfl rfl rfl) rfl) rfl rfl ?_
  refine Qv.step (u_p rfl rfl rfl) rfl rfl ?_
  refine Qv.step (d := .gd _ _ _) (.as (q_p (G := [(_, true)]) rfl rfl rfl rfl) rfl) rfl rfl ?_
  refine Qv.step (d := .gd _ _ _) (.as (q_ld (G := [(_, true)]) 0 rfl rfl rfl rfl rfl rfl rfl) rfl) rfl rfl ?_
  refine Qv.step (d := .gd _ _ _) (.as (q_p (G := [(_, true)]) rfl rfl rfl rfl) rfl) rfl rfl ?_
  refine Qv.step (d := .v _) (.as (u_pick rfl rfl rfl rfl rfl rfl rfl rfl rfl) rfl) rfl rfl ?_
  refine Qv.step (u_p rfl rfl rfl) rfl rfl ?_
  refine o_nil ?_
  refine x_go ?_
  refine w_ret (x_rt rfl rfl ?_)
  simp [r5In]

def r5Area (a b c : Pt) : Int :=
  w64 (w64 (w64 (w64 (w64 (w64 (a.1 * b.2) - w64 (a.2 * b.1)) + w64 (b.1 * c.2)) - w64 (b.2 * c.1)) + w64 (c.1 * a.2)) - w64 (c.2 * a.1))
theorem r5Area_ok (a b c : Pt) : FunOk cx 47 [dPt a, dPt b, dPt c] (.i (r5Area a b c)) := by
  refine fn_ok (c := _) _ Try.func47 rfl Try.ntmps47 rfl fun A w => ?_
  refine w_seq ?_
  refine w_reg ?_
  refine o_box rfl rfl rfl rfl rfl rfl ?_; intro b0
  refine o_box rfl rfl rfl rfl rfl rfl ?_; intro b1
  refine o_box rfl rfl rfl rfl rfl rfl ?_; intro b2
  refine Qv.step (u_p rfl rfl rfl) rfl rfl ?_
  refine o_nil ?_
  refine x_go ?_
  refine w_seq ?_
  refine w_reg ?_
  refine Qv.step (u_p rfl rfl rfl) rfl rfl ?_
  refine Qv.step (u_ld 0 rfl rfl rfl rfl rfl rfl) rfl rfl ?_
  refine Qv.step (u_p rfl rfl rfl) rfl rfl ?_
  refine Qv.step (u_ld 1 rfl rfl rfl rfl rfl rfl) rfl rfl ?_
  refine Qv.step (u_p rfl rfl rfl) rfl rfl ?_
  refine Qv.step (u_p rfl rfl rfl) rfl rfl ?_
  refine Qv.step (u_ld 0 rfl rfl rfl rfl rfl rfl) rfl rfl ?_
  refine Qv.step (u_p rfl rfl rfl) rfl rfl ?_
  refine Qv.step (u_ld 1 rfl rfl rfl rfl rfl rfl) rfl rfl ?_
  refine Qv.step (u_p rfl rfl rfl) rfl rfl ?_
  refine Qv.step (u_p rfl rfl rfl) rfl rfl ?_
  refine Qv.step (u_p rfl rfl rfl) rfl rfl ?_
  refine Qv.step (u_ld 1 rfl rfl rfl rfl rfl rfl) rfl rfl ?_
  refine Qv.step (u_p rfl rfl rfl) rfl rfl ?_
  refine Qv.step (u_ld 2 rfl rfl rfl rfl rfl rfl) rfl rfl ?_
  refine Qv.step (u_p rfl rfl rfl) rfl rfl ?_
  refine Qv.step (u_p rfl rfl rfl) rfl rfl ?_
  refine Qv.step (u_p rfl rfl rfl) rfl rfl ?_
  refine Qv.step (u_ld 1 rfl rfl rfl rfl rfl rfl) rfl rfl ?_
  refine Qv.step (u_p rfl rfl rfl) rfl rfl ?_
  refine Qv.step (u_ld 2 rfl rfl rfl rfl rfl rfl) rfl rfl ?_
  refine Qv.step (u_p rfl rfl rfl) rfl rfl ?_
  refine Qv.step (u_p rfl rfl rfl) rfl rfl ?_
  refine Qv.step (u_p rfl rfl rfl) rfl rfl ?_
  refine Qv.step (u_ld 2 rfl rfl rfl rfl rfl rfl) rfl rfl ?_
  refine Qv.step (u_p rfl rfl rfl) rfl rfl ?_
  refine Qv.step (u_ld 0 rfl rfl rfl rfl rfl rfl) rfl rfl ?_
  refine Qv.step (u_p rfl rfl rfl) rfl rfl ?_
  refine Qv.step (u_p rfl rfl rfl) rfl rfl ?_
  refine Qv.step (u_p rfl rfl rfl) rfl rfl ?_
  refine Qv.step (u_ld 2 rfl rfl rfl rfl rfl rfl) rfl rfl ?_
  refine Qv.step (u_p rfl rfl rfl) rfl rfl ?_
  refine Qv.step (u_ld 0 rfl rfl rfl rfl rfl rfl) rfl rfl ?_
  refine Qv.step (u_p rfl rfl rfl) rfl rfl ?_
  refine Qv.step (u_p rfl rfl rfl) rfl rfl ?_
  refine Qv.step (u_p rfl rfl rfl) rfl rfl ?_
  refine o_nil ?_
  refine x_go ?_
  exact w_ret (x_rt rfl rfl rfl)

def r5Turn (a b c : Pt) : Int := if r5Area a b c > 0 then 1 else if r5Area a b c < 0 then -1 else 0
theorem r5Turn_ok (a b c : Pt) : FunOk cx 35 [dPt a, dPt b, dPt c] (.i (r5Turn a b c)) := by
  refine fn_ok (c := _) _ Try.func35 rfl Try.ntmps35 rfl fun A w => ?_
  refine w_seq ?_
  refine w_reg ?_
  refine o_box rfl rfl rfl rfl rfl rfl ?_; intro b0
  refine o_box rfl rfl rfl rfl rfl rfl ?_; intro b1
  refine o_box rfl rfl rfl rfl rfl rfl ?_; intro b2
  refine Qv.step (u_p rfl rfl rfl) rfl rfl ?_
  refine o_nil ?_
  refine x_go ?_
  refine w_seq ?_
  refine w_reg ?_
  refine Qv.step (d := .agg [_, _]) (.as (u_ld 0 rfl rfl rfl rfl rfl rfl) rfl) rfl rfl ?_
  refine Qv.step (d := .agg [_, _]) (.as (u_ld 1 rfl rfl rfl rfl rfl rfl) rfl) rfl rfl ?_
  refine Qv.step (d := .agg [_, _]) (.as (u_ld 2 rfl rfl rfl rfl rfl rfl) rfl) rfl rfl ?_
  refine Qv.step (u_call (r5Area_ok a b c) Try.call47 rfl rfl rfl) rfl rfl ?_
  refine Qv.step (u_p rfl rfl rfl) rfl rfl ?_
  refine o_nil ?_
  refine x_go ?_
  refine w_seq ?_
  refine w_seq ?_
  refine w_reg ?_
  refine Qv.step (u_p rfl rfl rfl) rfl rfl ?_
  refine Qv.step (u_p rfl rfl rfl) rfl rfl ?_
  refine o_nil ?_
  refine x_go ?_
  refine w_if rfl (fun h => ?_) (fun h => ?_)
  · refine w_seq ?_
    refine w_reg ?_
    refine Qv.step (u_p rfl rfl rfl) rfl rfl ?_
    refine o_nil ?_
    refine x_go ?_
    refine w_ret (x_rt rfl rfl ?_)
    have h' : 0 < r5Area a b c := by simpa using h
    simp [r5Turn, h']
  
  have h' : ¬ 0 < r5Area a b c := by simpa using h
  clear h
  refine w_skip ?_
  refine x_go ?_
  refine w_seq ?_
  refine w_seq ?_
  refine w_reg ?_
  refine Qv.step (u_p rfl rfl rfl) rfl rfl ?_
  refine Qv.step (u_p rfl rfl rfl) rfl rfl ?_
  refine o_nil ?_
  refine x_go ?_
  refine w_if rfl (fun h => ?_) (fun h => ?_)
  · refine w_seq ?_
    refine w_reg ?_
    refine Qv.step (u_p rfl rfl rfl) rfl rfl ?_
    refine o_nil ?_
    refine x_go ?_
    refine w_ret (x_rt rfl rfl ?_)
    have h2 : r5Area a b c < 0 := by simpa using h
    simp [r5Turn, h', h2]
  
  refine w_skip ?_
  refine x_go ?_
  refine w_seq ?_
  refine w_reg ?_
  refine Qv.step (u_p rfl rfl rfl) rfl rfl ?_
  refine o_nil ?_
  refine x_go ?_
  have h2 : ¬ r5Area a b c < 0 := by simpa using h
  refine w_ret (x_rt rfl rfl ?_)
  simp [r5Turn, h', h2]

def r5btw (p a b : Int) : Bool := (decide (p ≥ a) && decide (p ≤ b)) || (decide (p ≥ b) && decide (p ≤ a))
def r5Within (p a b : Pt) : Bool := if r5Turn a b p != 0 then false else r5btw p.1 a.1 b.1 && r5btw p.2 a.2 b.2
theorem r5Within_ok (p a b : Pt) : FunOk cx 34 [dPt p, dPt a, dPt b] (.b (r5Within p a b)) := by
  refine fn_ok (c := _) _ Try.func34 rfl Try.ntmps34 rfl fun A w => ?_
  refine w_seq ?_
  refine w_reg ?_
  refine o_box rfl rfl rfl rfl rfl rfl ?_; intro b0
  refine o_box rfl rfl rfl rfl rfl rfl ?_; intro b1
  refine o_box rfl rfl rfl rfl rfl rfl ?_; intro b2
  refine Qv.step (u_p rfl rfl rfl) rfl rfl ?_
  refine o_nil ?_
  refine x_go ?_
  refine w_seq ?_
  refine w_seq ?_
  refine w_reg ?_
  refine Qv.step (d := .agg [_, _]) (.as (u_ld 1 rfl rfl rfl rfl rfl rfl) rfl) rfl rfl ?_
  refine Qv.step (d := .agg [_, _]) (.as (u_ld 2 rfl rfl rfl rfl rfl rfl) rfl) rfl rfl ?_
  refine Qv.step (d := .agg [_, _]) (.as (u_ld 0 rfl rfl rfl rfl rfl rfl) rfl) rfl rfl ?_
  refine Qv.step (u_call (r5Turn_ok a b p) Try.call35 rfl rfl rfl) rfl rfl ?_
  refine Qv.step (u_p rfl rfl rfl) rfl rfl ?_
  refine o_nil ?_
  refine x_go ?_
  refine w_if rfl (fun h => ?_) (fun h => ?_)
  · refine w_seq ?_
    refine w_reg ?_
    refine Qv.step (u_p rfl rfl rfl) rfl rfl ?_
    refine o_nil ?_
    refine x_go ?_
    refine w_ret (x_rt rfl rfl ?_)
    simp only [r5Within, h, if_true]
  
  refine w_skip ?_
  refine x_go ?_
  refine w_seq ?_
  refine w_reg ?_
  refine Qv.step (u_p rfl rfl rfl) rfl rfl ?_
  refine Qv.step (u_ld 0 rfl rfl rfl rfl rfl rfl) rfl rfl ?_
  refine Qv.step (u_p rfl rfl rfl) rfl rfl ?_
  refine Qv.step (u_ld 1 rfl rfl rfl rfl rfl rfl) rfl rfl ?_
  refine Qv.step (u_p rfl rfl rfl) rfl rfl ?_
  refine Qv.step (u_p rfl rfl rfl) rfl rfl ?_
  refine Qv.step (d := .gd _ _ _) (.as (q_p (G := [(_, true)]) rfl rfl rfl rfl) rfl) rfl rfl ?_
  refine Qv.step (d := .gd _ _ _) (.as (q_ld (G := [(_, true)]) 0 rfl rfl rfl rfl rfl rfl rfl) rfl) rfl rfl ?_
  refine Qv.step (d := .gd _ _ _) (.as (q_p (G := [(_, true)]) rfl rfl rfl rfl) rfl) rfl rfl ?_
  refine Qv.step (d := .gd _ _ _) (.as (q_ld (G := [(_, true)]) 2 rfl rfl rfl rfl rfl rfl rfl) rfl) rfl rfl ?_
  refine Qv.step (d := .gd _ _ _) (.as (q_p (G := [(_, true)]) rfl rfl rfl rfl) rfl) rfl rfl ?_
  refine Qv.step (d := .v _) (.as (u_pick rfl rfl rfl rfl rfl rfl rfl rfl rfl) rfl) rfl rfl ?_
  refine Qv.step (u_p rfl rfl rfl) rfl rfl ?_
  refine Qv.step (d := .gd _ _ _) (.as (q_p (G := [(_, false)]) rfl rfl rfl rfl) rfl) rfl rfl ?_
  refine Qv.step (d := .gd _ _ _) (.as (q_ld (G := [(_, false)]) 0 rfl rfl rfl rfl rfl rfl rfl) rfl) rfl rfl ?_
  refine Qv.step (d := .gd _ _ _) (.as (q_p (G := [(_, false)]) rfl rfl rfl rfl) rfl) rfl rfl ?_
  refine Qv.step (d := .gd _ _ _) (.as (q_ld (G := [(_, false)]) 2 rfl rfl rfl rfl rfl rfl rfl) rfl) rfl rfl ?_
  refine Qv.step (d := .gd _ _ _) (.as (q_p (G := [(_, false)]) rfl rfl rfl rfl) rfl) rfl rfl ?_
  refine Qv.step (d := .gd _ _ _) (.as (q_p (G := [(_, false)]) rfl rfl rfl rfl) rfl) rfl rfl ?_
  refine Qv.step (d := .gd _ _ (.gd _ _ _)) (.as (q_p (G := [(_, false), (_, true)]) rfl rfl rfl rfl) rfl) rfl rfl ?_
  refine Qv.step (d := .gd _ _ (.gd _ _ _)) (.as (q_ld (G := [(_, false), (_, true)]) 0 rfl rfl rfl rfl rfl rfl rfl) rfl) rfl rfl ?_
  refine Qv.step (d := .gd _ _ (.gd _ _ _)) (.as (q_p (G := [(_, false), (_, true)]) rfl rfl rfl rfl) rfl) rfl rfl ?_
  refine Qv.step (d := .gd _ _ (.gd _ _ _)) (.as (q_ld (G := [(_, false), (_, true)]) 1 rfl rfl rfl rfl rfl rfl rfl) rfl) rfl rfl ?_
  refine Qv.step (d := .gd _ _ (.gd _ _ _)) (.as (q_p (G := [(_, false), (_, true)]) rfl rfl rfl rfl) rfl) rfl rfl ?_
  refine Qv.step (d := .gd _ _ (.v _)) (.as (q_pick (G := [(_, false)]) rfl rfl rfl rfl rfl rfl rfl rfl rfl rfl) rfl) rfl rfl ?_
  refine Qv.step (d := .v _) (.as (u_pick rfl rfl rfl rfl rfl rfl rfl rfl rfl) rfl) rfl rfl ?_
  refine Qv.step (u_p rfl rfl rfl) rfl rfl ?_
  refine o_nil ?_
  refine x_go ?_
  refine w_seq ?_
  refine w_reg ?_
  refine Qv.step (u_p rfl rfl rfl) rfl rfl ?_
  refine Qv.step (u_ld 0 rfl rfl rfl rfl rfl rfl) rfl rfl ?_
  refine Qv.step (u_p rfl rfl rfl) rfl rfl ?_
  refine Qv.step (u_ld 1 rfl rfl rfl rfl rfl rfl) rfl rfl ?_
  refine Qv.step (u_p rfl rfl rfl) rfl rfl ?_
  refine Qv.step (u_p rfl rfl rfl) rfl rfl ?_
  refine Qv.step (d := .gd _ _ _) (.as (q_p (G := [(_, true)]) rfl rfl rfl rfl) rfl) rfl rfl ?_
  refine Qv.step (d := .gd _ _ _) (.as (q_ld (G := [(_, true)]) 0 rfl rfl rfl rfl rfl rfl rfl) rfl) rfl rfl ?_
  refine Qv.step (d := .gd _ _ _) (.as (q_p (G := [(_, true)]) rfl rfl rfl rfl) rfl) rfl rfl ?_
  refine Qv.step (d := .gd _ _ _) (.as (q_ld (G := [(_, true)]) 2 rfl rfl rfl rfl rfl rfl rfl) rfl) rfl rfl ?_
  refine Qv.step (d := .gd _ _ _) (.as (q_p (G := [(_, true)]) rfl rfl rfl rfl) rfl) rfl rfl ?_
  refine Qv.step (d := .v _) (.as (u_pick rfl rfl rfl rfl rfl rfl rfl rfl rfl) rfl) rfl rfl ?_
  refine Qv.step (u_p rfl rfl rfl) rfl rfl ?_
  refine Qv.step (d := .gd _ _ _) (.as (q_p (G := [(_, false)]) rfl rfl rfl rfl) rfl) rfl rfl ?_
  refine Qv.step (d := .gd _ _ _) (.as (q_ld (G := [(_, false)]) 0 rfl rfl rfl rfl rfl rfl rfl) rfl) rfl rfl ?_
  refine Qv.step (d := .gd _ _ _) (.as (q_p (G := [(_, false)]) rfl rfl rfl rfl) rfl) rfl rfl ?_
  refine Qv.step (d := .gd _ _ _) (.as (q_ld (G := [(_, false)]) 2 rfl rfl rfl rfl rfl rfl rfl) rfl) rfl rfl ?_
  refine Qv.step (d := .gd _ _ _) (.as (q_p (G := [(_, false)]) rfl rfl rfl rfl) rfl) rfl rfl ?_
  refine Qv.step (d := .gd _ _ _) (.as (q_p (G := [(_, false)]) rfl rfl rfl rfl) rfl) rfl rfl ?_
  refine Qv.step (d := .gd _ _ (.gd _ _ _)) (.as (q_p (G := [(_, false), (_, true)]) rfl rfl rfl rfl) rfl) rfl rfl ?_
  refine Qv.step (d := .gd _ _ (.gd _ _ _)) (.as (q_ld (G := [(_, false), (_, true)]) 0 rfl rfl rfl rfl rfl rfl rfl) rfl) rfl rfl ?_
  refine Qv.step (d := .gd _ _ (.gd _ _ _)) (.as (q_p (G := [(_, false), (_, true)]) rfl rfl rfl rfl) rfl) rfl rfl ?_
  refine Qv.step (d := .gd _ _ (.gd _ _ _)) (.as (q_ld (G := [(_, false), (_, true)]) 1 rfl rfl rfl rfl rfl rfl rfl) rfl) rfl rfl ?_
  refine Qv.step (d := .gd _ _ (.gd _ _ _)) (.as (q_p (G := [(_, false), (_, true)]) rfl rfl rfl rfl) rfl) rfl rfl ?_
  refine Qv.step (d := .gd _ _ (.v _)) (.as (q_pick (G := [(_, false)]) rfl rfl rfl rfl rfl rfl rfl rfl rfl rfl) rfl) rfl rfl ?_
  refine Qv.step (d := .v _) (.as (u_pick rfl rfl rfl rfl rfl rfl rfl rfl rfl) rfl) rfl rfl ?_
  refine Qv.step (u_p rfl rfl rfl) rfl rfl ?_
  refine o_nil ?_
  refine x_go ?_
  refine w_seq ?_
  refine w_reg ?_
  refine Qv.step (u_p rfl rfl rfl) rfl rfl ?_
  refine Qv.step (u_p rfl rfl rfl) rfl rfl ?_
  refine Qv.step (d := .gd _ _ _) (.as (q_p (G := [(_, true)]) rfl rfl rfl rfl) rfl) rfl rfl ?_
  refine Qv.step (d := .v _) (.as (u_pick rfl rfl rfl rfl rfl rfl rfl rfl rfl) rfl) rfl rfl ?_
  refine Qv.step (u_p rfl rfl rfl) rfl rfl ?_
  refine o_nil ?_
  refine x_go ?_
  refine w_ret (x_rt rfl rfl ?_)
  simp only [r5Within, h, Bool.false_eq_true, if_false]
  simp [r5btw]

def r5On (p a b : Pt) : Bool := (r5Within p a b && (p != a)) && (p != b)
theorem r5On_ok (p a b : Pt) : FunOk cx 24 [dPt p, dPt a, dPt b] (.b (r5On p a b)) := by
  refine fn_ok (c := _) _ Try.func24 rfl Try.ntmps24 rfl fun A w => ?_
  refine w_seq ?_
  refine w_reg ?_
  refine o_box rfl rfl rfl rfl rfl rfl ?_; intro b0
  refine o_box rfl rfl rfl rfl rfl rfl ?_; intro b1
  refine o_box rfl rfl rfl rfl rfl rfl ?_; intro b2
  refine Qv.step (u_p rfl rfl rfl) rfl rfl ?_
  refine o_nil ?_
  refine x_go ?_
  refine w_seq ?_
  refine w_reg ?_
  refine Qv.step (d := .agg [_, _]) (.as (u_ld 0 rfl rfl rfl rfl rfl rfl) rfl) rfl rfl ?_
  refine Qv.step (d := .agg [_, _]) (.as (u_ld 1 rfl rfl rfl rfl rfl rfl) rfl) rfl rfl ?_
  refine Qv.step (d := .agg [_, _]) (.as (u_ld 2 rfl rfl rfl rfl rfl rfl) rfl) rfl rfl ?_
  refine Qv.step (u_call (r5Within_ok p a b) Try.call34 rfl rfl rfl) rfl rfl ?_
  refine Qv.step (u_p rfl rfl rfl) rfl rfl ?_
  refine Qv.step (d := .gd _ _ (.agg [_, _])) (.as (q_ld (G := [(_, true)]) 0 rfl rfl rfl rfl rfl rfl rfl) rfl) rfl rfl ?_
  refine Qv.step (d := .gd _ _ (.agg [_, _])) (.as (q_ld (G := [(_, true)]) 1 rfl rfl rfl rfl rfl rfl rfl) rfl) rfl rfl ?_
  refine Qv.step (d := .gd _ _ _) (.as (q_eq (G := [(_, true)]) rfl rfl rfl rfl rfl rfl rfl rfl rfl rfl rfl rfl rfl) rfl) rfl rfl ?_
  refine Qv.step (d := .v _) (.as (u_pick rfl rfl rfl rfl rfl rfl rfl rfl rfl) rfl) rfl rfl ?_
  refine Qv.step (u_p rfl rfl rfl) rfl rfl ?_
  refine Qv.step (d := .gd _ _ (.agg [_, _])) (.as (q_ld (G := [(_, true)]) 0 rfl rfl rfl rfl rfl rfl rfl) rfl) rfl rfl ?_
  refine Qv.step (d := .gd _ _ (.agg [_, _])) (.as (q_ld (G := [(_, true)]) 2 rfl rfl rfl rfl rfl rfl rfl) rfl) rfl rfl ?_
  refine Qv.step (d := .gd _ _ _) (.as (q_eq (G := [(_, true)]) rfl rfl rfl rfl rfl rfl rfl rfl rfl rfl rfl rfl rfl) rfl) rfl rfl ?_
  refine Qv.step (d := .v _) (.as (u_pick rfl rfl rfl rfl rfl rfl rfl rfl rfl) rfl) rfl rfl ?_
  refine Qv.step (u_p rfl rfl rfl) rfl rfl ?_
  refine o_nil ?_
  refine x_go ?_
  refine w_ret (x_rt rfl rfl ?_)
  simp [r5On, pt_eqV, bne]

def r5Meet (a b c d : Pt) : Bool :=
  if r5Turn a b c == 0 && r5Turn a b d == 0 then (((r5On a c d || r5On b c d) || r5On c a b) || r5On d a b) || (r5Within a c d && r5Within b c d)
  else if ((a == c || a == d) || b == c) || b == d then false
  else !((r5Turn a b c == r5Turn a b d) || (r5Turn c d a == r5Turn c d b))
theorem r5Meet_ok (a b c d : Pt) : FunOk cx 25 [dPt a, dPt b, dPt c, dPt d] (.b (r5Meet a b c d)) := by
  refine fn_ok (c := _) _ Try.func25 rfl Try.ntmps25 rfl fun A w => ?_
  refine w_seq ?_
  refine w_reg ?_
  refine o_box rfl rfl rfl rfl rfl rfl ?_; intro b0
  refine o_box rfl rfl rfl rfl rfl rfl ?_; intro b1
  refine o_box rfl rfl rfl rfl rfl rfl ?_; intro b2
  refine o_box rfl rfl rfl rfl rfl rfl ?_; intro b3
  refine Qv.step (u_p rfl rfl rfl) rfl rfl ?_
  refine o_nil ?_
  refine x_go ?_
  refine w_seq ?_
  refine w_seq ?_
  refine w_reg ?_
  refine Qv.step (d := .agg [_, _]) (.as (u_ld 0 rfl rfl rfl rfl rfl rfl) rfl) rfl rfl ?_
  refine Qv.step (d := .agg [_, _]) (.as (u_ld 1 rfl rfl rfl rfl rfl rfl) rfl) rfl rfl ?_
  refine Qv.step (d := .agg [_, _]) (.as (u_ld 2 rfl rfl rfl rfl rfl rfl) rfl) rfl rfl ?_
  refine Qv.step (u_call (r5Turn_ok a b c) Try.call35 rfl rfl rfl) rfl rfl ?_
  refine Qv.step (u_p rfl rfl rfl) rfl rfl ?_
  refine Qv.step (u_p rfl rfl rfl) rfl rfl ?_
  refine Qv.step (d := .gd _ _ (.agg [_, _])) (.as (q_ld (G := [(_, true)]) 0 rfl rfl rfl rfl rfl rfl rfl) rfl) rfl rfl ?_
  refine Qv.step (d := .gd _ _ (.agg [_, _])) (.as (q_ld (G := [(_, true)]) 1 rfl rfl rfl rfl rfl rfl rfl) rfl) rfl rfl ?_
  refine Qv.step (d := .gd _ _ (.agg [_, _])) (.as (q_ld (G := [(_, true)]) 3 rfl rfl rfl rfl rfl rfl rfl) rfl) rfl rfl ?_
  refine Qv.step (d := .gd _ _ _) (.as (q_call (G := [(_, true)]) (r5Turn_ok a b d) Try.call35 rfl rfl rfl rfl) rfl) rfl rfl ?_
  refine Qv.step (d := .gd _ _ _) (.as (q_p (G := [(_, true)]) rfl rfl rfl rfl) rfl) rfl rfl ?_
  refine Qv.step (d := .v _) (.as (u_pick rfl rfl rfl rfl rfl rfl rfl rfl rfl) rfl) rfl rfl ?_
  refine o_nil ?_
  refine x_go ?_
  refine w_if rfl (fun h => ?_) (fun h => ?_)
  · refine w_seq ?_
    refine w_reg ?_
    refine Qv.step (d := .agg [_, _]) (.as (u_ld 0 rfl rfl rfl rfl rfl rfl) rfl) rfl rfl ?_
    refine Qv.step (d := .agg [_, _]) (.as (u_ld 2 rfl rfl rfl rfl rfl rfl) rfl) rfl rfl ?_
    refine Qv.step (d := .agg [_, _]) (.as (u_ld 3 rfl rfl rfl rfl rfl rfl) rfl) rfl rfl ?_
    refine Qv.step (u_call (r5On_ok a c d) Try.call24 rfl rfl rfl) rfl rfl ?_
    refine Qv.step (u_p rfl rfl rfl) rfl rfl ?_
    refine Qv.step (d := .gd _ _ (.agg [_, _])) (.as (q_ld (G := [(_, false)]) 1 rfl rfl rfl rfl rfl rfl rfl) rfl) rfl rfl ?_
    refine Qv.step (d := .gd _ _ (.agg [_, _])) (.as (q_ld (G := [(_, false)]) 2 rfl rfl rfl rfl rfl rfl rfl) rfl) rfl rfl ?_
    refine Qv.step (d := .gd _ _ (.agg [_, _])) (.as (q_ld (G := [(_, false)]) 3 rfl rfl rfl rfl rfl rfl rfl) rfl) rfl rfl ?_
    refine Qv.step (d := .gd _ _ _) (.as (q_call (G := [(_, false)]) (r5On_ok b c d) Try.call24 rfl rfl rfl rfl) rfl) rfl rfl ?_
    refine Qv.step (d := .v _) (.as (u_pick rfl rfl rfl rfl rfl rfl rfl rfl rfl) rfl) rfl rfl ?_
    refine Qv.step (u_p rfl rfl rfl) rfl rfl ?_
    refine Qv.step (d := .gd _ _ (.agg [_, _])) (.as (q_ld (G := [(_, false)]) 2 rfl rfl rfl rfl rfl rfl rfl) rfl) rfl rfl ?_
    refine Qv.step (d := .gd _ _ (.agg [_, _])) (.as (q_ld (G := [(_, false)]) 0 rfl rfl rfl rfl rfl rfl rfl) rfl) rfl rfl ?_
    refine Qv.step (d := .gd _ _ (.agg [_, _])) (.as (q_ld (G := [(_, false)]) 1 rfl rfl rfl rfl rfl rfl rfl) rfl) rfl rfl ?_
    refine Qv.step (d := .gd _ _ _) (.as (q_call (G := [(_, false)]) (r5On_ok c a b) Try.call24 rfl rfl rfl rfl) rfl) rfl rfl ?_
    refine Qv.step (d := .v _) (.as (u_pick rfl rfl rfl rfl rfl rfl rfl rfl rfl) rfl) rfl rfl ?_
    refine Qv.step (u_p rfl rfl rfl) rfl rfl ?_
    refine Qv.step (d := .gd _ _ (.agg [_, _])) (.as (q_ld (G := [(_, false)]) 3 rfl rfl rfl rfl rfl rfl rfl) rfl) rfl rfl ?_
    refine Qv.step (d := .gd _ _ (.agg [_, _])) (.as (q_ld (G := [(_, false)]) 0 rfl rfl rfl rfl rfl rfl rfl) rfl) rfl rfl ?_
    refine Qv.step (d := .gd _ _ (.agg [_, _])) (.as (q_ld (G := [(_, false)]) 1 rfl rfl rfl rfl rfl rfl rfl) rfl) rfl rfl ?_
    refine Qv.step (d := .gd _ _ _) (.as (q_call (G := [(_, false)]) (r5On_ok d a b) Try.call24 rfl rfl rfl rfl) rfl) rfl rfl ?_
    refine Qv.step (d := .v _) (.as (u_pick rfl rfl rfl rfl rfl rfl rfl rfl rfl) rfl) rfl rfl ?_
    refine Qv.step (u_p rfl rfl rfl) rfl rfl ?_
    refine Qv.step (d := .gd _ _ (.agg [_, _])) (.as (q_ld (G := [(_, false)]) 0 rfl rfl rfl rfl rfl rfl rfl) rfl) rfl rfl ?_
    refine Qv.step (d := .gd _ _ (.agg [_, _])) (.as (q_ld (G := [(_, false)]) 2 rfl rfl rfl rfl rfl rfl rfl) rfl) rfl rfl ?_
    refine Qv.step (d := .gd _ _ (.agg [_, _])) (.as (q_ld (G := [(_, false)]) 3 rfl rfl rfl rfl rfl rfl rfl) rfl) rfl rfl ?_
    refine Qv.step (d := .gd _ _ _) (.as (q_call (G := [(_, false)]) (r5Within_ok a c d) Try.call34 rfl rfl rfl rfl) rfl) rfl rfl ?_
    refine Qv.step (d := .gd _ _ _) (.as (q_p (G := [(_, false)]) rfl rfl rfl rfl) rfl) rfl rfl ?_
    refine Qv.step (d := .gd _ _ (.gd _ _ (.agg [_, _]))) (.as (q_ld (G := [(_, false), (_, true)]) 1 rfl rfl rfl rfl rfl rfl rfl) rfl) rfl rfl ?_
    refine Qv.step (d := .gd _ _ (.gd _ _ (.agg [_, _]))) (.as (q_ld (G := [(_, false), (_, true)]) 2 rfl rfl rfl rfl rfl rfl rfl) rfl) rfl rfl ?_
    refine Qv.step (d := .gd _ _ (.gd _ _ (.agg [_, _]))) (.as (q_ld (G := [(_, false), (_, true)]) 3 rfl rfl rfl rfl rfl rfl rfl) rfl) rfl rfl ?_
    refine Qv.step (d := .gd _ _ (.gd _ _ _)) (.as (q_call (G := [(_, false), (_, true)]) (r5Within_ok b c d) Try.call34 rfl rfl rfl rfl) rfl) rfl rfl ?_
    refine Qv.step (d := .gd _ _ (.v _)) (.as (q_pick (G := [(_, false)]) rfl rfl rfl rfl rfl rfl rfl rfl rfl rfl) rfl) rfl rfl ?_
    refine Qv.step (d := .v _) (.as (u_pick rfl rfl rfl rfl rfl rfl rfl rfl rfl) rfl) rfl rfl ?_
    refine Qv.step (u_p rfl rfl rfl) rfl rfl ?_
    refine o_nil ?_
    refine x_go ?_
    refine w_ret (x_rt rfl rfl ?_)
    have h' : (r5Turn a b c == 0 && r5Turn a b d == 0) = true := Eq.trans (by simp) h
    simp only [r5Meet, h', if_true]
    simp
  
  have h1 : (r5Turn a b c == 0 && r5Turn a b d == 0) = false := Eq.trans (by simp) h
  clear h
  refine w_skip ?_
  refine x_go ?_
  refine w_seq ?_
  refine w_seq ?_
  refine w_reg ?_
  refine Qv.step (d := .agg [_, _]) (.as (u_ld 0 rfl rfl rfl rfl rfl rfl) rfl) rfl rfl ?_
  refine Qv.step (d := .agg [_, _]) (.as (u_ld 2 rfl rfl rfl rfl rfl rfl) rfl) rfl rfl ?_
  refine Qv.step (u_eq rfl rfl rfl rfl rfl rfl rfl rfl rfl rfl rfl rfl) rfl rfl ?_
  refine Qv.step (u_p rfl rfl rfl) rfl rfl ?_
  refine Qv.step (d := .gd _ _ (.agg [_, _])) (.as (q_ld (G := [(_, false)]) 0 rfl rfl rfl rfl rfl rfl rfl) rfl) rfl rfl ?_
  refine Qv.step (d := .gd _ _ (.agg [_, _])) (.as (q_ld (G := [(_, false)]) 3 rfl rfl rfl rfl rfl rfl rfl) rfl) rfl rfl ?_
  refine Qv.step (d := .gd _ _ _) (.as (q_eq (G := [(_, false)]) rfl rfl rfl rfl rfl rfl rfl rfl rfl rfl rfl rfl rfl) rfl) rfl rfl ?_
  refine Qv.step (d := .v _) (.as (u_pick rfl rfl rfl rfl rfl rfl rfl rfl rfl) rfl) rfl rfl ?_
  refine Qv.step (u_p rfl rfl rfl) rfl rfl ?_
  refine Qv.step (d := .gd _ _ (.agg [_, _])) (.as (q_ld (G := [(_, false)]) 1 rfl rfl rfl rfl rfl rfl rfl) rfl) rfl rfl ?_
  refine Qv.step (d := .gd _ _ (.agg [_, _])) (.as (q_ld (G := [(_, false)]) 2 rfl rfl rfl rfl rfl rfl rfl) rfl) rfl rfl ?_
  refine Qv.step (d := .gd _ _ _) (.as (q_eq (G := [(_, false)]) rfl rfl rfl rfl rfl rfl rfl rfl rfl rfl rfl rfl rfl) rfl) rfl rfl ?_
  refine Qv.step (d := .v _) (.as (u_pick rfl rfl rfl rfl rfl rfl rfl rfl rfl) rfl) rfl rfl ?_
  refine Qv.step (u_p rfl rfl rfl) rfl rfl ?_
  refine Qv.step (d := .gd _ _ (.agg [_, _])) (.as (q_ld (G := [(_, false)]) 1 rfl rfl rfl rfl rfl rfl rfl) rfl) rfl rfl ?_
  refine Qv.step (d := .gd _ _ (.agg [_, _])) (.as (q_ld (G := [(_, false)]) 3 rfl rfl rfl rfl rfl rfl rfl) rfl) rfl rfl ?_
  refine Qv.step (d := .gd _ _ _) (.as (q_eq (G := [(_, false)]) rfl rfl rfl rfl rfl rfl rfl rfl rfl rfl rfl rfl rfl) rfl) rfl rfl ?_
  refine Qv.step (d := .v _) (.as (u_pick rfl rfl rfl rfl rfl rfl rfl rfl rfl) rfl) rfl rfl ?_
  refine o_nil ?_
  refine x_go ?_
  refine w_if rfl (fun h => ?_) (fun h => ?_)
  · refine w_seq ?_
    refine w_reg ?_
    refine Qv.step (u_p rfl rfl rfl) rfl rfl ?_
    refine o_nil ?_
    refine x_go ?_
    refine w_ret (x_rt rfl rfl ?_)
    have h' : (((a == c || a == d) || b == c) || b == d) = true := Eq.trans (by simp [pt_eqV]) h
    simp only [r5Meet, h1, h', if_true, Bool.false_eq_true, if_false]
  
  have h2 : (((a == c || a == d) || b == c) || b == d) = false := Eq.trans (by simp [pt_eqV]) h
  clear h
  refine w_skip ?_
  refine x_go ?_
  refine w_seq ?_
  refine d_begin ?_
  refine d_q (d := .agg [_, _]) [] (by kernel_rfl) rfl (fun _ _ _ => .onk (L' := []) rfl (u_ld 0 rfl rfl rfl rfl rfl rfl) rfl) ?_
  refine d_q (d := .agg [_, _]) [] (by kernel_rfl) rfl (fun _ _ _ => .onk (L' := []) rfl (u_ld 1 rfl rfl rfl rfl rfl rfl) rfl) ?_
  refine d_q (d := .agg [_, _]) [] (by kernel_rfl) rfl (fun _ _ _ => .onk (L' := []) rfl (u_ld 2 rfl rfl rfl rfl rfl rfl) rfl) ?_
  refine d_q [0, 1, 2] (by kernel_rfl) rfl (fun _ _ _ => .onk (L' := [(74, _), (75, _), (76, _)]) rfl (u_call (r5Turn_ok a b c) Try.call35 rfl rfl rfl) rfl) ?_
  refine d_q (d := .agg [_, _]) [] (by kernel_rfl) rfl (fun _ _ _ => .onk (L' := []) rfl (u_ld 0 rfl rfl rfl rfl rfl rfl) rfl) ?_
  refine d_q (d := .agg [_, _]) [] (by kernel_rfl) rfl (fun _ _ _ => .onk (L' := []) rfl (u_ld 1 rfl rfl rfl rfl rfl rfl) rfl) ?_
  refine d_q (d := .agg [_, _]) [] (by kernel_rfl) rfl (fun _ _ _ => .onk (L' := []) rfl (u_ld 3 rfl rfl rfl rfl rfl rfl) rfl) ?_
  refine d_q [4, 5, 6] (by kernel_rfl) rfl (fun _ _ _ => .onk (L' := [(78, _), (79, _), (80, _)]) rfl (u_call (r5Turn_ok a b d) Try.call35 rfl rfl rfl) rfl) ?_
  refine d_q [3, 7] (by kernel_rfl) rfl (fun _ _ _ => .onk (L' := [(77, _), (81, _)]) rfl (u_p rfl rfl rfl) rfl) ?_
  refine d_q [8] (by kernel_rfl) rfl (fun _ _ _ => .onk (L' := [(82, _)]) rfl (u_p rfl rfl rfl) rfl) ?_
  refine d_q (d := .gd _ _ (.agg [_, _])) [9] (by kernel_rfl) rfl (fun _ _ _ => .onk (L' := [(83, _)]) rfl (q_ld (G := [(_, false)]) 2 rfl rfl rfl rfl rfl rfl rfl) rfl) ?_
  refine d_q (d := .gd _ _ (.agg [_, _])) [9] (by kernel_rfl) rfl (fun _ _ _ => .onk (L' := [(83, _)]) rfl (q_ld (G := [(_, false)]) 3 rfl rfl rfl rfl rfl rfl rfl) rfl) ?_
  refine d_q (d := .gd _ _ (.agg [_, _])) [9] (by kernel_rfl) rfl (fun _ _ _ => .onk (L' := [(83, _)]) rfl (q_ld (G := [(_, false)]) 0 rfl rfl rfl rfl rfl rfl rfl) rfl) ?_
  refine d_q (d := .gd _ _ _) [9, 10, 11, 12] (by kernel_rfl) rfl (fun _ _ _ => .onk (L' := [(83, _), (84, _), (85, _), (86, _)]) rfl (q_call (G := [(_, false)]) (r5Turn_ok c d a) Try.call35 rfl rfl rfl rfl) rfl) ?_
  refine d_q (d := .gd _ _ (.agg [_, _])) [9] (by kernel_rfl) rfl (fun _ _ _ => .onk (L' := [(83, _)]) rfl (q_ld (G := [(_, false)]) 2 rfl rfl rfl rfl rfl rfl rfl) rfl) ?_
  refine d_q (d := .gd _ _ (.agg [_, _])) [9] (by kernel_rfl) rfl (fun _ _ _ => .onk (L' := [(83, _)]) rfl (q_ld (G := [(_, false)]) 3 rfl rfl rfl rfl rfl rfl rfl) rfl) ?_
  refine d_q (d := .gd _ _ (.agg [_, _])) [9] (by kernel_rfl) rfl (fun _ _ _ => .onk (L' := [(83, _)]) rfl (q_ld (G := [(_, false)]) 1 rfl rfl rfl rfl rfl rfl rfl) rfl) ?_
  refine d_q (d := .gd _ _ _) [9, 14, 15, 16] (by kernel_rfl) rfl (fun _ _ _ => .onk (L' := [(83, _), (88, _), (89, _), (90, _)]) rfl (q_call (G := [(_, false)]) (r5Turn_ok c d b) Try.call35 rfl rfl rfl rfl) rfl) ?_
  refine d_q (d := .gd _ _ _) [9, 13, 17] (by kernel_rfl) rfl (fun _ _ _ => .onk (L' := [(83, _), (87, _), (91, _)]) rfl (q_p (G := [(_, false)]) rfl rfl rfl rfl) rfl) ?_
  refine d_q (d := .v _) [9, 18] (by kernel_rfl) rfl (fun _ _ _ => .onk (L' := [(83, _), (92, _)]) rfl (u_pick rfl rfl rfl rfl rfl rfl rfl rfl rfl) rfl) ?_
  refine d_end (by kernel_rfl) (by kernel_rfl) (by kernel_rfl) (fun bs _ => so_as (L' := [(74, _), (75, _), (76, _), (77, _), (78, _), (79, _), (80, _), (81, _), (82, _), (83, _), (84, _), (85, _), (86, _), (87, _), (88, _), (89, _), (90, _), (91, _), (92, _), (93, _)]) (G' := []) rfl rfl ?_)
  refine Qv.step (u_p rfl rfl rfl) rfl rfl ?_
  refine o_nil ?_
  refine x_go ?_
  refine w_seq ?_
  refine w_reg ?_
  refine Qv.step (u_p rfl rfl rfl) rfl rfl ?_
  refine Qv.step (u_p rfl rfl rfl) rfl rfl ?_
  refine Qv.step (u_p rfl rfl rfl) rfl rfl ?_
  refine o_nil ?_
  refine x_go ?_
  refine w_ret (x_rt rfl rfl ?_)
  simp only [r5Meet, h1, h2, Bool.false_eq_true, if_false]
  simp

theorem wrapP {k : Nat} (h0 : 0 < k) (h : k < 4611686018427387904) : IntKind.i64.wrap ((k : Int) - 1) = ((k - 1 : Nat) : Int) := by
  simp only [IntKind.wrap]
  simp [IntKind.bits, IntKind.signed]
  omega

def r15V (id : Int) : Nat → List Vtx → Int
  | _, [] => -1
  | k, v :: l => if v.1 == id then (k : Int) else r15V id (k + 1) l
theorem r15V_lt (id : Int) : ∀ (l : List Vtx) (k : Nat), r15V id k l < (k : Int) + l.length ∧ -1 ≤ r15V id k l
  | [], k => by simp [r15V]; omega
  | v :: l, k => by
    simp only [r15V]
    split
    · simp; omega
    · have := r15V_lt id l (k + 1)
      simp at this ⊢
      omega
theorem r15V_ok (p : Pln) (hp : Sh p.1) (id : Int) : FunOk cx 9 [dPl p, .i id] (.i (r15V id 0 p.1)) := by
  have hq : p.1.length < 4611686018427387904 := hp
  refine fn_ok (c := _) _ Try.func9 rfl Try.ntmps9 rfl fun A w => ?_
  refine w_seq ?_
  refine w_reg ?_
  refine o_box rfl rfl rfl rfl rfl rfl ?_; intro b0
  refine Qv.step (u_p rfl rfl rfl) rfl rfl ?_
  refine o_nil ?_
  refine x_go ?_
  refine w_seq ?_
  refine w_seq ?_
  refine w_reg ?_
  refine Qv.step (u_p rfl rfl rfl) rfl rfl ?_
  refine o_nil ?_
  refine x_go ?_
  refine w_block ?_
  
  refine w_loop (fun k : Nat => k ≤ p.1.length ∧ r15V id k (p.1.drop k) = r15V id 0 p.1) (fun k => ([(5, .i k), (1, .i id), (2, .v (.pointer (some ⟨b0, 0, none⟩)))], [cellsR b0 25 (rPl p)])) (fun k => p.1.length - k) 0 ⟨Nat.zero_le _, rfl⟩ ⟨rfl, rfl, rfl, trivial⟩ rfl ?_
  rintro k ⟨hk, hI⟩
  refine w_seq ?_
  refine w_seq ?_
  refine w_reg ?_
  refine Qv.step (u_p rfl rfl rfl) rfl rfl ?_
  refine Qv.step (u_p rfl rfl rfl) rfl rfl ?_
  refine Qv.step (u_ld 0 rfl rfl rfl rfl rfl rfl) rfl rfl ?_
  refine Qv.step (u_len rfl rfl rfl rfl rfl rfl) rfl rfl ?_
  refine Qv.step (u_p rfl rfl rfl) rfl rfl ?_
  refine o_nil ?_
  refine x_go ?_
  refine w_if rfl (fun h => ?_) (fun h => ?_)
  · have hlt : k < p.1.length := by simpa using h
    rw [List.drop_eq_getElem_cons hlt, r15V] at hI
    clear h
    refine w_skip ?_
    refine x_go ?_
    refine w_seq ?_
    refine w_block ?_
    refine w_seq ?_
    refine w_reg ?_
    refine Qv.step (u_p rfl rfl rfl) rfl rfl ?_
    refine Qv.step (u_ld 0 rfl rfl rfl rfl rfl rfl) rfl rfl ?_
    refine Qv.step (u_p rfl rfl rfl) rfl rfl ?_
    refine Qv.step (u_ix rfl rfl rfl rfl rfl rfl rfl rfl (by omega) (by simp; omega)) rfl rfl ?_
    refine Qv.step (u_p rfl rfl rfl) rfl rfl ?_
    refine Qv.step (u_lde (r := rV p.1[k]) (by simp [hlt]) rfl rfl rfl rfl rfl) rfl rfl ?_
    refine Qv.step (u_p rfl rfl rfl) rfl rfl ?_
    refine Qv.step (u_p rfl rfl rfl) rfl rfl ?_
    refine o_nil ?_
    refine x_go ?_
    refine w_if rfl (fun h => ?_) (fun h => ?_)
    · refine w_seq ?_
      refine w_reg ?_
      refine Qv.step (u_p rfl rfl rfl) rfl rfl ?_
      refine Qv.step (u_p rfl rfl rfl) rfl rfl ?_
      refine o_nil ?_
      refine x_go ?_
      refine w_ret (x_rt rfl rfl ?_)
      rw [h, if_pos rfl] at hI
      rw [← hI]
    
    · rw [h, if_neg (by simp)] at hI
      refine w_skip ?_
      refine x_go ?_
      refine w_reg ?_
      refine Qv.step (u_p rfl rfl rfl) rfl rfl ?_
      refine Qv.step (u_p rfl rfl rfl) rfl rfl ?_
      refine Qv.step (u_p rfl rfl rfl) rfl rfl ?_
      refine o_nil ?_
      exact x_rd (k + 1) 1 (by omega) ⟨by omega, hI⟩ rfl ⟨lkS rfl (by omega), rfl, rfl, trivial⟩
  
  · have hge : ¬ k < p.1.length := by simpa using h
    refine w_exit ?_
    refine x_go ?_
    refine w_seq ?_
    refine w_reg ?_
    refine Qv.step (u_p rfl rfl rfl) rfl rfl ?_
    refine o_nil ?_
    refine x_go ?_
    refine w_ret (x_rt rfl rfl ?_)
    have hn : p.1.drop k = [] := List.drop_eq_nil_of_le (by omega)
    rw [← hI, hn]
    rfl

def r15Lk (a b : Int) (e : Edg) : Bool := (e.2.1 == a && e.2.2 == b) || (e.2.1 == b && e.2.2 == a)
def r15Links (p : Pln) (a b : Int) : Bool := p.2.any (r15Lk a b)
theorem r15Links_ok (p : Pln) (hp : Sh p.2) (a b : Int) : FunOk cx 10 [dPl p, .i a, .i b] (.b (r15Links p a b)) := by
  have hq : p.2.length < 4611686018427387904 := hp
  refine fn_ok (c := _) _ Try.func10 rfl Try.ntmps10 rfl fun A w => ?_
  refine w_seq ?_
  refine w_reg ?_
  refine o_box rfl rfl rfl rfl rfl rfl ?_; intro b0
  refine Qv.step (u_p rfl rfl rfl) rfl rfl ?_
  refine o_nil ?_
  refine x_go ?_
  refine w_seq ?_
  refine w_seq ?_
  refine w_reg ?_
  refine Qv.step (u_p rfl rfl rfl) rfl rfl ?_
  refine o_nil ?_
  refine x_go ?_
  refine w_block ?_
  
  refine w_loop (fun k : Nat => k ≤ p.2.length ∧ (p.2.drop k).any (r15Lk a b) = r15Links p a b) (fun k => ([(7, .i k), (1, .i a), (2, .i b), (3, .v (.pointer (some ⟨b0, 0, none⟩)))], [cellsR b0 25 (rPl p)])) (fun k => p.2.length - k) 0 ⟨Nat.zero_le _, rfl⟩ ⟨rfl, rfl, rfl, rfl, trivial⟩ rfl ?_
  rintro k ⟨hk, hI⟩
  refine w_seq ?_
  refine w_seq ?_
  refine w_reg ?_
  refine Qv.step (u_p rfl rfl rfl) rfl rfl ?_
  refine Qv.step (u_p rfl rfl rfl) rfl rfl ?_
  refine Qv.step (u_ld 0 rfl rfl rfl rfl rfl rfl) rfl rfl ?_
  refine Qv.step (u_len rfl rfl rfl rfl rfl rfl) rfl rfl ?_
  refine Qv.step (u_p rfl rfl rfl) rfl rfl ?_
  refine o_nil ?_
  refine x_go ?_
  refine w_if rfl (fun h => ?_) (fun h => ?_)
  · have hlt : k < p.2.length := by simpa using h
    rw [List.drop_eq_getElem_cons hlt, List.any_cons] at hI
    clear h
    refine w_skip ?_
    refine x_go ?_
    refine w_seq ?_
    refine w_block ?_
    refine w_seq ?_
    refine w_reg ?_
    refine Qv.step (u_p rfl rfl rfl) rfl rfl ?_
    refine Qv.step (u_ld 0 rfl rfl rfl rfl rfl rfl) rfl rfl ?_
    refine Qv.step (u_p rfl rfl rfl) rfl rfl ?_
    refine Qv.step (u_ix rfl rfl rfl rfl rfl rfl rfl rfl (by omega) (by simp; omega)) rfl rfl ?_
    refine Qv.step (d := .agg [_, _, _]) (.as (u_lde (r := rE p.2[k]) (by simp [hlt]) rfl rfl rfl rfl rfl) rfl) rfl rfl ?_
    refine o_alloc rfl rfl rfl rfl rfl rfl ?_; intro b1
    refine o_st 1 rfl rfl rfl rfl rfl rfl rfl rfl rfl rfl (by first | rfl | kernel_rfl) ?_
    refine o_nil ?_
    refine x_go ?_
    refine w_seq ?_
    refine w_reg ?_
    refine Qv.step (u_p rfl rfl rfl) rfl rfl ?_
    refine Qv.step (u_ld 1 rfl rfl rfl rfl rfl rfl) rfl rfl ?_
    refine Qv.step (u_p rfl rfl rfl) rfl rfl ?_
    refine Qv.step (u_p rfl rfl rfl) rfl rfl ?_
    refine Qv.step (u_p rfl rfl rfl) rfl rfl ?_
    refine Qv.step (d := .gd _ _ _) (.as (q_p (G := [(_, true)]) rfl rfl rfl rfl) rfl) rfl rfl ?_
    refine Qv.step (d := .gd _ _ _) (.as (q_ld (G := [(_, true)]) 1 rfl rfl rfl rfl rfl rfl rfl) rfl) rfl rfl ?_
    refine Qv.step (d := .gd _ _ _) (.as (q_p (G := [(_, true)]) rfl rfl rfl rfl) rfl) rfl rfl ?_
    refine Qv.step (d := .gd _ _ _) (.as (q_p (G := [(_, true)]) rfl rfl rfl rfl) rfl) rfl rfl ?_
    refine Qv.step (d := .v _) (.as (u_pick rfl rfl rfl rfl rfl rfl rfl rfl rfl) rfl) rfl rfl ?_
    refine Qv.step (u_p rfl rfl rfl) rfl rfl ?_
    refine Qv.step (d := .gd _ _ _) (.as (q_p (G := [(_, false)]) rfl rfl rfl rfl) rfl) rfl rfl ?_
    refine Qv.step (d := .gd _ _ _) (.as (q_ld (G := [(_, false)]) 1 rfl rfl rfl rfl rfl rfl rfl) rfl) rfl rfl ?_
    refine Qv.step (d := .gd _ _ _) (.as (q_p (G := [(_, false)]) rfl rfl rfl rfl) rfl) rfl rfl ?_
    refine Qv.step (d := .gd _ _ _) (.as (q_p (G := [(_, false)]) rfl rfl rfl rfl) rfl) rfl rfl ?_
    refine Qv.step (d := .gd _ _ _) (.as (q_p (G := [(_, false)]) rfl rfl rfl rfl) rfl) rfl rfl ?_
    refine Qv.step (d := .gd _ _ (.gd _ _ _)) (.as (q_p (G := [(_, false), (_, true)]) rfl rfl rfl rfl) rfl) rfl rfl ?_
    refine Qv.step (d := .gd _ _ (.gd _ _ _)) (.as (q_ld (G := [(_, false), (_, true)]) 1 rfl rfl rfl rfl rfl rfl rfl) rfl) rfl rfl ?_
    refine Qv.step (d := .gd _ _ (.gd _ _ _)) (.as (q_p (G := [(_, false), (_, true)]) rfl rfl rfl rfl) rfl) rfl rfl ?_
    refine Qv.step (d := .gd _ _ (.gd _ _ _)) (.as (q_p (G := [(_, false), (_, true)]) rfl rfl rfl rfl) rfl) rfl rfl ?_
    refine Qv.step (d := .gd _ _ (.v _)) (.as (q_pick (G := [(_, false)]) rfl rfl rfl rfl rfl rfl rfl rfl rfl rfl) rfl) rfl rfl ?_
    refine Qv.step (d := .v _) (.as (u_pick rfl rfl rfl rfl rfl rfl rfl rfl rfl) rfl) rfl rfl ?_
    refine o_nil ?_
    refine x_go ?_
    refine w_if rfl (fun h => ?_) (fun h => ?_)
    · refine w_seq ?_
      refine w_reg ?_
      refine Qv.step (u_p rfl rfl rfl) rfl rfl ?_
      refine o_nil ?_
      refine x_go ?_
      refine w_ret (x_rt rfl rfl ?_)
      have h' : r15Lk a b p.2[k] = true := Eq.trans (by simp [r15Lk]) h
      rw [← hI, h', Bool.true_or]
    
    · have h' : r15Lk a b p.2[k] = false := Eq.trans (by simp [r15Lk]) h
      rw [h', Bool.false_or] at hI
      refine w_skip ?_
      refine x_go ?_
      refine w_reg ?_
      refine Qv.step (u_p rfl rfl rfl) rfl rfl ?_
      refine Qv.step (u_p rfl rfl rfl) rfl rfl ?_
      refine Qv.step (u_p rfl rfl rfl) rfl rfl ?_
      refine o_nil ?_
      exact x_rd (k + 1) 1 (by omega) ⟨by omega, hI⟩ rfl ⟨lkS rfl (by omega), rfl, rfl, rfl, trivial⟩
  
  · have hge : ¬ k < p.2.length := by simpa using h
    refine w_exit ?_
    refine x_go ?_
    refine w_seq ?_
    refine w_reg ?_
    refine Qv.step (u_p rfl rfl rfl) rfl rfl ?_
    refine o_nil ?_
    refine x_go ?_
    refine w_ret (x_rt rfl rfl ?_)
    have hn : p.2.drop k = [] := List.drop_eq_nil_of_le (by omega)
    rw [← hI, hn]
    rfl

def r15On (p : Pln) (a b : Pt) : Bool := p.1.any fun v => r5On v.2 a b
theorem r15On_ok (p : Pln) (hp : Sh p.1) (a b : Pt) : FunOk cx 11 [dPl p, dPt a, dPt b] (.b (r15On p a b)) := by
  have hq : p.1.length < 4611686018427387904 := hp
  refine fn_ok (c := _) _ Try.func11 rfl Try.ntmps11 rfl fun A w => ?_
  refine w_seq ?_
  refine w_reg ?_
  refine o_box rfl rfl rfl rfl rfl rfl ?_; intro b0
  refine o_box rfl rfl rfl rfl rfl rfl ?_; intro b1
  refine o_box rfl rfl rfl rfl rfl rfl ?_; intro b2
  refine Qv.step (u_p rfl rfl rfl) rfl rfl ?_
  refine o_nil ?_
  refine x_go ?_
  refine w_seq ?_
  refine w_seq ?_
  refine w_reg ?_
  refine Qv.step (u_p rfl rfl rfl) rfl rfl ?_
  refine o_nil ?_
  refine x_go ?_
  refine w_block ?_
  
  refine w_loop (fun k : Nat => k ≤ p.1.length ∧ (p.1.drop k).any (fun v => r5On v.2 a b) = r15On p a b) (fun k => ([(7, .i k), (3, .v (.pointer (some ⟨b0, 0, none⟩))), (4, .v (.pointer (some ⟨b1, 0, none⟩))), (5, .v (.pointer (some ⟨b2, 0, none⟩)))],
    [cellsR b0 25 (rPl p), cellsR b1 50 (rPt a), cellsR b2 50 (rPt b)])) (fun k => p.1.length - k) 0 ⟨Nat.zero_le _, rfl⟩ ⟨rfl, rfl, rfl, rfl, trivial⟩ rfl ?_
  rintro k ⟨hk, hI⟩
  refine w_seq ?_
  refine w_seq ?_
  refine w_reg ?_
  refine Qv.step (u_p rfl rfl rfl) rfl rfl ?_
  refine Qv.step (u_p rfl rfl rfl) rfl rfl ?_
  refine Qv.step (u_ld 0 rfl rfl rfl rfl rfl rfl) rfl rfl ?_
  refine Qv.step (u_len rfl rfl rfl rfl rfl rfl) rfl rfl ?_
  refine Qv.step (u_p rfl rfl rfl) rfl rfl ?_
  refine o_nil ?_
  refine x_go ?_
  refine w_if rfl (fun h => ?_) (fun h => ?_)
  · have hlt : k < p.1.length := by simpa using h
    rw [List.drop_eq_getElem_cons hlt, List.any_cons] at hI
    clear h
    refine w_skip ?_
    refine x_go ?_
    refine w_seq ?_
    refine w_block ?_
    refine w_seq ?_
    refine d_begin ?_
    refine d_q [] (by kernel_rfl) rfl (fun _ _ _ => .onk (L' := []) rfl (u_p rfl rfl rfl) rfl) ?_
    refine d_q [0] (by kernel_rfl) rfl (fun _ _ _ => .onk (L' := [(15, _)]) rfl (u_ld 0 rfl rfl rfl rfl rfl rfl) rfl) ?_
    refine d_q [] (by kernel_rfl) rfl (fun _ _ _ => .onk (L' := []) rfl (u_p rfl rfl rfl) rfl) ?_
    refine d_q [1, 2] (by kernel_rfl) rfl (fun _ _ _ => .onk (L' := [(16, _), (17, _)]) rfl (u_ix rfl rfl rfl rfl rfl rfl rfl rfl (by omega) (by simp; omega)) rfl) ?_
    refine d_q [3] (by kernel_rfl) rfl (fun _ _ _ => .onk (L' := [(18, _)]) rfl (u_p rfl rfl rfl) rfl) ?_
    refine d_q (d := .agg [_, _]) [4] (by kernel_rfl) rfl (fun _ _ _ => .onk (L' := [(19, _)]) rfl (u_lde (r := rV p.1[k]) (by simp [hlt]) rfl rfl rfl rfl rfl) rfl) ?_
    refine d_q (d := .agg [_, _]) [] (by kernel_rfl) rfl (fun _ _ _ => .onk (L' := []) rfl (u_ld 1 rfl rfl rfl rfl rfl rfl) rfl) ?_
    refine d_q (d := .agg [_, _]) [] (by kernel_rfl) rfl (fun _ _ _ => .onk (L' := []) rfl (u_ld 2 rfl rfl rfl rfl rfl rfl) rfl) ?_
    refine d_end (by kernel_rfl) (by kernel_rfl) (by kernel_rfl) (fun bs _ => so_as (L' := [(15, _), (16, _), (17, _), (18, _), (19, _), (20, _), (21, _), (22, _)]) (G' := []) rfl rfl ?_)
    refine Qv.step (u_call (r5On_ok p.1[k].2 a b) Try.call24 rfl rfl rfl) rfl rfl ?_
    refine o_nil ?_
    refine x_go ?_
    refine w_if rfl (fun h => ?_) (fun h => ?_)
    · refine w_seq ?_
      refine w_reg ?_
      refine Qv.step (u_p rfl rfl rfl) rfl rfl ?_
      refine o_nil ?_
      refine x_go ?_
      refine w_ret (x_rt rfl rfl ?_)
      rw [← hI, h, Bool.true_or]
    
    · rw [h, Bool.false_or] at hI
      refine w_skip ?_
      refine x_go ?_
      refine w_reg ?_
      refine Qv.step (u_p rfl rfl rfl) rfl rfl ?_
      refine Qv.step (u_p rfl rfl rfl) rfl rfl ?_
      refine Qv.step (u_p rfl rfl rfl) rfl rfl ?_
      refine o_nil ?_
      exact x_rd (k + 1) 3 (by omega) ⟨by omega, hI⟩ rfl ⟨lkS rfl (by omega), rfl, rfl, rfl, trivial⟩
  
  · have hge : ¬ k < p.1.length := by simpa using h
    refine w_exit ?_
    refine x_go ?_
    refine w_seq ?_
    refine w_reg ?_
    refine Qv.step (u_p rfl rfl rfl) rfl rfl ?_
    refine o_nil ?_
    refine x_go ?_
    refine w_ret (x_rt rfl rfl ?_)
    have hn : p.1.drop k = [] := List.drop_eq_nil_of_le (by omega)
    rw [← hI, hn]
    rfl

def r15At (p : Pln) (id : Int) : Pt := (p.1.getD (r15V id 0 p.1).toNat (0, 0, 0)).2
theorem r15At_ok (p : Pln) (hp : Sh p.1) (id : Int) (h0 : 0 ≤ r15V id 0 p.1) : FunOk cx 12 [dPl p, .i id] (dPt (r15At p id)) := by
  have hv := (r15V_lt id p.1 0).1
  have hlt : (r15V id 0 p.1).toNat < p.1.length := by omega
  refine fn_ok (c := _) _ Try.func12 rfl Try.ntmps12 rfl fun A w => ?_
  refine w_seq ?_
  refine w_reg ?_
  refine o_box rfl rfl rfl rfl rfl rfl ?_; intro b0
  refine o_alloc rfl rfl rfl rfl rfl rfl ?_; intro b1
  refine o_nil ?_
  refine x_go ?_
  refine w_seq ?_
  refine d_begin ?_
  refine d_q [] (by kernel_rfl) rfl (fun _ _ _ => .onk (L' := []) rfl (u_p rfl rfl rfl) rfl) ?_
  refine d_q [0] (by kernel_rfl) rfl (fun _ _ _ => .onk (L' := [(5, _)]) rfl (u_ld 0 rfl rfl rfl rfl rfl rfl) rfl) ?_
  refine d_q (d := .agg [_, _]) [] (by kernel_rfl) rfl (fun _ _ _ => .onk (L' := []) rfl (u_ld 0 rfl rfl rfl rfl rfl rfl) rfl) ?_
  refine d_q [] (by kernel_rfl) rfl (fun _ _ _ => .onk (L' := []) rfl (u_p rfl rfl rfl) rfl) ?_
  refine d_q [2, 3] (by kernel_rfl) rfl (fun _ _ _ => .onk (L' := [(7, _), (8, _)]) rfl (u_call (r15V_ok p hp id) Try.call9 rfl rfl rfl) rfl) ?_
  refine d_q [1, 4] (by kernel_rfl) rfl (fun _ _ _ => .onk (L' := [(6, _), (9, _)]) rfl (u_ix rfl rfl rfl rfl rfl rfl rfl rfl h0 (by simp; omega)) rfl) ?_
  refine d_q [5] (by kernel_rfl) rfl (fun _ _ _ => .onk (L' := [(10, _)]) rfl (u_p rfl rfl rfl) rfl) ?_
  refine d_q (d := .agg [_, _]) [6] (by kernel_rfl) rfl (fun _ _ _ => .onk (L' := [(11, _)]) rfl (u_lde (r := rV (p.1.getD (r15V id 0 p.1).toNat (0, 0, 0))) (by simp [hlt]) rfl rfl rfl rfl rfl) rfl) ?_
  refine d_end (by kernel_rfl) (by kernel_rfl) (by kernel_rfl) (fun bs _ => so_as (L' := [(5, _), (6, _), (7, _), (8, _), (9, _), (10, _), (11, _), (12, _)]) (G' := []) rfl rfl ?_)
  refine o_st 1 rfl rfl rfl rfl rfl rfl rfl rfl rfl rfl (by first | rfl | kernel_rfl) ?_
  refine o_nil ?_
  refine x_go ?_
  exact w_ret (x_r1 rfl (rs_c 1 rfl rfl rfl rfl) rfl)

/-- The first n edges end at vertices that are there. -/
def r15Has (p : Pln) (e : Edg) : Prop := 0 ≤ r15V e.2.1 0 p.1 ∧ 0 ≤ r15V e.2.2 0 p.1
def r15M (p : Pln) (a b : Pt) (e : Edg) : Bool := r5Meet a b (r15At p e.2.1) (r15At p e.2.2)
def r15Meets (p : Pln) (a b : Pt) (n : Nat) : Bool := (p.2.take n).any (r15M p a b)
theorem r15Meets_ok (p : Pln) (hp : Sh p.1) (hp2 : Sh p.2) (a b : Pt) (n : Nat) (hn : n ≤ p.2.length) (hH : ∀ e ∈ p.2.take n, r15Has p e) : FunOk cx 13 [dPl p, dPt a, dPt b, .i n] (.b (r15Meets p a b n)) := by
  have hq : p.1.length < 4611686018427387904 := hp
  have hq2 : p.2.length < 4611686018427387904 := hp2
  have hl : (p.2.take n).length = n := by simp; omega
  refine fn_ok (c := _) _ Try.func13 rfl Try.ntmps13 rfl fun A w => ?_
  refine w_seq ?_
  refine w_reg ?_
  refine o_box rfl rfl rfl rfl rfl rfl ?_; intro b0
  refine o_box rfl rfl rfl rfl rfl rfl ?_; intro b1
  refine o_box rfl rfl rfl rfl rfl rfl ?_; intro b2
  refine Qv.step (u_p rfl rfl rfl) rfl rfl ?_
  refine o_nil ?_
  refine x_go ?_
  refine w_seq ?_
  refine w_seq ?_
  refine w_reg ?_
  refine Qv.step (u_p rfl rfl rfl) rfl rfl ?_
  refine o_nil ?_
  refine x_go ?_
  refine w_block ?_
  
  refine w_loop (fun k : Nat => k ≤ n ∧ ((p.2.take n).drop k).any (r15M p a b) = r15Meets p a b n) (fun k => ([(9, .i k), (3, .i n), (4, .v (.pointer (some ⟨b0, 0, none⟩))), (5, .v (.pointer (some ⟨b1, 0, none⟩))), (6, .v (.pointer (some ⟨b2, 0, none⟩)))],
    [cellsR b0 25 (rPl p), cellsR b1 50 (rPt a), cellsR b2 50 (rPt b)])) (fun k => n - k) 0 ⟨Nat.zero_le _, rfl⟩ ⟨rfl, rfl, rfl, rfl, rfl, trivial⟩ rfl ?_
  rintro k ⟨hk, hI⟩
  refine w_seq ?_
  refine w_seq ?_
  refine w_reg ?_
  refine Qv.step (u_p rfl rfl rfl) rfl rfl ?_
  refine Qv.step (u_p rfl rfl rfl) rfl rfl ?_
  refine Qv.step (u_p rfl rfl rfl) rfl rfl ?_
  refine o_nil ?_
  refine x_go ?_
  refine w_if rfl (fun h => ?_) (fun h => ?_)
  · have hlt0 : k < n := by simpa using h
    have hlt : k < p.2.length := by omega
    have hlt1 : k < (p.2.take n).length := by omega
    have hget : (p.2.take n)[k] = p.2[k] := by simp
    rw [List.drop_eq_getElem_cons hlt1, List.any_cons, hget] at hI
    obtain ⟨hA, hB⟩ := hH p.2[k] (by rw [← hget]; exact List.getElem_mem hlt1)
    clear h
    refine w_skip ?_
    refine x_go ?_
    refine w_seq ?_
    refine w_block ?_
    refine w_seq ?_
    refine d_begin ?_
    refine d_q (d := .agg [_, _]) [] (by kernel_rfl) rfl (fun _ _ _ => .onk (L' := []) rfl (u_ld 1 rfl rfl rfl rfl rfl rfl) rfl) ?_
    refine d_q (d := .agg [_, _]) [] (by kernel_rfl) rfl (fun _ _ _ => .onk (L' := []) rfl (u_ld 2 rfl rfl rfl rfl rfl rfl) rfl) ?_
    refine d_q (d := .agg [_, _]) [] (by kernel_rfl) rfl (fun _ _ _ => .onk (L' := []) rfl (u_ld 0 rfl rfl rfl rfl rfl rfl) rfl) ?_
    refine d_q [] (by kernel_rfl) rfl (fun _ _ _ => .onk (L' := []) rfl (u_p rfl rfl rfl) rfl) ?_
    refine d_q [3] (by kernel_rfl) rfl (fun _ _ _ => .onk (L' := [(18, _)]) rfl (u_ld 0 rfl rfl rfl rfl rfl rfl) rfl) ?_
    refine d_q [] (by kernel_rfl) rfl (fun _ _ _ => .onk (L' := []) rfl (u_p rfl rfl rfl) rfl) ?_
    refine d_q [4, 5] (by kernel_rfl) rfl (fun _ _ _ => .onk (L' := [(19, _), (20, _)]) rfl (u_ix rfl rfl rfl rfl rfl rfl rfl rfl (by omega) (by simp; omega)) rfl) ?_
    refine d_q [6] (by kernel_rfl) rfl (fun _ _ _ => .onk (L' := [(21, _)]) rfl (u_p rfl rfl rfl) rfl) ?_
    refine d_q [7] (by kernel_rfl) rfl (fun _ _ _ => .onk (L' := [(22, _)]) rfl (u_lde (r := rE p.2[k]) (by simp [hlt]) rfl rfl rfl rfl rfl) rfl) ?_
    refine d_q [2, 8] (by kernel_rfl) rfl (fun _ _ _ => .onk (L' := [(17, _), (23, _)]) rfl (u_call (r15At_ok p hp p.2[k].2.1 hA) Try.call12 rfl rfl rfl) rfl) ?_
    refine d_q (d := .agg [_, _]) [] (by kernel_rfl) rfl (fun _ _ _ => .onk (L' := []) rfl (u_ld 0 rfl rfl rfl rfl rfl rfl) rfl) ?_
    refine d_q [] (by kernel_rfl) rfl (fun _ _ _ => .onk (L' := []) rfl (u_p rfl rfl rfl) rfl) ?_
    refine d_q [11] (by kernel_rfl) rfl (fun _ _ _ => .onk (L' := [(26, _)]) rfl (u_ld 0 rfl rfl rfl rfl rfl rfl) rfl) ?_
    refine d_q [] (by kernel_rfl) rfl (fun _ _ _ => .onk (L' := []) rfl (u_p rfl rfl rfl) rfl) ?_
    refine d_q [12, 13] (by kernel_rfl) rfl (fun _ _ _ => .onk (L' := [(27, _), (28, _)]) rfl (u_ix rfl rfl rfl rfl rfl rfl rfl rfl (by omega) (by simp; omega)) rfl) ?_
    refine d_q [14] (by kernel_rfl) rfl (fun _ _ _ => .onk (L' := [(29, _)]) rfl (u_p rfl rfl rfl) rfl) ?_
    refine d_q [15] (by kernel_rfl) rfl (fun _ _ _ => .onk (L' := [(30, _)]) rfl (u_lde (r := rE p.2[k]) (by simp [hlt]) rfl rfl rfl rfl rfl) rfl) ?_
    refine d_q [10, 16] (by kernel_rfl) rfl (fun _ _ _ => .onk (L' := [(25, _), (31, _)]) rfl (u_call (r15At_ok p hp p.2[k].2.2 hB) Try.call12 rfl rfl rfl) rfl) ?_
    refine d_end (by kernel_rfl) (by kernel_rfl) (by kernel_rfl) (fun bs _ => so_as (L' := [(15, _), (16, _), (17, _), (18, _), (19, _), (20, _), (21, _), (22, _), (23, _), (24, _), (25, _), (26, _), (27, _), (28, _), (29, _), (30, _), (31, _), (32, _)]) (G' := []) rfl rfl ?_)
    refine Qv.step (u_call (r5Meet_ok a b (r15At p p.2[k].2.1) (r15At p p.2[k].2.2)) Try.call25 rfl rfl rfl) rfl rfl ?_
    refine o_nil ?_
    refine x_go ?_
    refine w_if rfl (fun h => ?_) (fun h => ?_)
    · refine w_seq ?_
      refine w_reg ?_
      refine Qv.step (u_p rfl rfl rfl) rfl rfl ?_
      refine o_nil ?_
      refine x_go ?_
      refine w_ret (x_rt rfl rfl ?_)
      have h' : r15M p a b p.2[k] = true := h
      rw [← hI, h', Bool.true_or]
    
    · have h' : r15M p a b p.2[k] = false := h
      rw [h', Bool.false_or] at hI
      refine w_skip ?_
      refine x_go ?_
      refine w_reg ?_
      refine Qv.step (u_p rfl rfl rfl) rfl rfl ?_
      refine Qv.step (u_p rfl rfl rfl) rfl rfl ?_
      refine Qv.step (u_p rfl rfl rfl) rfl rfl ?_
      refine o_nil ?_
      exact x_rd (k + 1) 3 (by omega) ⟨by omega, hI⟩ rfl ⟨lkS rfl (by omega), rfl, rfl, rfl, rfl, trivial⟩
  
  · have hge : ¬ k < n := by simpa using h
    refine w_exit ?_
    refine x_go ?_
    refine w_seq ?_
    refine w_reg ?_
    refine Qv.step (u_p rfl rfl rfl) rfl rfl ?_
    refine o_nil ?_
    refine x_go ?_
    refine w_ret (x_rt rfl rfl ?_)
    have hn : (p.2.take n).drop k = [] := List.drop_eq_nil_of_le (by omega)
    rw [← hI, hn]
    rfl

def r15Vbad (vs : List Vtx) (i : Nat) (v : Vtx) : Bool := (decide (v.1 < 1) || (decide ((i : Int) > 0) && decide ((vs.getD (i - 1) (0, 0, 0)).1 ≥ v.1))) || !r5In v.2
def r15VL (vs : List Vtx) : Nat → List Vtx → Bool
  | _, [] => true
  | i, v :: l => if r15Vbad vs i v then false else if (vs.take i).any (fun u => u.2 == v.2) then false else r15VL vs (i + 1) l
def r15Ebad (p : Pln) (i : Nat) (e : Edg) : Bool :=
  (((decide (e.1 < 1) || (decide ((i : Int) > 0) && decide ((p.2.getD (i - 1) (0, 0, 0)).1 ≥ e.1))) || (e.2.1 == e.2.2)) || decide (r15V e.2.1 0 p.1 < 0)) || decide (r15V e.2.2 0 p.1 < 0)
def r15Ebad2 (p : Pln) (i : Nat) (e : Edg) : Bool :=
  (r15Links (p.1, p.2.take i) e.2.1 e.2.2 || r15On p (r15At p e.2.1) (r15At p e.2.2)) || r15Meets p (r15At p e.2.1) (r15At p e.2.2) i
def r15EL (p : Pln) : Nat → List Edg → Bool
  | _, [] => true
  | i, e :: l => if r15Ebad p i e then false else if r15Ebad2 p i e then false else r15EL p (i + 1) l
def r15Right (p : Pln) : Bool :=
  if decide ((p.1.length : Int) > 512) || decide ((p.2.length : Int) > 1024) then false else
  if r15VL p.1 0 p.1 then r15EL p 0 p.2 else false

theorem r15Right_ok (p : Pln) (hp : Sh p.1) (hp2 : Sh p.2) : FunOk cx 5 [dPl p] (.b (r15Right p)) := by
  have hq : p.1.length < 4611686018427387904 := hp
  have hq2 : p.2.length < 4611686018427387904 := hp2
  refine fn_ok (c := _) _ Try.func5 rfl Try.ntmps5 rfl fun A w => ?_
  refine w_seq ?_
  refine w_reg ?_
  refine o_box rfl rfl rfl rfl rfl rfl ?_; intro b0
  refine Qv.step (u_p rfl rfl rfl) rfl rfl ?_
  refine o_nil ?_
  refine x_go ?_
  refine w_seq ?_
  refine w_seq ?_
  refine w_reg ?_
  refine Qv.step (u_p rfl rfl rfl) rfl rfl ?_
  refine Qv.step (u_ld 0 rfl rfl rfl rfl rfl rfl) rfl rfl ?_
  refine Qv.step (u_len rfl rfl rfl rfl rfl rfl) rfl rfl ?_
  refine Qv.step (u_p rfl rfl rfl) rfl rfl ?_
  refine Qv.step (u_p rfl rfl rfl) rfl rfl ?_
  refine Qv.step (d := .gd _ _ _) (.as (q_p (G := [(_, false)]) rfl rfl rfl rfl) rfl) rfl rfl ?_
  refine Qv.step (d := .gd _ _ _) (.as (q_ld (G := [(_, false)]) 0 rfl rfl rfl rfl rfl rfl rfl) rfl) rfl rfl ?_
  refine Qv.step (d := .gd _ _ _) (.as (q_len (G := [(_, false)]) rfl rfl rfl rfl rfl rfl rfl) rfl) rfl rfl ?_
  refine Qv.step (d := .gd _ _ _) (.as (q_p (G := [(_, false)]) rfl rfl rfl rfl) rfl) rfl rfl ?_
  refine Qv.step (d := .v _) (.as (u_pick rfl rfl rfl rfl rfl rfl rfl rfl rfl) rfl) rfl rfl ?_
  refine o_nil ?_
  refine x_go ?_
  refine w_if rfl (fun h => ?_) (fun h => ?_)
  · refine w_seq ?_
    refine w_reg ?_
    refine Qv.step (u_p rfl rfl rfl) rfl rfl ?_
    refine o_nil ?_
    refine x_go ?_
    refine w_ret (x_rt rfl rfl ?_)
    have h' : (decide ((p.1.length : Int) > 512) || decide ((p.2.length : Int) > 1024)) = true := Eq.trans (by simp) h
    simp only [r15Right, h', if_true]
  
  have h0 : (decide ((p.1.length : Int) > 512) || decide ((p.2.length : Int) > 1024)) = false := Eq.trans (by simp) h
  clear h
  refine w_skip ?_
  refine x_go ?_
  refine w_seq ?_
  refine w_seq ?_
  refine w_reg ?_
  refine Qv.step (u_p rfl rfl rfl) rfl rfl ?_
  refine o_nil ?_
  refine x_go ?_
  refine w_block ?_
  
  refine w_loop (fun k : Nat => k ≤ p.1.length ∧ r15VL p.1 k (p.1.drop k) = r15VL p.1 0 p.1) (fun k => ([(3, .i k), (1, .v (.pointer (some ⟨b0, 0, none⟩)))], [cellsR b0 25 (rPl p)])) (fun k => p.1.length - k) 0 ⟨Nat.zero_le _, rfl⟩ ⟨rfl, rfl, trivial⟩ rfl ?_
  rintro k ⟨hk, hI⟩
  refine w_seq ?_
  refine w_seq ?_
  refine w_reg ?_
  refine Qv.step (u_p rfl rfl rfl) rfl rfl ?_
  refine Qv.step (u_p rfl rfl rfl) rfl rfl ?_
  refine Qv.step (u_ld 0 rfl rfl rfl rfl rfl rfl) rfl rfl ?_
  refine Qv.step (u_len rfl rfl rfl rfl rfl rfl) rfl rfl ?_
  refine Qv.step (u_p rfl rfl rfl) rfl rfl ?_
  refine o_nil ?_
  refine x_go ?_
  refine w_if rfl (fun h => ?_) (fun h => ?_)
  · have hlt : k < p.1.length := by simpa using h
    rw [List.drop_eq_getElem_cons hlt, r15VL] at hI
    clear h
    refine w_skip ?_
    refine x_go ?_
    refine w_seq ?_
    refine w_block ?_
    refine w_seq ?_
    refine w_reg ?_
    refine Qv.step (u_p rfl rfl rfl) rfl rfl ?_
    refine Qv.step (u_ld 0 rfl rfl rfl rfl rfl rfl) rfl rfl ?_
    refine Qv.step (u_p rfl rfl rfl) rfl rfl ?_
    refine Qv.step (u_ix rfl rfl rfl rfl rfl rfl rfl rfl (by omega) (by simp; omega)) rfl rfl ?_
    refine Qv.step (d := .agg [_, _, _]) (.as (u_lde (r := rV p.1[k]) (by simp [hlt]) rfl rfl rfl rfl rfl) rfl) rfl rfl ?_
    refine o_alloc rfl rfl rfl rfl rfl rfl ?_; intro b1
    refine o_st 1 rfl rfl rfl rfl rfl rfl rfl rfl rfl rfl (by first | rfl | kernel_rfl) ?_
    refine o_nil ?_
    refine x_go ?_
    refine w_seq ?_
    refine w_seq ?_
    refine d_begin ?_
    refine d_q [] (by kernel_rfl) rfl (fun _ _ _ => .onk (L' := []) rfl (u_p rfl rfl rfl) rfl) ?_
    refine d_q [0] (by kernel_rfl) rfl (fun _ _ _ => .onk (L' := [(31, _)]) rfl (u_ld 1 rfl rfl rfl rfl rfl rfl) rfl) ?_
    refine d_q [1] (by kernel_rfl) rfl (fun _ _ _ => .onk (L' := [(32, _)]) rfl (u_p rfl rfl rfl) rfl) ?_
    refine d_q [2] (by kernel_rfl) rfl (fun _ _ _ => .onk (L' := [(33, _)]) rfl (u_p rfl rfl rfl) rfl) ?_
    refine d_q (d := .gd _ _ _) [3] (by kernel_rfl) rfl (fun _ _ _ => .onk (L' := [(34, _)]) rfl (q_p (G := [(_, false)]) rfl rfl rfl rfl) rfl) ?_
    refine d_q (d := .gd _ _ _) [3, 4] (by kernel_rfl) rfl (fun _ _ _ => .onk (L' := [(34, _), (35, _)]) rfl (q_p (G := [(_, false)]) rfl rfl rfl rfl) rfl) ?_
    refine d_q (d := .gd _ _ _) [3, 5] (by kernel_rfl) rfl (fun _ _ _ => .onk (L' := [(34, _), (36, _)]) rfl (q_p (G := [(_, false)]) rfl rfl rfl rfl) rfl) ?_
    refine d_q (d := .gd _ _ (.gd _ _ _)) [6] (by kernel_rfl) rfl (fun _ _ _ => .onk (L' := [(37, _)]) rfl (q_p (G := [(_, false), (_, true)]) rfl rfl rfl rfl) rfl) ?_
    refine d_q (d := .gd _ _ (.gd _ _ _)) [6, 7] (by kernel_rfl) rfl (fun _ _ _ => .onk (L' := [(37, _), (38, _)]) rfl (q_ld (G := [(_, false), (_, true)]) 0 rfl rfl rfl rfl rfl rfl rfl) rfl) ?_
    refine d_q (d := .gd _ _ (.gd _ _ _)) [6] (by kernel_rfl) rfl (fun _ _ _ => .onk (L' := [(37, _)]) rfl (q_p (G := [(_, false), (_, true)]) rfl rfl rfl rfl) rfl) ?_
    refine d_q (d := .gd _ _ (.gd _ _ _)) [6, 9] (by kernel_rfl) rfl (fun _ _ _ => .onk (L' := [(37, _), (40, _)]) rfl (q_p (G := [(_, false), (_, true)]) rfl rfl rfl rfl) rfl) ?_
    refine d_q (d := .gd _ _ (.gd _ _ _)) [6, 8, 10] (by kernel_rfl) rfl (fun _ _ _ => .onk (L' := [(37, _), (39, _), (41, _)]) rfl (q_ix (G := [(_, false), (_, true)]) rfl rfl rfl rfl rfl rfl rfl rfl rfl (fun hT => by have := hT.2.1; simp at this; rw [wrapP (by omega) (by omega)]; omega) (fun hT => by have := hT.2.1; simp at this; rw [wrapP (by omega) (by omega)]; simp; omega)) rfl) ?_
    refine d_q (d := .gd _ _ (.gd _ _ _)) [6, 11] (by kernel_rfl) rfl (fun _ _ _ => .onk (L' := [(37, _), (42, _)]) rfl (q_p (G := [(_, false), (_, true)]) rfl rfl rfl rfl) rfl) ?_
    refine d_q (d := .gd _ _ (.gd _ _ _)) [6, 12] (by kernel_rfl) rfl (fun _ _ _ => .onk (L' := [(37, _), (43, _)]) rfl (q_lde (G := [(_, false), (_, true)]) (r := rV (p.1.getD (k - 1) (0, 0, 0))) (fun hT => by have := hT.2.1; simp at this; rw [wrapP (by omega) (by omega)]; have h3 : k - 1 < p.1.length := (by omega); simp [h3]) rfl rfl rfl rfl rfl rfl) rfl) ?_
    refine d_q (d := .gd _ _ (.gd _ _ _)) [6] (by kernel_rfl) rfl (fun _ _ _ => .onk (L' := [(37, _)]) rfl (q_p (G := [(_, false), (_, true)]) rfl rfl rfl rfl) rfl) ?_
    refine d_q (d := .gd _ _ (.gd _ _ _)) [6, 14] (by kernel_rfl) rfl (fun _ _ _ => .onk (L' := [(37, _), (45, _)]) rfl (q_ld (G := [(_, false), (_, true)]) 1 rfl rfl rfl rfl rfl rfl rfl) rfl) ?_
    refine d_q (d := .gd _ _ (.gd _ _ _)) [6, 13, 15] (by kernel_rfl) rfl (fun _ _ _ => .onk (L' := [(37, _), (44, _), (46, _)]) rfl (q_p (G := [(_, false), (_, true)]) rfl rfl rfl rfl) rfl) ?_
    refine d_q (d := .gd _ _ (.v _)) [3, 6, 16] (by kernel_rfl) rfl (fun _ _ _ => .onk (L' := [(34, _), (37, _), (47, _)]) rfl (q_pick (G := [(_, false)]) rfl rfl rfl rfl rfl rfl rfl rfl rfl rfl) rfl) ?_
    refine d_q (d := .v _) [3, 17] (by kernel_rfl) rfl (fun _ _ _ => .onk (L' := [(34, _), (48, _)]) rfl (u_pick rfl rfl rfl rfl rfl rfl rfl rfl rfl) rfl) ?_
    refine d_q [18] (by kernel_rfl) rfl (fun _ _ _ => .onk (L' := [(49, _)]) rfl (u_p rfl rfl rfl) rfl) ?_
    refine d_q (d := .gd _ _ _) [19] (by kernel_rfl) rfl (fun _ _ _ => .onk (L' := [(50, _)]) rfl (q_p (G := [(_, false)]) rfl rfl rfl rfl) rfl) ?_
    refine d_q (d := .gd _ _ (.agg [_, _])) [19, 20] (by kernel_rfl) rfl (fun _ _ _ => .onk (L' := [(50, _), (51, _)]) rfl (q_ld (G := [(_, false)]) 1 rfl rfl rfl rfl rfl rfl rfl) rfl) ?_
    refine d_q (d := .gd _ _ _) [19, 21] (by kernel_rfl) rfl (fun _ _ _ => .onk (L' := [(50, _), (52, _)]) rfl (q_call (G := [(_, false)]) (r5In_ok p.1[k].2) Try.call8 rfl rfl rfl rfl) rfl) ?_
    refine d_q (d := .gd _ _ _) [19, 22] (by kernel_rfl) rfl (fun _ _ _ => .onk (L' := [(50, _), (53, _)]) rfl (q_p (G := [(_, false)]) rfl rfl rfl rfl) rfl) ?_
    refine d_q (d := .v _) [19, 23] (by kernel_rfl) rfl (fun _ _ _ => .onk (L' := [(50, _), (54, _)]) rfl (u_pick rfl rfl rfl rfl rfl rfl rfl rfl rfl) rfl) ?_
    refine d_end (by kernel_rfl) (by kernel_rfl) (by kernel_rfl) (fun bs _ => so_as (L' := [(31, _), (32, _), (33, _), (34, _), (35, _), (36, _), (37, _), (38, _), (39, _), (40, _), (41, _), (42, _), (43, _), (44, _), (45, _), (46, _), (47, _), (48, _), (49, _), (50, _), (51, _), (52, _), (53, _), (54, _), (55, _)]) (G' := []) rfl rfl ?_)
    refine o_nil ?_
    refine x_go ?_
    refine w_if rfl (fun h => ?_) (fun h => ?_)
    · refine w_seq ?_
      refine w_reg ?_
      refine Qv.step (u_p rfl rfl rfl) rfl rfl ?_
      refine o_nil ?_
      refine x_go ?_
      refine w_ret (x_rt rfl rfl ?_)
      have h' : r15Vbad p.1 k p.1[k] = true := Eq.trans (by simp [r15Vbad]) h
      rw [h', if_pos rfl] at hI
      simp only [r15Right, h0, ← hI, Bool.false_eq_true, if_false]
    
    have h' : r15Vbad p.1 k p.1[k] = false := Eq.trans (by simp [r15Vbad]) h
    rw [h', if_neg (by simp)] at hI
    clear h
    refine w_skip ?_
    refine x_go ?_
    refine w_seq ?_
    refine w_reg ?_
    refine Qv.step (u_p rfl rfl rfl) rfl rfl ?_
    refine o_nil ?_
    refine x_go ?_
    refine w_block ?_
    
    refine w_loop (fun j : Nat => j ≤ k ∧ ((p.1.take k).drop j).any (fun u => u.2 == p.1[k].2) = (p.1.take k).any (fun u => u.2 == p.1[k].2)) (fun j => ([(3, .i k), (5, .i j), (1, .v (.pointer (some ⟨b0, 0, none⟩))), (4, .v (.pointer (some ⟨b1, 0, none⟩)))],
      [cellsR b0 25 (rPl p), cellsR b1 52 (rV p.1[k])])) (fun j => k - j) 0 ⟨Nat.zero_le _, rfl⟩ ⟨rfl, rfl, rfl, rfl, trivial⟩ rfl ?_
    rintro j ⟨hj, hJ⟩
    refine w_seq ?_
    refine w_seq ?_
    refine w_reg ?_
    refine Qv.step (u_p rfl rfl rfl) rfl rfl ?_
    refine Qv.step (u_p rfl rfl rfl) rfl rfl ?_
    refine Qv.step (u_p rfl rfl rfl) rfl rfl ?_
    refine o_nil ?_
    refine x_go ?_
    refine w_if rfl (fun h => ?_) (fun h => ?_)
    · have hjk : j < k := by simpa using h
      have hltj : j < p.1.length := by omega
      have hlt1 : j < (p.1.take k).length := by simp; omega
      have hget : (p.1.take k)[j] = p.1[j] := by simp
      rw [List.drop_eq_getElem_cons hlt1, List.any_cons, hget] at hJ
      clear h
      refine w_skip ?_
      refine x_go ?_
      refine w_seq ?_
      refine w_block ?_
      refine w_seq ?_
      refine d_begin ?_
      refine d_q [] (by kernel_rfl) rfl (fun _ _ _ => .onk (L' := []) rfl (u_p rfl rfl rfl) rfl) ?_
      refine d_q [0] (by kernel_rfl) rfl (fun _ _ _ => .onk (L' := [(61, _)]) rfl (u_ld 0 rfl rfl rfl rfl rfl rfl) rfl) ?_
      refine d_q [] (by kernel_rfl) rfl (fun _ _ _ => .onk (L' := []) rfl (u_p rfl rfl rfl) rfl) ?_
      refine d_q [1, 2] (by kernel_rfl) rfl (fun _ _ _ => .onk (L' := [(62, _), (63, _)]) rfl (u_ix rfl rfl rfl rfl rfl rfl rfl rfl (by omega) (by simp; omega)) rfl) ?_
      refine d_q [3] (by kernel_rfl) rfl (fun _ _ _ => .onk (L' := [(64, _)]) rfl (u_p rfl rfl rfl) rfl) ?_
      refine d_q (d := .agg [_, _]) [4] (by kernel_rfl) rfl (fun _ _ _ => .onk (L' := [(65, _)]) rfl (u_lde (r := rV p.1[j]) (by simp [hltj]) rfl rfl rfl rfl rfl) rfl) ?_
      refine d_q [] (by kernel_rfl) rfl (fun _ _ _ => .onk (L' := []) rfl (u_p rfl rfl rfl) rfl) ?_
      refine d_q (d := .agg [_, _]) [6] (by kernel_rfl) rfl (fun _ _ _ => .onk (L' := [(67, _)]) rfl (u_ld 1 rfl rfl rfl rfl rfl rfl) rfl) ?_
      refine d_q [5, 7] (by kernel_rfl) rfl (fun _ _ _ => .onk (L' := [(66, _), (68, _)]) rfl (u_eq rfl rfl rfl rfl rfl rfl rfl rfl rfl rfl rfl rfl) rfl) ?_
      refine d_end (by kernel_rfl) (by kernel_rfl) (by kernel_rfl) (fun bs _ => so_as (L' := [(61, _), (62, _), (63, _), (64, _), (65, _), (66, _), (67, _), (68, _), (69, _)]) (G' := []) rfl rfl ?_)
      refine o_nil ?_
      refine x_go ?_
      refine w_if rfl (fun h => ?_) (fun h => ?_)
      · refine w_seq ?_
        refine w_reg ?_
        refine Qv.step (u_p rfl rfl rfl) rfl rfl ?_
        refine o_nil ?_
        refine x_go ?_
        refine w_ret (x_rt rfl rfl ?_)
        have h2 : (p.1[j].2 == p.1[k].2) = true := Eq.trans (by simp [pt_eqV]) h
        rw [h2, Bool.true_or] at hJ
        rw [← hJ, if_pos rfl] at hI
        simp only [r15Right, h0, ← hI, Bool.false_eq_true, if_false]
      
      · have h2 : (p.1[j].2 == p.1[k].2) = false := Eq.trans (by simp [pt_eqV]) h
        rw [h2, Bool.false_or] at hJ
        refine w_skip ?_
        refine x_go ?_
        refine w_reg ?_
        refine Qv.step (u_p rfl rfl rfl) rfl rfl ?_
        refine Qv.step (u_p rfl rfl rfl) rfl rfl ?_
        refine Qv.step (u_p rfl rfl rfl) rfl rfl ?_
        refine o_nil ?_
        exact x_rd (k - (k - (j + 1))) 2 (by omega) ⟨by omega, by rw [show k - (k - (j + 1)) = j + 1 by omega]; exact hJ⟩ rfl ⟨rfl, by rw [show k - (k - (j + 1)) = j + 1 by omega]; exact lkS rfl (by omega), rfl, rfl, trivial⟩
    
    have hge : ¬ j < k := by simpa using h
    clear h
    have hn : (p.1.take k).drop j = [] := List.drop_eq_nil_of_le (by simp; omega)
    rw [hn] at hJ
    rw [← hJ, if_neg (by simp)] at hI
    refine w_exit ?_
    refine x_go ?_
    refine w_reg ?_
    refine Qv.step (u_p rfl rfl rfl) rfl rfl ?_
    refine Qv.step (u_p rfl rfl rfl) rfl rfl ?_
    refine Qv.step (u_p rfl rfl rfl) rfl rfl ?_
    refine o_nil ?_
    exact x_rd (k + 1) 1 (by omega) ⟨by omega, hI⟩ rfl ⟨lkS rfl (by omega), rfl, trivial⟩
  
  have hge : ¬ k < p.1.length := by simpa using h
  clear h
  have hn : p.1.drop k = [] := List.drop_eq_nil_of_le (by omega)
  rw [hn] at hI
  have hV : r15VL p.1 0 p.1 = true := hI.symm
  clear hI
  refine w_exit ?_
  refine x_go ?_
  refine w_seq ?_
  refine w_seq ?_
  refine w_reg ?_
  refine Qv.step (u_p rfl rfl rfl) rfl rfl ?_
  refine o_nil ?_
  refine x_go ?_
  refine w_block ?_
  
  refine w_loop (fun k : Nat => k ≤ p.2.length ∧ r15EL p k (p.2.drop k) = r15EL p 0 p.2 ∧ ∀ e ∈ p.2.take k, r15Has p e) (fun k => ([(6, .i k), (1, .v (.pointer (some ⟨b0, 0, none⟩)))], [cellsR b0 25 (rPl p)])) (fun k => p.2.length - k) 0 ⟨Nat.zero_le _, rfl, by simp⟩ ⟨rfl, rfl, trivial⟩ rfl ?_
  rintro k ⟨hk, hI, hH⟩
  refine w_seq ?_
  refine w_seq ?_
  refine w_reg ?_
  refine Qv.step (u_p rfl rfl rfl) rfl rfl ?_
  refine Qv.step (u_p rfl rfl rfl) rfl rfl ?_
  refine Qv.step (u_ld 0 rfl rfl rfl rfl rfl rfl) rfl rfl ?_
  refine Qv.step (u_len rfl rfl rfl rfl rfl rfl) rfl rfl ?_
  refine Qv.step (u_p rfl rfl rfl) rfl rfl ?_
  refine o_nil ?_
  refine x_go ?_
  refine w_if rfl (fun h => ?_) (fun h => ?_)
  · have hlt : k < p.2.length := by simpa using h
    rw [List.drop_eq_getElem_cons hlt, r15EL] at hI
    clear h
    refine w_skip ?_
    refine x_go ?_
    refine w_seq ?_
    refine w_block ?_
    refine w_seq ?_
    refine w_reg ?_
    refine Qv.step (u_p rfl rfl rfl) rfl rfl ?_
    refine Qv.step (u_ld 0 rfl rfl rfl rfl rfl rfl) rfl rfl ?_
    refine Qv.step (u_p rfl rfl rfl) rfl rfl ?_
    refine Qv.step (u_ix rfl rfl rfl rfl rfl rfl rfl rfl (by omega) (by simp; omega)) rfl rfl ?_
    refine Qv.step (d := .agg [_, _, _]) (.as (u_lde (r := rE p.2[k]) (by simp [hlt]) rfl rfl rfl rfl rfl) rfl) rfl rfl ?_
    refine o_alloc rfl rfl rfl rfl rfl rfl ?_; intro b1
    refine o_st 1 rfl rfl rfl rfl rfl rfl rfl rfl rfl rfl (by first | rfl | kernel_rfl) ?_
    refine o_nil ?_
    refine x_go ?_
    refine w_seq ?_
    refine w_seq ?_
    refine d_begin ?_
    refine d_q [] (by kernel_rfl) rfl (fun _ _ _ => .onk (L' := []) rfl (u_p rfl rfl rfl) rfl) ?_
    refine d_q [0] (by kernel_rfl) rfl (fun _ _ _ => .onk (L' := [(82, _)]) rfl (u_ld 1 rfl rfl rfl rfl rfl rfl) rfl) ?_
    refine d_q [1] (by kernel_rfl) rfl (fun _ _ _ => .onk (L' := [(83, _)]) rfl (u_p rfl rfl rfl) rfl) ?_
    refine d_q [2] (by kernel_rfl) rfl (fun _ _ _ => .onk (L' := [(84, _)]) rfl (u_p rfl rfl rfl) rfl) ?_
    refine d_q (d := .gd _ _ _) [3] (by kernel_rfl) rfl (fun _ _ _ => .onk (L' := [(85, _)]) rfl (q_p (G := [(_, false)]) rfl rfl rfl rfl) rfl) ?_
    refine d_q (d := .gd _ _ _) [3, 4] (by kernel_rfl) rfl (fun _ _ _ => .onk (L' := [(85, _), (86, _)]) rfl (q_p (G := [(_, false)]) rfl rfl rfl rfl) rfl) ?_
    refine d_q (d := .gd _ _ _) [3, 5] (by kernel_rfl) rfl (fun _ _ _ => .onk (L' := [(85, _), (87, _)]) rfl (q_p (G := [(_, false)]) rfl rfl rfl rfl) rfl) ?_
    refine d_q (d := .gd _ _ (.gd _ _ _)) [6] (by kernel_rfl) rfl (fun _ _ _ => .onk (L' := [(88, _)]) rfl (q_p (G := [(_, false), (_, true)]) rfl rfl rfl rfl) rfl) ?_
    refine d_q (d := .gd _ _ (.gd _ _ _)) [6, 7] (by kernel_rfl) rfl (fun _ _ _ => .onk (L' := [(88, _), (89, _)]) rfl (q_ld (G := [(_, false), (_, true)]) 0 rfl rfl rfl rfl rfl rfl rfl) rfl) ?_
    refine d_q (d := .gd _ _ (.gd _ _ _)) [6] (by kernel_rfl) rfl (fun _ _ _ => .onk (L' := [(88, _)]) rfl (q_p (G := [(_, false), (_, true)]) rfl rfl rfl rfl) rfl) ?_
    refine d_q (d := .gd _ _ (.gd _ _ _)) [6, 9] (by kernel_rfl) rfl (fun _ _ _ => .onk (L' := [(88, _), (91, _)]) rfl (q_p (G := [(_, false), (_, true)]) rfl rfl rfl rfl) rfl) ?_
    refine d_q (d := .gd _ _ (.gd _ _ _)) [6, 8, 10] (by kernel_rfl) rfl (fun _ _ _ => .onk (L' := [(88, _), (90, _), (92, _)]) rfl (q_ix (G := [(_, false), (_, true)]) rfl rfl rfl rfl rfl rfl rfl rfl rfl (fun hT => by have := hT.2.1; simp at this; rw [wrapP (by omega) (by omega)]; omega) (fun hT => by have := hT.2.1; simp at this; rw [wrapP (by omega) (by omega)]; simp; omega)) rfl) ?_
    refine d_q (d := .gd _ _ (.gd _ _ _)) [6, 11] (by kernel_rfl) rfl (fun _ _ _ => .onk (L' := [(88, _), (93, _)]) rfl (q_p (G := [(_, false), (_, true)]) rfl rfl rfl rfl) rfl) ?_
    refine d_q (d := .gd _ _ (.gd _ _ _)) [6, 12] (by kernel_rfl) rfl (fun _ _ _ => .onk (L' := [(88, _), (94, _)]) rfl (q_lde (G := [(_, false), (_, true)]) (r := rE (p.2.getD (k - 1) (0, 0, 0))) (fun hT => by have := hT.2.1; simp at this; rw [wrapP (by omega) (by omega)]; have h3 : k - 1 < p.2.length := (by omega); simp [h3]) rfl rfl rfl rfl rfl rfl) rfl) ?_
    refine d_q (d := .gd _ _ (.gd _ _ _)) [6] (by kernel_rfl) rfl (fun _ _ _ => .onk (L' := [(88, _)]) rfl (q_p (G := [(_, false), (_, true)]) rfl rfl rfl rfl) rfl) ?_
    refine d_q (d := .gd _ _ (.gd _ _ _)) [6, 14] (by kernel_rfl) rfl (fun _ _ _ => .onk (L' := [(88, _), (96, _)]) rfl (q_ld (G := [(_, false), (_, true)]) 1 rfl rfl rfl rfl rfl rfl rfl) rfl) ?_
    refine d_q (d := .gd _ _ (.gd _ _ _)) [6, 13, 15] (by kernel_rfl) rfl (fun _ _ _ => .onk (L' := [(88, _), (95, _), (97, _)]) rfl (q_p (G := [(_, false), (_, true)]) rfl rfl rfl rfl) rfl) ?_
    refine d_q (d := .gd _ _ (.v _)) [3, 6, 16] (by kernel_rfl) rfl (fun _ _ _ => .onk (L' := [(85, _), (88, _), (98, _)]) rfl (q_pick (G := [(_, false)]) rfl rfl rfl rfl rfl rfl rfl rfl rfl rfl) rfl) ?_
    refine d_q (d := .v _) [3, 17] (by kernel_rfl) rfl (fun _ _ _ => .onk (L' := [(85, _), (99, _)]) rfl (u_pick rfl rfl rfl rfl rfl rfl rfl rfl rfl) rfl) ?_
    refine d_q [18] (by kernel_rfl) rfl (fun _ _ _ => .onk (L' := [(100, _)]) rfl (u_p rfl rfl rfl) rfl) ?_
    refine d_q (d := .gd _ _ _) [19] (by kernel_rfl) rfl (fun _ _ _ => .onk (L' := [(101, _)]) rfl (q_p (G := [(_, false)]) rfl rfl rfl rfl) rfl) ?_
    refine d_q (d := .gd _ _ _) [19, 20] (by kernel_rfl) rfl (fun _ _ _ => .onk (L' := [(101, _), (102, _)]) rfl (q_ld (G := [(_, false)]) 1 rfl rfl rfl rfl rfl rfl rfl) rfl) ?_
    refine d_q (d := .gd _ _ _) [19] (by kernel_rfl) rfl (fun _ _ _ => .onk (L' := [(101, _)]) rfl (q_p (G := [(_, false)]) rfl rfl rfl rfl) rfl) ?_
    refine d_q (d := .gd _ _ _) [19, 22] (by kernel_rfl) rfl (fun _ _ _ => .onk (L' := [(101, _), (104, _)]) rfl (q_ld (G := [(_, false)]) 1 rfl rfl rfl rfl rfl rfl rfl) rfl) ?_
    refine d_q (d := .gd _ _ _) [19, 21, 23] (by kernel_rfl) rfl (fun _ _ _ => .onk (L' := [(101, _), (103, _), (105, _)]) rfl (q_p (G := [(_, false)]) rfl rfl rfl rfl) rfl) ?_
    refine d_q (d := .v _) [19, 24] (by kernel_rfl) rfl (fun _ _ _ => .onk (L' := [(101, _), (106, _)]) rfl (u_pick rfl rfl rfl rfl rfl rfl rfl rfl rfl) rfl) ?_
    refine d_q [25] (by kernel_rfl) rfl (fun _ _ _ => .onk (L' := [(107, _)]) rfl (u_p rfl rfl rfl) rfl) ?_
    refine d_q (d := .gd _ _ (.agg [_, _])) [26] (by kernel_rfl) rfl (fun _ _ _ => .onk (L' := [(108, _)]) rfl (q_ld (G := [(_, false)]) 0 rfl rfl rfl rfl rfl rfl rfl) rfl) ?_
    refine d_q (d := .gd _ _ _) [26] (by kernel_rfl) rfl (fun _ _ _ => .onk (L' := [(108, _)]) rfl (q_p (G := [(_, false)]) rfl rfl rfl rfl) rfl) ?_
    refine d_q (d := .gd _ _ _) [26, 28] (by kernel_rfl) rfl (fun _ _ _ => .onk (L' := [(108, _), (110, _)]) rfl (q_ld (G := [(_, false)]) 1 rfl rfl rfl rfl rfl rfl rfl) rfl) ?_
    refine d_q (d := .gd _ _ _) [26, 27, 29] (by kernel_rfl) rfl (fun _ _ _ => .onk (L' := [(108, _), (109, _), (111, _)]) rfl (q_call (G := [(_, false)]) (r15V_ok p hp p.2[k].2.1) Try.call9 rfl rfl rfl rfl) rfl) ?_
    refine d_q (d := .gd _ _ _) [26, 30] (by kernel_rfl) rfl (fun _ _ _ => .onk (L' := [(108, _), (112, _)]) rfl (q_p (G := [(_, false)]) rfl rfl rfl rfl) rfl) ?_
    refine d_q (d := .v _) [26, 31] (by kernel_rfl) rfl (fun _ _ _ => .onk (L' := [(108, _), (113, _)]) rfl (u_pick rfl rfl rfl rfl rfl rfl rfl rfl rfl) rfl) ?_
    refine d_q [32] (by kernel_rfl) rfl (fun _ _ _ => .onk (L' := [(114, _)]) rfl (u_p rfl rfl rfl) rfl) ?_
    refine d_q (d := .gd _ _ (.agg [_, _])) [33] (by kernel_rfl) rfl (fun _ _ _ => .onk (L' := [(115, _)]) rfl (q_ld (G := [(_, false)]) 0 rfl rfl rfl rfl rfl rfl rfl) rfl) ?_
    refine d_q (d := .gd _ _ _) [33] (by kernel_rfl) rfl (fun _ _ _ => .onk (L' := [(115, _)]) rfl (q_p (G := [(_, false)]) rfl rfl rfl rfl) rfl) ?_
    refine d_q (d := .gd _ _ _) [33, 35] (by kernel_rfl) rfl (fun _ _ _ => .onk (L' := [(115, _), (117, _)]) rfl (q_ld (G := [(_, false)]) 1 rfl rfl rfl rfl rfl rfl rfl) rfl) ?_
    refine d_q (d := .gd _ _ _) [33, 34, 36] (by kernel_rfl) rfl (fun _ _ _ => .onk (L' := [(115, _), (116, _), (118, _)]) rfl (q_call (G := [(_, false)]) (r15V_ok p hp p.2[k].2.2) Try.call9 rfl rfl rfl rfl) rfl) ?_
    refine d_q (d := .gd _ _ _) [33, 37] (by kernel_rfl) rfl (fun _ _ _ => .onk (L' := [(115, _), (119, _)]) rfl (q_p (G := [(_, false)]) rfl rfl rfl rfl) rfl) ?_
    refine d_q (d := .v _) [33, 38] (by kernel_rfl) rfl (fun _ _ _ => .onk (L' := [(115, _), (120, _)]) rfl (u_pick rfl rfl rfl rfl rfl rfl rfl rfl rfl) rfl) ?_
    refine d_end (by kernel_rfl) (by kernel_rfl) (by kernel_rfl) (fun bs _ => so_as (L' := [(82, _), (83, _), (84, _), (85, _), (86, _), (87, _), (88, _), (89, _), (90, _), (91, _), (92, _), (93, _), (94, _), (95, _), (96, _), (97, _), (98, _), (99, _), (100, _), (101, _), (102, _), (103, _), (104, _), (105, _), (106, _), (107, _), (108, _), (109, _), (110, _), (111, _), (112, _), (113, _), (114, _), (115, _), (116, _), (117, _), (118, _), (119, _), (120, _), (121, _)]) (G' := []) rfl rfl ?_)
    refine o_nil ?_
    refine x_go ?_
    refine w_if rfl (fun h => ?_) (fun h => ?_)
    · refine w_seq ?_
      refine w_reg ?_
      refine Qv.step (u_p rfl rfl rfl) rfl rfl ?_
      refine o_nil ?_
      refine x_go ?_
      refine w_ret (x_rt rfl rfl ?_)
      have h' : r15Ebad p k p.2[k] = true := Eq.trans (by simp [r15Ebad]) h
      rw [h', if_pos rfl] at hI
      simp only [r15Right, h0, hV, ← hI, Bool.false_eq_true, if_false, if_true]
    
    have h' : r15Ebad p k p.2[k] = false := Eq.trans (by simp [r15Ebad]) h
    rw [h', if_neg (by simp)] at hI
    clear h
    have hHk : r15Has p p.2[k] := by
      simp only [r15Ebad, Bool.or_eq_false_iff, decide_eq_false_iff_not, Int.not_lt] at h'
      exact ⟨h'.1.2, h'.2⟩
    refine w_skip ?_
    refine x_go ?_
    refine w_seq ?_
    refine d_begin ?_
    refine d_q [] (by kernel_rfl) rfl (fun _ _ _ => .onk (L' := []) rfl (u_p rfl rfl rfl) rfl) ?_
    refine d_q [0] (by kernel_rfl) rfl (fun _ _ _ => .onk (L' := [(122, _)]) rfl (u_ld 0 rfl rfl rfl rfl rfl rfl) rfl) ?_
    refine d_q [] (by kernel_rfl) rfl (fun _ _ _ => .onk (L' := []) rfl (u_p rfl rfl rfl) rfl) ?_
    refine d_q [2] (by kernel_rfl) rfl (fun _ _ _ => .onk (L' := [(124, _)]) rfl (u_ld 0 rfl rfl rfl rfl rfl rfl) rfl) ?_
    refine d_q [] (by kernel_rfl) rfl (fun _ _ _ => .onk (L' := []) rfl (u_p rfl rfl rfl) rfl) ?_
    refine d_q [3, 4] (by kernel_rfl) rfl (fun _ _ _ => .onk (L' := [(125, _), (126, _)]) rfl (u_slm rfl rfl rfl rfl rfl rfl rfl (by omega)) rfl) ?_
    refine d_q (d := .agg [_, _]) [1, 5] (by kernel_rfl) rfl (fun _ _ _ => .onk (L' := [(123, _), (127, _)]) rfl (u_bst rfl rfl rfl rfl rfl rfl rfl rfl) rfl) ?_
    refine d_al (ds := [_, _]) rfl rfl rfl rfl rfl rfl ?_
    refine d_end (by kernel_rfl) (by kernel_rfl) (by kernel_rfl) (fun bs _ => so_as (L' := [(122, _), (123, _), (124, _), (125, _), (126, _), (127, _), (128, _), (8, _)]) (G' := [cellsR (bs 7) _ _]) rfl rfl ?_)
    refine o_st 2 rfl rfl rfl rfl rfl rfl rfl rfl rfl rfl (by first | rfl | kernel_rfl) ?_
    refine o_nil ?_
    refine x_go ?_
    refine w_seq ?_
    refine d_begin ?_
    refine d_q (d := .agg [_, _]) [] (by kernel_rfl) rfl (fun _ _ _ => .onk (L' := []) rfl (u_ld 2 rfl rfl rfl rfl rfl rfl) rfl) ?_
    refine d_q [] (by kernel_rfl) rfl (fun _ _ _ => .onk (L' := []) rfl (u_p rfl rfl rfl) rfl) ?_
    refine d_q [1] (by kernel_rfl) rfl (fun _ _ _ => .onk (L' := [(130, _)]) rfl (u_ld 1 rfl rfl rfl rfl rfl rfl) rfl) ?_
    refine d_q [] (by kernel_rfl) rfl (fun _ _ _ => .onk (L' := []) rfl (u_p rfl rfl rfl) rfl) ?_
    refine d_q [3] (by kernel_rfl) rfl (fun _ _ _ => .onk (L' := [(132, _)]) rfl (u_ld 1 rfl rfl rfl rfl rfl rfl) rfl) ?_
    refine d_q [0, 2, 4] (by kernel_rfl) rfl (fun _ _ _ => .onk (L' := [(129, _), (131, _), (133, _)]) rfl (u_call (r15Links_ok (p.1, p.2.take k) (by show (p.2.take k).length < _; simp; omega) p.2[k].2.1 p.2[k].2.2) Try.call10 rfl rfl rfl) rfl) ?_
    refine d_q [5] (by kernel_rfl) rfl (fun _ _ _ => .onk (L' := [(134, _)]) rfl (u_p rfl rfl rfl) rfl) ?_
    refine d_q (d := .gd _ _ (.agg [_, _])) [6] (by kernel_rfl) rfl (fun _ _ _ => .onk (L' := [(135, _)]) rfl (q_ld (G := [(_, false)]) 0 rfl rfl rfl rfl rfl rfl rfl) rfl) ?_
    refine d_q (d := .gd _ _ (.agg [_, _])) [6] (by kernel_rfl) rfl (fun _ _ _ => .onk (L' := [(135, _)]) rfl (q_ld (G := [(_, false)]) 0 rfl rfl rfl rfl rfl rfl rfl) rfl) ?_
    refine d_q (d := .gd _ _ _) [6] (by kernel_rfl) rfl (fun _ _ _ => .onk (L' := [(135, _)]) rfl (q_p (G := [(_, false)]) rfl rfl rfl rfl) rfl) ?_
    refine d_q (d := .gd _ _ _) [6, 9] (by kernel_rfl) rfl (fun _ _ _ => .onk (L' := [(135, _), (138, _)]) rfl (q_ld (G := [(_, false)]) 1 rfl rfl rfl rfl rfl rfl rfl) rfl) ?_
    refine d_q (d := .gd _ _ _) [6, 8, 10] (by kernel_rfl) rfl (fun _ _ _ => .onk (L' := [(135, _), (137, _), (139, _)]) rfl (q_call (G := [(_, false)]) (r15At_ok p hp p.2[k].2.1 hHk.1) Try.call12 rfl rfl rfl rfl) rfl) ?_
    refine d_q (d := .gd _ _ (.agg [_, _])) [6] (by kernel_rfl) rfl (fun _ _ _ => .onk (L' := [(135, _)]) rfl (q_ld (G := [(_, false)]) 0 rfl rfl rfl rfl rfl rfl rfl) rfl) ?_
    refine d_q (d := .gd _ _ _) [6] (by kernel_rfl) rfl (fun _ _ _ => .onk (L' := [(135, _)]) rfl (q_p (G := [(_, false)]) rfl rfl rfl rfl) rfl) ?_
    refine d_q (d := .gd _ _ _) [6, 13] (by kernel_rfl) rfl (fun _ _ _ => .onk (L' := [(135, _), (142, _)]) rfl (q_ld (G := [(_, false)]) 1 rfl rfl rfl rfl rfl rfl rfl) rfl) ?_
    refine d_q (d := .gd _ _ _) [6, 12, 14] (by kernel_rfl) rfl (fun _ _ _ => .onk (L' := [(135, _), (141, _), (143, _)]) rfl (q_call (G := [(_, false)]) (r15At_ok p hp p.2[k].2.2 hHk.2) Try.call12 rfl rfl rfl rfl) rfl) ?_
    refine d_q (d := .gd _ _ _) [6, 7, 11, 15] (by kernel_rfl) rfl (fun _ _ _ => .onk (L' := [(135, _), (136, _), (140, _), (144, _)]) rfl (q_call (G := [(_, false)]) (r15On_ok p hp (r15At p p.2[k].2.1) (r15At p p.2[k].2.2)) Try.call11 rfl rfl rfl rfl) rfl) ?_
    refine d_q (d := .v _) [6, 16] (by kernel_rfl) rfl (fun _ _ _ => .onk (L' := [(135, _), (145, _)]) rfl (u_pick rfl rfl rfl rfl rfl rfl rfl rfl rfl) rfl) ?_
    refine d_q [17] (by kernel_rfl) rfl (fun _ _ _ => .onk (L' := [(146, _)]) rfl (u_p rfl rfl rfl) rfl) ?_
    refine d_q (d := .gd _ _ (.agg [_, _])) [18] (by kernel_rfl) rfl (fun _ _ _ => .onk (L' := [(147, _)]) rfl (q_ld (G := [(_, false)]) 0 rfl rfl rfl rfl rfl rfl rfl) rfl) ?_
    refine d_q (d := .gd _ _ (.agg [_, _])) [18] (by kernel_rfl) rfl (fun _ _ _ => .onk (L' := [(147, _)]) rfl (q_ld (G := [(_, false)]) 0 rfl rfl rfl rfl rfl rfl rfl) rfl) ?_
    refine d_q (d := .gd _ _ _) [18] (by kernel_rfl) rfl (fun _ _ _ => .onk (L' := [(147, _)]) rfl (q_p (G := [(_, false)]) rfl rfl rfl rfl) rfl) ?_
    refine d_q (d := .gd _ _ _) [18, 21] (by kernel_rfl) rfl (fun _ _ _ => .onk (L' := [(147, _), (150, _)]) rfl (q_ld (G := [(_, false)]) 1 rfl rfl rfl rfl rfl rfl rfl) rfl) ?_
    refine d_q (d := .gd _ _ _) [18, 20, 22] (by kernel_rfl) rfl (fun _ _ _ => .onk (L' := [(147, _), (149, _), (151, _)]) rfl (q_call (G := [(_, false)]) (r15At_ok p hp p.2[k].2.1 hHk.1) Try.call12 rfl rfl rfl rfl) rfl) ?_
    refine d_q (d := .gd _ _ (.agg [_, _])) [18] (by kernel_rfl) rfl (fun _ _ _ => .onk (L' := [(147, _)]) rfl (q_ld (G := [(_, false)]) 0 rfl rfl rfl rfl rfl rfl rfl) rfl) ?_
    refine d_q (d := .gd _ _ _) [18] (by kernel_rfl) rfl (fun _ _ _ => .onk (L' := [(147, _)]) rfl (q_p (G := [(_, false)]) rfl rfl rfl rfl) rfl) ?_
    refine d_q (d := .gd _ _ _) [18, 25] (by kernel_rfl) rfl (fun _ _ _ => .onk (L' := [(147, _), (154, _)]) rfl (q_ld (G := [(_, false)]) 1 rfl rfl rfl rfl rfl rfl rfl) rfl) ?_
    refine d_q (d := .gd _ _ _) [18, 24, 26] (by kernel_rfl) rfl (fun _ _ _ => .onk (L' := [(147, _), (153, _), (155, _)]) rfl (q_call (G := [(_, false)]) (r15At_ok p hp p.2[k].2.2 hHk.2) Try.call12 rfl rfl rfl rfl) rfl) ?_
    refine d_q (d := .gd _ _ _) [18] (by kernel_rfl) rfl (fun _ _ _ => .onk (L' := [(147, _)]) rfl (q_p (G := [(_, false)]) rfl rfl rfl rfl) rfl) ?_
    refine d_q (d := .gd _ _ _) [18, 19, 23, 27, 28] (by kernel_rfl) rfl (fun _ _ _ => .onk (L' := [(147, _), (148, _), (152, _), (156, _), (157, _)]) rfl (q_call (G := [(_, false)]) (r15Meets_ok p hp hp2 (r15At p p.2[k].2.1) (r15At p p.2[k].2.2) k hk hH) Try.call13 rfl rfl rfl rfl) rfl) ?_
    refine d_q (d := .v _) [18, 29] (by kernel_rfl) rfl (fun _ _ _ => .onk (L' := [(147, _), (158, _)]) rfl (u_pick rfl rfl rfl rfl rfl rfl rfl rfl rfl) rfl) ?_
    refine d_end (by kernel_rfl) (by kernel_rfl) (by kernel_rfl) (fun bs _ => so_as (L' := [(129, _), (130, _), (131, _), (132, _), (133, _), (134, _), (135, _), (136, _), (137, _), (138, _), (139, _), (140, _), (141, _), (142, _), (143, _), (144, _), (145, _), (146, _), (147, _), (148, _), (149, _), (150, _), (151, _), (152, _), (153, _), (154, _), (155, _), (156, _), (157, _), (158, _), (159, _)]) (G' := []) rfl rfl ?_)
    refine o_nil ?_
    refine x_go ?_
    refine w_if rfl (fun h => ?_) (fun h => ?_)
    · refine w_seq ?_
      refine w_reg ?_
      refine Qv.step (u_p rfl rfl rfl) rfl rfl ?_
      refine o_nil ?_
      refine x_go ?_
      refine w_ret (x_rt rfl rfl ?_)
      have h' : r15Ebad2 p k p.2[k] = true := Eq.trans (by simp [r15Ebad2]) h
      rw [h', if_pos rfl] at hI
      simp only [r15Right, h0, hV, ← hI, Bool.false_eq_true, if_false, if_true]
    
    have h2 : r15Ebad2 p k p.2[k] = false := Eq.trans (by simp [r15Ebad2]) h
    rw [h2, if_neg (by simp)] at hI
    clear h
    refine w_skip ?_
    refine x_go ?_
    refine w_reg ?_
    refine Qv.step (u_p rfl rfl rfl) rfl rfl ?_
    refine Qv.step (u_p rfl rfl rfl) rfl rfl ?_
    refine Qv.step (u_p rfl rfl rfl) rfl rfl ?_
    refine o_nil ?_
    refine x_rd (k + 1) 1 (by omega) ⟨by omega, hI, fun e he => ?_⟩ rfl ⟨lkS rfl (by omega), rfl, trivial⟩
    rw [List.take_succ_eq_append_getElem hlt] at he
    rcases List.mem_append.1 he with he | he
    · exact hH e he
    · rw [List.mem_singleton.1 he]; exact hHk
  
  have hge : ¬ k < p.2.length := by simpa using h
  clear h
  have hn : p.2.drop k = [] := List.drop_eq_nil_of_le (by omega)
  rw [hn] at hI
  refine w_exit ?_
  refine x_go ?_
  refine w_seq ?_
  refine w_reg ?_
  refine Qv.step (u_p rfl rfl rfl) rfl rfl ?_
  refine o_nil ?_
  refine x_go ?_
  refine w_ret (x_rt rfl rfl ?_)
  simp only [r15Right, h0, hV, ← hI, Bool.false_eq_true, if_false, if_true]
  rfl
end Go.Proofs.Ytcdakcemcehfiaa
