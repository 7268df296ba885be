/- realm: contracts, second part: touches, around. -/
import Derived.Test.YtcdakcemcehfiaaRma
namespace Go.Proofs.Ytcdakcemcehfiaa
open Go
set_option maxRecDepth 100000

def mTouch (at_ : Pt) (l : Lin) : Bool := ((at_ == l.1) || (at_ == l.2)) || gOn at_ l.1 l.2
theorem touch_ok (at_ : Pt) (l : Lin) : FunOk cx 69 [dL l, .el 2 [rPt at_] 0 0] (.b (mTouch at_ l)) := by
  refine fn_ok (c := _) _ Try.func69 rfl Try.ntmps69 rfl fun A w => ?_
  refine w_seq ?_
  refine w_reg ?_
  refine o_box rfl rfl rfl rfl rfl rfl ?_; intro b0
  refine Qv.step (u_p rfl rfl rfl) rfl rfl ?_
  refine o_nil ?_
  refine x_go ?_
  refine w_seq ?_
  refine w_reg ?_
  refine Qv.step (d := .agg [_, _]) (.as (u_lde (r := rPt at_) rfl rfl rfl rfl rfl rfl) rfl) rfl rfl ?_
  refine Qv.step (u_ixa rfl rfl rfl rfl rfl rfl rfl (by decide) (by decide)) rfl rfl ?_
  refine Qv.step (d := .agg [_, _]) (.as (u_ld 0 rfl rfl rfl rfl rfl rfl) rfl) rfl rfl ?_
  refine Qv.step (u_eq rfl rfl rfl rfl rfl rfl rfl rfl rfl rfl rfl rfl) rfl rfl ?_
  refine Qv.step (u_p rfl rfl rfl) rfl rfl ?_
  refine Qv.step (d := .gd _ _ (.agg [_, _])) (.as (q_lde (r := rPt at_) (G := [(_, false)]) (fun _ => rfl) rfl rfl rfl rfl rfl rfl) rfl) rfl rfl ?_
  refine Qv.step (d := .gd _ _ _) (.as (q_ixa (G := [(_, false)]) rfl rfl rfl rfl rfl rfl rfl rfl (fun _ => (by decide)) (fun _ => (by decide))) rfl) rfl rfl ?_
  refine Qv.step (d := .gd _ _ (.agg [_, _])) (.as (q_ld (G := [(_, false)]) 0 rfl rfl rfl rfl rfl rfl rfl) rfl) rfl rfl ?_
  refine Qv.step (d := .gd _ _ _) (.as (q_eq (G := [(_, false)]) rfl rfl rfl rfl rfl rfl rfl rfl rfl rfl rfl rfl rfl) rfl) rfl rfl ?_
  refine Qv.step (d := .v _) (.as (u_pick rfl rfl rfl rfl rfl rfl rfl rfl rfl) rfl) rfl rfl ?_
  refine Qv.step (u_p rfl rfl rfl) rfl rfl ?_
  refine Qv.step (d := .gd _ _ (.agg [_, _])) (.as (q_lde (r := rPt at_) (G := [(_, false)]) (fun _ => rfl) rfl rfl rfl rfl rfl rfl) rfl) rfl rfl ?_
  refine Qv.step (d := .gd _ _ _) (.as (q_ixa (G := [(_, false)]) rfl rfl rfl rfl rfl rfl rfl rfl (fun _ => (by decide)) (fun _ => (by decide))) rfl) rfl rfl ?_
  refine Qv.step (d := .gd _ _ (.agg [_, _])) (.as (q_ld (G := [(_, false)]) 0 rfl rfl rfl rfl rfl rfl rfl) rfl) rfl rfl ?_
  refine Qv.step (d := .gd _ _ _) (.as (q_ixa (G := [(_, false)]) rfl rfl rfl rfl rfl rfl rfl rfl (fun _ => (by decide)) (fun _ => (by decide))) rfl) rfl rfl ?_
  refine Qv.step (d := .gd _ _ (.agg [_, _])) (.as (q_ld (G := [(_, false)]) 0 rfl rfl rfl rfl rfl rfl rfl) rfl) rfl rfl ?_
  refine Qv.step (d := .gd _ _ _) (.as (q_call (G := [(_, false)]) (On_ok at_ l.1 l.2) Try.call36 rfl rfl rfl rfl) rfl) rfl rfl ?_
  refine Qv.step (d := .v _) (.as (u_pick rfl rfl rfl rfl rfl rfl rfl rfl rfl) rfl) rfl rfl ?_
  refine Qv.step (u_p rfl rfl rfl) rfl rfl ?_
  refine o_nil ?_
  refine x_go ?_
  refine w_ret (x_rt rfl rfl ?_)
  simp only [pt_eqV, mTouch]
  rfl

/-- The first place at which P holds. -/
def fnd {α : Type} (P : α → Bool) : Nat → List α → Int
  | _, [] => -1
  | i, x :: l => if P x then i else fnd P (i + 1) l
theorem fnd_ge {α : Type} (P : α → Bool) : ∀ (l : List α) (i : Nat), decide (fnd P i l ≥ 0) = l.any P
  | [], _ => by simp [fnd]
  | x :: l, i => by
    simp only [fnd, List.any_cons]
    by_cases h : P x = true
    · simp [h]
    · simp only [h, Bool.false_eq_true, if_false, Bool.false_or]
      exact fnd_ge P l (i + 1)
theorem IndexL_ok (g : FuncId) (hb : ∀ args w, (callFunc g args).run cx.P w = .ok (.enter g args) w) (cs : List DV) (P : Lin → Bool) (hP : ∀ l, FunOk cx g ([dL l] ++ cs) (.b (P l))) (ls : List Lin) (hr : Sh ls) :
    FunOk cx 81 [.sl 4 (ls.map rL), .clo g cs] (.i (fnd P 0 ls)) := by
  have hr : ls.length < 4611686018427387904 := hr
  refine fn_ok (c := _) _ Try.func81 rfl Try.ntmps81 rfl fun A w => ?_
  refine w_seq ?_
  refine w_reg ?_
  refine Qv.step (u_p rfl rfl rfl) rfl rfl ?_
  refine o_nil ?_
  refine x_go ?_
  refine w_seq ?_
  refine w_seq ?_
  refine w_reg ?_
  refine Qv.step (u_p rfl rfl rfl) rfl rfl ?_
  refine Qv.step (u_len rfl rfl rfl rfl rfl rfl) rfl rfl ?_
  refine Qv.step (u_p rfl rfl rfl) rfl rfl ?_
  refine o_nil ?_
  refine x_go ?_
  refine w_block ?_
  
  refine w_loop (fun k : Nat => k ≤ ls.length ∧ fnd P k (ls.drop k) = fnd P 0 ls) (fun k => ([(0, .sl 4 (ls.map rL)), (1, .clo g cs), (7, .i ls.length), (8, .i k)], [])) (fun k => ls.length - k) 0 ⟨Nat.zero_le _, rfl⟩ ⟨rfl, rfl, lenS rfl, rfl, trivial⟩ rfl ?_
  rintro k ⟨hk, hI⟩
  refine w_seq ?_
  refine w_reg ?_
  refine Qv.step (u_p rfl rfl rfl) rfl rfl ?_
  refine o_nil ?_
  refine x_go ?_
  refine w_seq ?_
  refine w_if rfl (fun h => ?_) (fun h => ?_)
  · have hlt : k < ls.length := by simpa using h
    rw [List.drop_eq_getElem_cons hlt, fnd] at hI
    clear h
    refine w_skip ?_
    refine x_go ?_
    refine w_seq ?_
    refine w_block ?_
    refine w_seq ?_
    refine w_reg ?_
    refine Qv.step (u_p rfl rfl rfl) rfl rfl ?_
    refine Qv.step (u_p rfl rfl rfl) rfl rfl ?_
    refine o_nil ?_
    refine x_go ?_
    refine w_seq ?_
    refine w_reg ?_
    refine Qv.step (u_p rfl rfl rfl) rfl rfl ?_
    refine Qv.step (u_p rfl rfl rfl) rfl rfl ?_
    refine Qv.step (u_p rfl rfl rfl) rfl rfl ?_
    refine Qv.step (u_ix rfl rfl rfl rfl rfl rfl rfl rfl (by omega) (by simp; omega)) rfl rfl ?_
    refine Qv.step (d := .agg [_, _, _, _]) (.as (u_lde (r := rL ls[k]) (by simp [hlt]) rfl rfl rfl rfl rfl) rfl) rfl rfl ?_
    refine Qv.step (u_clo (hP ls[k]) hb rfl rfl rfl rfl) rfl rfl ?_
    refine o_nil ?_
    refine x_go ?_
    refine w_if rfl (fun h => ?_) (fun h => ?_)
    · refine w_seq ?_
      refine w_reg ?_
      refine Qv.step (u_p rfl rfl rfl) rfl rfl ?_
      refine Qv.step (u_p rfl rfl rfl) rfl rfl ?_
      refine o_nil ?_
      refine x_go ?_
      rw [h, if_pos rfl] at hI
      refine w_ret (x_rt rfl rfl ?_)
      rw [← hI]
    
    · refine w_skip ?_
      refine x_go ?_
      refine w_reg ?_
      refine Qv.step (u_p rfl rfl rfl) rfl rfl ?_
      refine Qv.step (u_p rfl rfl rfl) rfl rfl ?_
      refine o_nil ?_
      rw [h, if_neg (by simp)] at hI
      exact x_rd (k + 1) 0 (by omega) ⟨by omega, hI⟩ rfl ⟨rfl, rfl, rfl, lkS rfl (by omega), trivial⟩
  
  have hge : ¬ k < ls.length := by simpa using h
  refine w_exit ?_
  refine x_go ?_
  refine w_seq ?_
  refine w_reg ?_
  refine Qv.step (u_p rfl rfl rfl) rfl rfl ?_
  refine o_nil ?_
  refine x_go ?_
  refine w_ret (x_rt rfl rfl ?_)
  rw [← hI, List.drop_eq_nil_of_le (by omega)]
  rfl
theorem ContainsL_ok (g : FuncId) (hb : ∀ args w, (callFunc g args).run cx.P w = .ok (.enter g args) w) (cs : List DV) (P : Lin → Bool) (hP : ∀ l, FunOk cx g ([dL l] ++ cs) (.b (P l))) (ls : List Lin) (hr : Sh ls) :
    FunOk cx 68 [.sl 4 (ls.map rL), .clo g cs] (.b (ls.any P)) := by
  refine fn_ok (c := _) _ Try.func68 rfl Try.ntmps68 rfl fun A w => ?_
  refine w_seq ?_
  refine w_reg ?_
  refine Qv.step (u_p rfl rfl rfl) rfl rfl ?_
  refine o_nil ?_
  refine x_go ?_
  refine w_seq ?_
  refine w_reg ?_
  refine Qv.step (u_p rfl rfl rfl) rfl rfl ?_
  refine Qv.step (u_p rfl rfl rfl) rfl rfl ?_
  refine Qv.step (u_call (IndexL_ok g hb cs P hP ls hr) Try.call81 rfl rfl rfl) rfl rfl ?_
  refine Qv.step (u_p rfl rfl rfl) rfl rfl ?_
  refine Qv.step (u_p rfl rfl rfl) rfl rfl ?_
  refine o_nil ?_
  refine x_go ?_
  refine w_ret (x_rt rfl rfl ?_)
  rw [fnd_ge]

def mTouches (ls : List Lin) (at_ : Pt) : Bool := ls.any (mTouch at_)
theorem touches_ok (ls : List Lin) (hr : Sh ls) (at_ : Pt) : FunOk cx 60 [.sl 4 (ls.map rL), dPt at_] (.b (mTouches ls at_)) := by
  refine fn_ok (c := _) _ Try.func60 rfl Try.ntmps60 rfl fun A w => ?_
  refine w_seq ?_
  refine w_reg ?_
  refine o_box rfl rfl rfl rfl rfl rfl ?_; intro b0
  refine Qv.step (u_p rfl rfl rfl) rfl rfl ?_
  refine o_nil ?_
  refine x_go ?_
  refine w_fre 0 3 rfl rfl rfl ?_
  refine w_seq ?_
  refine w_reg ?_
  refine Qv.step (u_p rfl rfl rfl) rfl rfl ?_
  refine Qv.step (u_mkf rfl rfl rfl) rfl rfl ?_
  refine Qv.step (u_call (ContainsL_ok 69 Try.call69 [.el 2 [rPt at_] 0 0] (mTouch at_) (touch_ok at_) ls hr) Try.call68 rfl rfl rfl) rfl rfl ?_
  refine Qv.step (u_p rfl rfl rfl) rfl rfl ?_
  refine o_nil ?_
  refine x_go ?_
  exact w_ret (x_rt rfl rfl rfl)

abbrev Otr := List Lin × W4 × Int
@[reducible] def rO (o : Otr) : List DV := [.sl 4 (o.1.map rL), dW64 o.2.1.1, dW64 o.2.1.2.1, dW64 o.2.1.2.2.1, dW64 o.2.1.2.2.2, .i o.2.2]
def mArS (l : List Otr) (at_ : Pt) (but : Int) (i : Nat) (best : Int) (o : Otr) : Int :=
  if ((o.2.2 == but) || mTouches o.1 at_) || !mOdd o.1 at_ then best
  else if decide (best < 0) || decide (wCmp o.2.1 (l.getD best.toNat ([], (0, 0, 0, 0), 0)).2.1 < 0) then i else best
def mArF (l : List Otr) (at_ : Pt) (but : Int) : Nat → Int → List Otr → Int
  | _, best, [] => best
  | i, best, o :: rest => mArF l at_ but (i + 1) (mArS l at_ but i best o) rest
def mAround (l : List Otr) (at_ : Pt) (but : Int) : Int := mArF l at_ but 0 (-1) l
theorem around_ok (l : List Otr) (hr : Sh l) (hs : ∀ o ∈ l, Sh o.1) (at_ : Pt) (but : Int) : FunOk cx 46 [.sl 6 (l.map rO), dPt at_, .i but] (.i (mAround l at_ but)) := by
  have hr : l.length < 4611686018427387904 := hr
  refine fn_ok (c := _) _ Try.func46 rfl Try.ntmps46 rfl fun A w => ?_
  refine w_seq ?_
  refine w_reg ?_
  refine o_box rfl rfl rfl rfl rfl rfl ?_; intro b0
  refine Qv.step (u_p rfl rfl rfl) rfl rfl ?_
  refine o_nil ?_
  refine x_go ?_
  refine w_seq ?_
  refine w_reg ?_
  refine Qv.step (u_p rfl rfl rfl) rfl rfl ?_
  refine o_nil ?_
  refine x_go ?_
  refine w_seq ?_
  refine w_seq ?_
  refine w_reg ?_
  refine Qv.step (u_p rfl rfl rfl) rfl rfl ?_
  refine Qv.step (u_len rfl rfl rfl rfl rfl rfl) rfl rfl ?_
  refine Qv.step (u_p rfl rfl rfl) rfl rfl ?_
  refine o_nil ?_
  refine x_go ?_
  refine w_block ?_
  
  refine w_loop (fun s : Nat × Int => s.1 ≤ l.length ∧ -1 ≤ s.2 ∧ s.2 < s.1 ∧ mArF l at_ but s.1 s.2 (l.drop s.1) = mAround l at_ but) (fun s => ([(0, .sl 6 (l.map rO)), (2, .i but), (4, .v (.pointer (some ⟨b0, 0, none⟩))), (7, .i s.2), (10, .sl 6 (l.map rO)), (11, .i l.length), (12, .i s.1)],
    [cellsR b0 50 (rPt at_)])) (fun s => l.length - s.1) (0, -1) ⟨Nat.zero_le _, by decide, by decide, rfl⟩ ⟨rfl, rfl, rfl, rfl, rfl, lenS rfl, rfl, trivial⟩ rfl ?_
  rintro ⟨k, best⟩ ⟨hk, hb0, hbk, hI⟩
  simp only at hk hb0 hbk hI
  refine w_seq ?_
  refine w_reg ?_
  refine Qv.step (u_p rfl rfl rfl) rfl rfl ?_
  refine o_nil ?_
  refine x_go ?_
  refine w_seq ?_
  refine w_if rfl (fun h => ?_) (fun h => ?_)
  · have hlt : k < l.length := by simpa using h
    have hsk : Sh l[k].1 := hs _ (List.getElem_mem hlt)
    rw [List.drop_eq_getElem_cons hlt, mArF, mArS] at hI
    clear h
    refine w_skip ?_
    refine x_go ?_
    refine w_seq ?_
    refine w_block ?_
    refine w_seq ?_
    refine w_reg ?_
    refine Qv.step (u_p rfl rfl rfl) rfl rfl ?_
    refine Qv.step (u_ix rfl rfl rfl rfl rfl rfl rfl rfl (by omega) (by simp; omega)) rfl rfl ?_
    refine Qv.step (d := .agg [_, _, _, _, _, _]) (.as (u_lde (r := rO l[k]) (by simp [hlt]) rfl rfl rfl rfl rfl) rfl) rfl rfl ?_
    refine o_alloc rfl rfl rfl rfl rfl rfl ?_; intro b1
    refine Qv.step (u_p rfl rfl rfl) rfl rfl ?_
    refine o_st 1 rfl rfl rfl rfl rfl rfl rfl rfl rfl rfl (by first | rfl | kernel_rfl) ?_
    refine o_nil ?_
    refine x_go ?_
    refine w_seq ?_
    refine w_seq ?_
    refine w_reg ?_
    refine Qv.step (u_p rfl rfl rfl) rfl rfl ?_
    refine Qv.step (u_ld 1 rfl rfl rfl rfl rfl rfl) rfl rfl ?_
    refine Qv.step (u_p rfl rfl rfl) rfl rfl ?_
    refine Qv.step (u_p rfl rfl rfl) rfl rfl ?_
    refine Qv.step (u_p rfl rfl rfl) rfl rfl ?_
    refine Qv.step (d := .gd _ _ _) (.as (q_p (G := [(_, false)]) rfl rfl rfl rfl) rfl) rfl rfl ?_
    refine Qv.step (d := .gd _ _ _) (.as (q_ld (G := [(_, false)]) 1 rfl rfl rfl rfl rfl rfl rfl) rfl) rfl rfl ?_
    refine Qv.step (d := .gd _ _ (.agg [_, _])) (.as (q_ld (G := [(_, false)]) 0 rfl rfl rfl rfl rfl rfl rfl) rfl) rfl rfl ?_
    refine Qv.step (d := .gd _ _ _) (.as (q_call (G := [(_, false)]) (touches_ok l[k].1 hsk at_) Try.call60 rfl rfl rfl rfl) rfl) rfl rfl ?_
    refine Qv.step (d := .v _) (.as (u_pick rfl rfl rfl rfl rfl rfl rfl rfl rfl) rfl) rfl rfl ?_
    refine Qv.step (u_p rfl rfl rfl) rfl rfl ?_
    refine Qv.step (d := .gd _ _ _) (.as (q_p (G := [(_, false)]) rfl rfl rfl rfl) rfl) rfl rfl ?_
    refine Qv.step (d := .gd _ _ _) (.as (q_ld (G := [(_, false)]) 1 rfl rfl rfl rfl rfl rfl rfl) rfl) rfl rfl ?_
    refine Qv.step (d := .gd _ _ (.agg [_, _])) (.as (q_ld (G := [(_, false)]) 0 rfl rfl rfl rfl rfl rfl rfl) rfl) rfl rfl ?_
    refine Qv.step (d := .gd _ _ _) (.as (q_call (G := [(_, false)]) (odd_ok l[k].1 hsk at_) Try.call61 rfl rfl rfl rfl) rfl) rfl rfl ?_
    refine Qv.step (d := .gd _ _ _) (.as (q_p (G := [(_, false)]) rfl rfl rfl rfl) rfl) rfl rfl ?_
    refine Qv.step (d := .v _) (.as (u_pick rfl rfl rfl rfl rfl rfl rfl rfl rfl) rfl) rfl rfl ?_
    refine o_nil ?_
    refine x_go ?_
    refine w_if rfl (fun h => ?_) (fun h => ?_)
    · refine w_exit ?_
      refine x_go ?_
      refine w_reg ?_
      refine Qv.step (u_p rfl rfl rfl) rfl rfl ?_
      refine Qv.step (u_p rfl rfl rfl) rfl rfl ?_
      refine o_nil ?_
      have h' : (((l[k].2.2 == but) || mTouches l[k].1 at_) || !mOdd l[k].1 at_) = true := Eq.trans (by simp) h
      rw [if_pos h'] at hI
      exact x_rd (k + 1, best) 1 (by show l.length - (k + 1) < l.length - k; omega) ⟨by show k + 1 ≤ _; omega, hb0, by show best < ((k + 1 : Nat) : Int); omega, hI⟩ rfl ⟨rfl, rfl, rfl, rfl, rfl, rfl, lkS rfl (by omega), trivial⟩
    
    have h' : ¬ (((l[k].2.2 == but) || mTouches l[k].1 at_) || !mOdd l[k].1 at_) = true := fun h2 => by
      have := h2.symm.trans (Eq.trans (by simp) h)
      cases this
    rw [if_neg h'] at hI
    clear h
    refine w_skip ?_
    refine x_go ?_
    refine w_seq ?_
    refine d_begin ?_
    refine d_q [] (by kernel_rfl) rfl (fun _ _ _ => .onk (L' := []) rfl (u_p rfl rfl rfl) rfl) ?_
    refine d_q [0] (by kernel_rfl) rfl (fun _ _ _ => .onk (L' := [(34, _)]) rfl (u_p rfl rfl rfl) rfl) ?_
    refine d_q [1] (by kernel_rfl) rfl (fun _ _ _ => .onk (L' := [(35, _)]) rfl (u_p rfl rfl rfl) rfl) ?_
    refine d_q (d := .gd _ _ _) [2] (by kernel_rfl) rfl (fun _ _ _ => .onk (L' := [(36, _)]) rfl (q_p (G := [(_, false)]) rfl rfl rfl rfl) rfl) ?_
    refine d_q (d := .gd _ _ (.agg [_, _, _, _])) [2, 3] (by kernel_rfl) rfl (fun _ _ _ => .onk (L' := [(36, _), (37, _)]) rfl (q_ld (G := [(_, false)]) 1 rfl rfl rfl rfl rfl rfl rfl) rfl) ?_
    refine d_q (d := .gd _ _ _) [2] (by kernel_rfl) rfl (fun _ _ _ => .onk (L' := [(36, _)]) rfl (q_p (G := [(_, false)]) rfl rfl rfl rfl) rfl) ?_
    refine d_q (d := .gd _ _ _) [2] (by kernel_rfl) rfl (fun _ _ _ => .onk (L' := [(36, _)]) rfl (q_p (G := [(_, false)]) rfl rfl rfl rfl) rfl) ?_
    refine d_q (d := .gd _ _ _) [2, 5, 6] (by kernel_rfl) rfl (fun _ _ _ => .onk (L' := [(36, _), (39, _), (40, _)]) rfl (q_ix (G := [(_, false)]) rfl rfl rfl rfl rfl rfl rfl rfl rfl (fun hT => by have := hT.1; simp at this; omega) (fun hT => by have := hT.1; simp at this; simp; omega)) rfl) ?_
    refine d_q (d := .gd _ _ _) [2, 7] (by kernel_rfl) rfl (fun _ _ _ => .onk (L' := [(36, _), (41, _)]) rfl (q_p (G := [(_, false)]) rfl rfl rfl rfl) rfl) ?_
    refine d_q (d := .gd _ _ (.agg [_, _, _, _])) [2, 8] (by kernel_rfl) rfl (fun _ _ _ => .onk (L' := [(36, _), (42, _)]) rfl (q_lde (G := [(_, false)]) (r := rO (l.getD best.toNat ([], (0, 0, 0, 0), 0))) (fun hT => by have h0 := hT.1; simp at h0; have h3 : best.toNat < l.length := (by omega); simp [h3]) rfl rfl rfl rfl rfl rfl) rfl) ?_
    refine d_q (d := .gd _ _ _) [2, 4, 9] (by kernel_rfl) rfl (fun _ _ _ => .onk (L' := [(36, _), (38, _), (43, _)]) rfl (q_call (G := [(_, false)]) (Cmp_ok l[k].2.1 (l.getD best.toNat ([], (0, 0, 0, 0), 0)).2.1) Try.call62 rfl rfl rfl rfl) rfl) ?_
    refine d_q (d := .gd _ _ _) [2, 10] (by kernel_rfl) rfl (fun _ _ _ => .onk (L' := [(36, _), (44, _)]) rfl (q_p (G := [(_, false)]) rfl rfl rfl rfl) rfl) ?_
    refine d_q (d := .v _) [2, 11] (by kernel_rfl) rfl (fun _ _ _ => .onk (L' := [(36, _), (45, _)]) rfl (u_pick rfl rfl rfl rfl rfl rfl rfl rfl rfl) rfl) ?_
    refine d_end (by kernel_rfl) (by kernel_rfl) (by kernel_rfl) (fun bs _ => so_as (L' := [(34, _), (35, _), (36, _), (37, _), (38, _), (39, _), (40, _), (41, _), (42, _), (43, _), (44, _), (45, _), (46, _)]) (G' := []) rfl rfl ?_)
    refine o_nil ?_
    refine x_go ?_
    refine w_if rfl (fun h => ?_) (fun h => ?_)
    · have h2 : (decide (best < 0) || decide (wCmp l[k].2.1 (l.getD best.toNat ([], (0, 0, 0, 0), 0)).2.1 < 0)) = true := Eq.trans (by simp) h
      rw [if_pos h2] at hI
      refine w_reg ?_
      refine Qv.step (u_p rfl rfl rfl) rfl rfl ?_
      refine Qv.step (u_p rfl rfl rfl) rfl rfl ?_
      refine o_nil ?_
      refine x_go ?_
      refine w_reg ?_
      refine Qv.step (u_p rfl rfl rfl) rfl rfl ?_
      refine Qv.step (u_p rfl rfl rfl) rfl rfl ?_
      refine o_nil ?_
      exact x_rd (k + 1, (k : Int)) 1 (by show l.length - (k + 1) < l.length - k; omega) ⟨by show k + 1 ≤ _; omega, by show -1 ≤ (k : Int); omega, by show (k : Int) < ((k + 1 : Nat) : Int); omega, hI⟩ rfl ⟨rfl, rfl, rfl, rfl, rfl, rfl, lkS rfl (by omega), trivial⟩
    
    · have h2 : ¬ (decide (best < 0) || decide (wCmp l[k].2.1 (l.getD best.toNat ([], (0, 0, 0, 0), 0)).2.1 < 0)) = true := fun h2 => by
        have := h2.symm.trans (Eq.trans (by simp) h)
        cases this
      rw [if_neg h2] at hI
      refine w_skip ?_
      refine x_go ?_
      refine w_reg ?_
      refine Qv.step (u_p rfl rfl rfl) rfl rfl ?_
      refine Qv.step (u_p rfl rfl rfl) rfl rfl ?_
      refine o_nil ?_
      exact x_rd (k + 1, best) 1 (by show l.length - (k + 1) < l.length - k; omega) ⟨by show k + 1 ≤ _; omega, hb0, by show best < ((k + 1 : Nat) : Int); omega, hI⟩ rfl ⟨rfl, rfl, rfl, rfl, rfl, rfl, lkS rfl (by omega), trivial⟩
  
  have hge : ¬ k < l.length := by simpa using h
  clear h
  have hkk : k = l.length := by omega
  subst hkk
  rw [List.drop_length] at hI
  refine w_exit ?_
  refine x_go ?_
  refine w_seq ?_
  refine w_reg ?_
  refine Qv.step (u_p rfl rfl rfl) rfl rfl ?_
  refine Qv.step (u_p rfl rfl rfl) rfl rfl ?_
  refine o_nil ?_
  refine x_go ?_
  refine w_ret (x_rt rfl rfl ?_)
  rw [← hI]
  rfl
theorem mArF_ge (l : List Otr) (at_ : Pt) (but : Int) : ∀ (rest : List Otr) (i : Nat) (best : Int), -1 ≤ best → best < i → -1 ≤ mArF l at_ but i best rest ∧ mArF l at_ but i best rest < ((i + rest.length : Nat) : Int)
  | [], i, best, h1, h2 => by simp only [mArF, List.length_nil]; omega
  | o :: rest, i, best, h1, h2 => by
    have hs : -1 ≤ mArS l at_ but i best o ∧ mArS l at_ but i best o < ((i + 1 : Nat) : Int) := by
      unfold mArS
      split
      · omega
      · split <;> omega
    have := mArF_ge l at_ but rest (i + 1) _ hs.1 hs.2
    simp only [mArF, List.length_cons]
    omega
theorem mAround_ge (l : List Otr) (at_ : Pt) (but : Int) : -1 ≤ mAround l at_ but ∧ mAround l at_ but < l.length := by
  have := mArF_ge l at_ but l 0 (-1) (by decide) (by decide)
  simpa [mAround] using this
end Go.Proofs.Ytcdakcemcehfiaa
