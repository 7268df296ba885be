/- geom: contracts. -/
import Derived.Test.YtcdakcemcehfiaaCtx
import Derived.Test.YtcdakcemcehfiaaSxi
import Derived.Test.YtcdakcemcehfiaaKey
namespace Go.Proofs.Ytcdakcemcehfiaa
open Go
set_option maxRecDepth 100000


@[reducible] def dPt (p : Pt) : DV := .agg [.i p.1, .i p.2]
@[reducible] def rPt (p : Pt) : List DV := [.i p.1, .i p.2]
def gIn (p : Pt) : Bool := decide (-268435456 ≤ p.1) && decide (p.1 ≤ 268435456) && decide (-268435456 ≤ p.2) && decide (p.2 ≤ 268435456)

theorem In_ok (p : Pt) : FunOk cx 26 [dPt p] (.b (gIn p)) := by
  refine fn_ok (c := _) _ Try.func26 rfl Try.ntmps26 rfl fun A w => ?_
  refine w_seq ?_
  refine w_reg ?_
  refine o_box rfl rfl rfl rfl rfl rfl ?_; intro b0
  refine Qv.step (u_p rfl rfl rfl) rfl rfl ?_
  refine o_nil ?_
  refine x_go ?_
  refine w_seq ?_
  refine w_reg ?_
  refine Qv.step (u_p rfl rfl rfl) rfl rfl ?_
  refine Qv.step (u_ld 0 rfl rfl rfl rfl rfl rfl) rfl rfl ?_
  refine Qv.step (u_p rfl rfl rfl) rfl rfl ?_
  refine Qv.step (u_p rfl rfl rfl) rfl rfl ?_
  refine Qv.step (d := .gd _ _ _) (.as (q_p (G := [(_, true)]) rfl rfl rfl rfl) rfl) rfl rfl ?_
  refine Qv.step (d := .gd _ _ _) (.as (q_ld (G := [(_, true)]) 0 rfl rfl rfl rfl rfl rfl rfl) rfl) rfl rfl ?_
  refine Qv.step (d := .gd _ _ _) (.as (q_p (G := [(_, true)]) rfl rfl rfl rfl) rfl) rfl rfl ?_
  refine Qv.step (d := .v _) (.as (u_pick rfl rfl rfl rfl rfl rfl rfl rfl rfl) rfl) rfl rfl ?_
  refine Qv.step (u_p rfl rfl rfl) rfl rfl ?_
  refine Qv.step (d := .gd _ _ _) (.as (q_p (G := [(_, true)]) rfl rfl rfl rfl) rfl) rfl rfl ?_
  refine Qv.step (d := .gd _ _ _) (.as (q_ld (G := [(_, true)]) 0 rfl rfl rfl rfl rfl rfl rfl) rfl) rfl rfl ?_
  refine Qv.step (d := .gd _ _ _) (.as (q_p (G := [(_, true)]) rfl rfl rfl rfl) rfl) rfl rfl ?_
  refine Qv.step (d := .v _) (.as (u_pick rfl rfl rfl rfl rfl rfl rfl rfl rfl) rfl) rfl rfl ?_
  refine Qv.step (u_p rfl rfl rfl) rfl rfl ?_
  refine Qv.step (d := .gd _ _ _) (.as (q_p (G := [(_, true)]) rfl rfl rfl rfl) rfl) rfl rfl ?_
  refine Qv.step (d := .gd _ _ _) (.as (q_ld (G := [(_, true)]) 0 rfl rfl rfl rfl rfl rfl rfl) rfl) rfl rfl ?_
  refine Qv.step (d := .gd _ _ _) (.as (q_p (G := [(_, true)]) rfl rfl rfl rfl) rfl) rfl rfl ?_
  refine Qv.step (d := .v _) (.as (u_pick rfl rfl rfl rfl rfl rfl rfl rfl rfl) rfl) rfl rfl ?_
  refine Qv.step (u_p rfl rfl rfl) rfl rfl ?_
  refine o_nil ?_
  refine x_go ?_
  refine w_ret (x_rt rfl rfl ?_)
  simp [gIn]

def gLess (a b : Pt) : Bool := decide (a.1 < b.1) || (a.1 == b.1) && decide (a.2 < b.2)
theorem Less_ok (a b : Pt) : FunOk cx 45 [dPt a, dPt b] (.b (gLess a b)) := by
  refine fn_ok (c := _) _ Try.func45 rfl Try.ntmps45 rfl fun A w => ?_
  refine w_seq ?_
  refine w_reg ?_
  refine o_box rfl rfl rfl rfl rfl rfl ?_; intro b0
  refine o_box rfl rfl rfl rfl rfl rfl ?_; intro b1
  refine Qv.step (u_p rfl rfl rfl) rfl rfl ?_
  refine o_nil ?_
  refine x_go ?_
  refine w_seq ?_
  refine w_reg ?_
  refine Qv.step (u_p rfl rfl rfl) rfl rfl ?_
  refine Qv.step (u_ld 0 rfl rfl rfl rfl rfl rfl) rfl rfl ?_
  refine Qv.step (u_p rfl rfl rfl) rfl rfl ?_
  refine Qv.step (u_ld 1 rfl rfl rfl rfl rfl rfl) rfl rfl ?_
  refine Qv.step (u_p rfl rfl rfl) rfl rfl ?_
  refine Qv.step (u_p rfl rfl rfl) rfl rfl ?_
  refine Qv.step (d := .gd _ _ _) (.as (q_p (G := [(_, false)]) rfl rfl rfl rfl) rfl) rfl rfl ?_
  refine Qv.step (d := .gd _ _ _) (.as (q_ld (G := [(_, false)]) 0 rfl rfl rfl rfl rfl rfl rfl) rfl) rfl rfl ?_
  refine Qv.step (d := .gd _ _ _) (.as (q_p (G := [(_, false)]) rfl rfl rfl rfl) rfl) rfl rfl ?_
  refine Qv.step (d := .gd _ _ _) (.as (q_ld (G := [(_, false)]) 1 rfl rfl rfl rfl rfl rfl rfl) rfl) rfl rfl ?_
  refine Qv.step (d := .gd _ _ _) (.as (q_p (G := [(_, false)]) rfl rfl rfl rfl) rfl) rfl rfl ?_
  refine Qv.step (d := .gd _ _ _) (.as (q_p (G := [(_, false)]) rfl rfl rfl rfl) rfl) rfl rfl ?_
  refine Qv.step (d := .gd _ _ (.gd _ _ _)) (.as (q_p (G := [(_, false), (_, true)]) rfl rfl rfl rfl) rfl) rfl rfl ?_
  refine Qv.step (d := .gd _ _ (.gd _ _ _)) (.as (q_ld (G := [(_, false), (_, true)]) 0 rfl rfl rfl rfl rfl rfl rfl) rfl) rfl rfl ?_
  refine Qv.step (d := .gd _ _ (.gd _ _ _)) (.as (q_p (G := [(_, false), (_, true)]) rfl rfl rfl rfl) rfl) rfl rfl ?_
  refine Qv.step (d := .gd _ _ (.gd _ _ _)) (.as (q_ld (G := [(_, false), (_, true)]) 1 rfl rfl rfl rfl rfl rfl rfl) rfl) rfl rfl ?_
  refine Qv.step (d := .gd _ _ (.gd _ _ _)) (.as (q_p (G := [(_, false), (_, true)]) rfl rfl rfl rfl) rfl) rfl rfl ?_
  refine Qv.step (d := .gd _ _ (.v _)) (.as (q_pick (G := [(_, false)]) rfl rfl rfl rfl rfl rfl rfl rfl rfl rfl) rfl) rfl rfl ?_
  refine Qv.step (d := .v _) (.as (u_pick rfl rfl rfl rfl rfl rfl rfl rfl rfl) rfl) rfl rfl ?_
  refine Qv.step (u_p rfl rfl rfl) rfl rfl ?_
  refine o_nil ?_
  refine x_go ?_
  refine w_ret (x_rt rfl rfl ?_)
  simp [gLess]

def gSign (n : Int) : Int := if n < 0 then -1 else if n > 0 then 1 else 0
theorem sign_ok (n : Int) : FunOk cx 63 [.i n] (.i (gSign n)) := by
  refine fn_ok (c := _) _ Try.func63 rfl Try.ntmps63 rfl fun A w => ?_
  refine w_seq ?_
  refine w_reg ?_
  refine Qv.step (u_p rfl rfl rfl) rfl rfl ?_
  refine o_nil ?_
  refine x_go ?_
  refine w_seq ?_
  refine w_block ?_
  refine w_seq ?_
  refine w_reg ?_
  refine Qv.step (u_p rfl rfl rfl) rfl rfl ?_
  refine Qv.step (u_p rfl rfl rfl) rfl rfl ?_
  refine Qv.step (u_p rfl rfl rfl) rfl rfl ?_
  refine o_nil ?_
  refine x_go ?_
  refine w_if rfl (fun h => ?_) (fun h => ?_)
  · refine w_seq ?_
    refine w_reg ?_
    refine Qv.step (u_p rfl rfl rfl) rfl rfl ?_
    refine o_nil ?_
    refine x_go ?_
    refine w_ret (x_rt rfl rfl ?_)
    have h' : n < 0 := by simpa using h
    simp [gSign, h']
  
  · have h' : ¬ n < 0 := by simpa using h
    refine w_seq ?_
    refine w_reg ?_
    refine Qv.step (u_p rfl rfl rfl) rfl rfl ?_
    refine Qv.step (u_p rfl rfl rfl) rfl rfl ?_
    refine Qv.step (u_p rfl rfl rfl) rfl rfl ?_
    refine o_nil ?_
    refine x_go ?_
    clear h
    refine w_if rfl (fun h => ?_) (fun h => ?_)
    · refine w_seq ?_
      refine w_reg ?_
      refine Qv.step (u_p rfl rfl rfl) rfl rfl ?_
      refine o_nil ?_
      refine x_go ?_
      refine w_ret (x_rt rfl rfl ?_)
      have h2' : 0 < n := by simpa using h
      simp [gSign, h', h2']
    
    · refine w_skip ?_
      refine x_go ?_
      refine w_seq ?_
      refine w_reg ?_
      refine Qv.step (u_p rfl rfl rfl) rfl rfl ?_
      refine o_nil ?_
      refine x_go ?_
      have h2' : ¬ 0 < n := by simpa using h
      refine w_ret (x_rt rfl rfl ?_)
      simp [gSign, h', h2']

theorem all_ok (l : List Pt) (hl : l.length < 4611686018427387904) : FunOk cx 48 [.sl 2 (l.map rPt)] (.b (l.all gIn)) := by
  refine fn_ok (c := _) _ Try.func48 rfl Try.ntmps48 rfl fun A w => ?_
  refine w_seq ?_
  refine w_reg ?_
  refine Qv.step (u_p rfl rfl rfl) rfl rfl ?_
  refine o_nil ?_
  refine x_go ?_
  refine w_seq ?_
  refine w_seq ?_
  refine w_reg ?_
  refine Qv.step (u_p rfl rfl rfl) rfl rfl ?_
  refine Qv.step (u_len rfl rfl rfl rfl rfl rfl) rfl rfl ?_
  refine Qv.step (u_p rfl rfl rfl) rfl rfl ?_
  refine o_nil ?_
  refine x_go ?_
  refine w_block ?_
  
  refine w_loop (fun k : Nat => k ≤ l.length ∧ ∀ i, (h : i < l.length) → i < k → gIn l[i] = true) (fun k => ([(5, .sl 2 (l.map rPt)), (6, .i l.length), (7, .i k)], [])) (fun k => l.length - k) 0 ⟨Nat.zero_le _, fun _ _ h => absurd h (Nat.not_lt_zero _)⟩ ⟨rfl, ?_, rfl, trivial⟩ rfl ?_
  · show some (DV.i ((l.map rPt).length : Int)) = _
    rw [List.length_map]
  rintro k ⟨hk, hI⟩
  refine w_seq ?_
  refine w_reg ?_
  refine Qv.step (u_p rfl rfl rfl) rfl rfl ?_
  refine o_nil ?_
  refine x_go ?_
  refine w_seq ?_
  refine w_if rfl (fun h => ?_) (fun h => ?_)
  · have hlt : k < l.length := by simpa using h
    refine w_skip ?_
    refine x_go ?_
    refine w_seq ?_
    refine w_block ?_
    refine w_seq ?_
    refine w_reg ?_
    refine Qv.step (u_ix rfl rfl rfl rfl rfl rfl rfl rfl (by omega) (by simp; omega)) rfl rfl ?_
    refine Qv.step (d := .agg [_, _]) (.as (u_lde (r := rPt l[k]) (by simp [hlt]) rfl rfl rfl rfl rfl) rfl) rfl rfl ?_
    refine o_alloc rfl rfl rfl rfl rfl rfl ?_; intro b0
    refine o_st 0 rfl rfl rfl rfl rfl rfl rfl rfl rfl rfl (by first | rfl | kernel_rfl) ?_
    refine o_nil ?_
    refine x_go ?_
    refine w_seq ?_
    refine w_reg ?_
    refine Qv.step (d := .agg [_, _]) (.as (u_ld 0 rfl rfl rfl rfl rfl rfl) rfl) rfl rfl ?_
    refine Qv.step (u_call (In_ok l[k]) Try.call26 rfl rfl rfl) rfl rfl ?_
    refine Qv.step (u_p rfl rfl rfl) rfl rfl ?_
    refine o_nil ?_
    refine x_go ?_
    clear h
    refine w_if rfl (fun h => ?_) (fun h => ?_)
    · refine w_seq ?_
      refine w_reg ?_
      refine Qv.step (u_p rfl rfl rfl) rfl rfl ?_
      refine o_nil ?_
      refine x_go ?_
      refine w_ret (x_rt rfl rfl ?_)
      have : gIn l[k] = false := by simpa using h
      have h3 : l.all gIn = false := by
        rw [List.all_eq_false]
        exact ⟨l[k], List.getElem_mem hlt, by simp [this]⟩
      simp [h3]
    
    · refine w_skip ?_
      refine x_go ?_
      refine w_reg ?_
      refine Qv.step (u_p rfl rfl rfl) rfl rfl ?_
      refine Qv.step (u_p rfl rfl rfl) rfl rfl ?_
      refine o_nil ?_
      have h4 : gIn l[k] = true := by simpa using h
      refine x_rd (k + 1) 0 (by omega) ⟨by omega, fun i hi hik => ?_⟩ rfl ⟨rfl, rfl, lkS rfl (by omega), trivial⟩
      by_cases e : i = k
      · subst e; exact h4
      · exact hI i hi (by omega)
  
  · have hge : ¬ k < l.length := by simpa using h
    refine w_exit ?_
    refine x_go ?_
    refine w_seq ?_
    refine w_reg ?_
    refine Qv.step (u_p rfl rfl rfl) rfl rfl ?_
    refine o_nil ?_
    refine x_go ?_
    refine w_ret (x_rt rfl rfl ?_)
    have h3 : l.all gIn = true := by
      rw [List.all_eq_true]
      intro x hx
      obtain ⟨i, hi, rfl⟩ := List.getElem_of_mem hx
      exact hI i hi (by omega)
    simp [h3]

/-- (b.X-a.X)*(c.Y-a.Y) - (b.Y-a.Y)*(c.X-a.X), cut to 64 bits at each step. -/
def w64 (n : Int) : Int := IntKind.i64.wrap n
def gDet (a b c : Pt) : Int := w64 (w64 (w64 (b.1 - a.1) * w64 (c.2 - a.2)) - w64 (w64 (b.2 - a.2) * w64 (c.1 - a.1)))
def gTurn (a b c : Pt) : Int := gSign (gDet a b c)
theorem turn_ok (a b c : Pt) : FunOk cx 49 [dPt a, dPt b, dPt c] (.i (gTurn a b c)) := by
  refine fn_ok (c := _) _ Try.func49 rfl Try.ntmps49 rfl fun A w => ?_
  refine w_seq ?_
  refine w_reg ?_
  refine o_box rfl rfl rfl rfl rfl rfl ?_; intro b0
  refine o_box rfl rfl rfl rfl rfl rfl ?_; intro b1
  refine o_box rfl rfl rfl rfl rfl rfl ?_; intro b2
  refine Qv.step (u_p rfl rfl rfl) rfl rfl ?_
  refine o_nil ?_
  refine x_go ?_
  refine w_seq ?_
  refine w_reg ?_
  refine Qv.step (u_p rfl rfl rfl) rfl rfl ?_
  refine Qv.step (u_ld 1 rfl rfl rfl rfl rfl rfl) rfl rfl ?_
  refine Qv.step (u_p rfl rfl rfl) rfl rfl ?_
  refine Qv.step (u_ld 0 rfl rfl rfl rfl rfl rfl) rfl rfl ?_
  refine Qv.step (u_p rfl rfl rfl) rfl rfl ?_
  refine Qv.step (u_p rfl rfl rfl) rfl rfl ?_
  refine Qv.step (u_ld 2 rfl rfl rfl rfl rfl rfl) rfl rfl ?_
  refine Qv.step (u_p rfl rfl rfl) rfl rfl ?_
  refine Qv.step (u_ld 0 rfl rfl rfl rfl rfl rfl) rfl rfl ?_
  refine Qv.step (u_p rfl rfl rfl) rfl rfl ?_
  refine Qv.step (u_p rfl rfl rfl) rfl rfl ?_
  refine Qv.step (u_p rfl rfl rfl) rfl rfl ?_
  refine Qv.step (u_ld 1 rfl rfl rfl rfl rfl rfl) rfl rfl ?_
  refine Qv.step (u_p rfl rfl rfl) rfl rfl ?_
  refine Qv.step (u_ld 0 rfl rfl rfl rfl rfl rfl) rfl rfl ?_
  refine Qv.step (u_p rfl rfl rfl) rfl rfl ?_
  refine Qv.step (u_p rfl rfl rfl) rfl rfl ?_
  refine Qv.step (u_ld 2 rfl rfl rfl rfl rfl rfl) rfl rfl ?_
  refine Qv.step (u_p rfl rfl rfl) rfl rfl ?_
  refine Qv.step (u_ld 0 rfl rfl rfl rfl rfl rfl) rfl rfl ?_
  refine Qv.step (u_p rfl rfl rfl) rfl rfl ?_
  refine Qv.step (u_p rfl rfl rfl) rfl rfl ?_
  refine Qv.step (u_p rfl rfl rfl) rfl rfl ?_
  refine Qv.step (u_call (sign_ok (gDet a b c)) Try.call63 rfl rfl rfl) rfl rfl ?_
  refine Qv.step (u_p rfl rfl rfl) rfl rfl ?_
  refine o_nil ?_
  refine x_go ?_
  exact w_ret (x_rt rfl rfl rfl)

def gBetween (p a b : Pt) : Bool := (gLess a p && gLess p b) || (gLess b p && gLess p a)
theorem between_ok (p a b : Pt) : FunOk cx 50 [dPt p, dPt a, dPt b] (.b (gBetween p a b)) := by
  refine fn_ok (c := _) _ Try.func50 rfl Try.ntmps50 rfl fun A w => ?_
  refine w_seq ?_
  refine w_reg ?_
  refine o_box rfl rfl rfl rfl rfl rfl ?_; intro b0
  refine o_box rfl rfl rfl rfl rfl rfl ?_; intro b1
  refine o_box rfl rfl rfl rfl rfl rfl ?_; intro b2
  refine Qv.step (u_p rfl rfl rfl) rfl rfl ?_
  refine o_nil ?_
  refine x_go ?_
  refine w_seq ?_
  refine w_reg ?_
  refine Qv.step (d := .agg [_, _]) (.as (u_ld 1 rfl rfl rfl rfl rfl rfl) rfl) rfl rfl ?_
  refine Qv.step (d := .agg [_, _]) (.as (u_ld 0 rfl rfl rfl rfl rfl rfl) rfl) rfl rfl ?_
  refine Qv.step (u_call (Less_ok a p) Try.call45 rfl rfl rfl) rfl rfl ?_
  refine Qv.step (u_p rfl rfl rfl) rfl rfl ?_
  refine Qv.step (d := .gd _ _ (.agg [_, _])) (.as (q_ld (G := [(_, true)]) 0 rfl rfl rfl rfl rfl rfl rfl) rfl) rfl rfl ?_
  refine Qv.step (d := .gd _ _ (.agg [_, _])) (.as (q_ld (G := [(_, true)]) 2 rfl rfl rfl rfl rfl rfl rfl) rfl) rfl rfl ?_
  refine Qv.step (d := .gd _ _ _) (.as (q_call (G := [(_, true)]) (Less_ok p b) Try.call45 rfl rfl rfl rfl) rfl) rfl rfl ?_
  refine Qv.step (d := .v _) (.as (u_pick rfl rfl rfl rfl rfl rfl rfl rfl rfl) rfl) rfl rfl ?_
  refine Qv.step (u_p rfl rfl rfl) rfl rfl ?_
  refine Qv.step (d := .gd _ _ (.agg [_, _])) (.as (q_ld (G := [(_, false)]) 2 rfl rfl rfl rfl rfl rfl rfl) rfl) rfl rfl ?_
  refine Qv.step (d := .gd _ _ (.agg [_, _])) (.as (q_ld (G := [(_, false)]) 0 rfl rfl rfl rfl rfl rfl rfl) rfl) rfl rfl ?_
  refine Qv.step (d := .gd _ _ _) (.as (q_call (G := [(_, false)]) (Less_ok b p) Try.call45 rfl rfl rfl rfl) rfl) rfl rfl ?_
  refine Qv.step (d := .gd _ _ _) (.as (q_p (G := [(_, false)]) rfl rfl rfl rfl) rfl) rfl rfl ?_
  refine Qv.step (d := .gd _ _ (.gd _ _ (.agg [_, _]))) (.as (q_ld (G := [(_, false), (_, true)]) 0 rfl rfl rfl rfl rfl rfl rfl) rfl) rfl rfl ?_
  refine Qv.step (d := .gd _ _ (.gd _ _ (.agg [_, _]))) (.as (q_ld (G := [(_, false), (_, true)]) 1 rfl rfl rfl rfl rfl rfl rfl) rfl) rfl rfl ?_
  refine Qv.step (d := .gd _ _ (.gd _ _ _)) (.as (q_call (G := [(_, false), (_, true)]) (Less_ok p a) Try.call45 rfl rfl rfl rfl) rfl) rfl rfl ?_
  refine Qv.step (d := .gd _ _ (.v _)) (.as (q_pick (G := [(_, false)]) rfl rfl rfl rfl rfl rfl rfl rfl rfl rfl) rfl) rfl rfl ?_
  refine Qv.step (d := .v _) (.as (u_pick rfl rfl rfl rfl rfl rfl rfl rfl rfl) rfl) rfl rfl ?_
  refine Qv.step (u_p rfl rfl rfl) rfl rfl ?_
  refine o_nil ?_
  refine x_go ?_
  refine w_ret (x_rt rfl rfl ?_)
  simp [gBetween]

def gAll3 (a b c : Pt) : Bool := gIn a && gIn b && gIn c
def gOn (p a b : Pt) : Bool := gAll3 p a b && (gTurn a b p == 0) && gBetween p a b
theorem On_ok (p a b : Pt) : FunOk cx 36 [dPt p, dPt a, dPt b] (.b (gOn p a b)) := by
  refine fn_ok (c := _) _ Try.func36 rfl Try.ntmps36 rfl fun A w => ?_
  refine w_seq ?_
  refine w_reg ?_
  refine o_box rfl rfl rfl rfl rfl rfl ?_; intro b0
  refine o_box rfl rfl rfl rfl rfl rfl ?_; intro b1
  refine o_box rfl rfl rfl rfl rfl rfl ?_; intro b2
  refine Qv.step (u_p rfl rfl rfl) rfl rfl ?_
  refine o_nil ?_
  refine x_go ?_
  refine w_seq ?_
  refine w_reg ?_
  refine Qv.step (d := .agg [_, _]) (.as (u_ld 0 rfl rfl rfl rfl rfl rfl) rfl) rfl rfl ?_
  refine Qv.step (d := .agg [_, _]) (.as (u_ld 1 rfl rfl rfl rfl rfl rfl) rfl) rfl rfl ?_
  refine Qv.step (d := .agg [_, _]) (.as (u_ld 2 rfl rfl rfl rfl rfl rfl) rfl) rfl rfl ?_
  refine Qv.step (q_bsl rfl rfl rfl rfl rfl rfl rfl rfl rfl rfl rfl) rfl rfl ?_
  refine Qv.step (u_call (all_ok [p, a, b] (by simp)) Try.call48 rfl rfl rfl) rfl rfl ?_
  refine Qv.step (u_p rfl rfl rfl) rfl rfl ?_
  refine Qv.step (d := .gd _ _ (.agg [_, _])) (.as (q_ld (G := [(_, true)]) 1 rfl rfl rfl rfl rfl rfl rfl) rfl) rfl rfl ?_
  refine Qv.step (d := .gd _ _ (.agg [_, _])) (.as (q_ld (G := [(_, true)]) 2 rfl rfl rfl rfl rfl rfl rfl) rfl) rfl rfl ?_
  refine Qv.step (d := .gd _ _ (.agg [_, _])) (.as (q_ld (G := [(_, true)]) 0 rfl rfl rfl rfl rfl rfl rfl) rfl) rfl rfl ?_
  refine Qv.step (d := .gd _ _ _) (.as (q_call (G := [(_, true)]) (turn_ok a b p) Try.call49 rfl rfl rfl rfl) rfl) rfl rfl ?_
  refine Qv.step (d := .gd _ _ _) (.as (q_p (G := [(_, true)]) rfl rfl rfl rfl) rfl) rfl rfl ?_
  refine Qv.step (d := .v _) (.as (u_pick rfl rfl rfl rfl rfl rfl rfl rfl rfl) rfl) rfl rfl ?_
  refine Qv.step (u_p rfl rfl rfl) rfl rfl ?_
  refine Qv.step (d := .gd _ _ (.agg [_, _])) (.as (q_ld (G := [(_, true)]) 0 rfl rfl rfl rfl rfl rfl rfl) rfl) rfl rfl ?_
  refine Qv.step (d := .gd _ _ (.agg [_, _])) (.as (q_ld (G := [(_, true)]) 1 rfl rfl rfl rfl rfl rfl rfl) rfl) rfl rfl ?_
  refine Qv.step (d := .gd _ _ (.agg [_, _])) (.as (q_ld (G := [(_, true)]) 2 rfl rfl rfl rfl rfl rfl rfl) rfl) rfl rfl ?_
  refine Qv.step (d := .gd _ _ _) (.as (q_call (G := [(_, true)]) (between_ok p a b) Try.call50 rfl rfl rfl rfl) rfl) rfl rfl ?_
  refine Qv.step (d := .v _) (.as (u_pick rfl rfl rfl rfl rfl rfl rfl rfl rfl) rfl) rfl rfl ?_
  refine Qv.step (u_p rfl rfl rfl) rfl rfl ?_
  refine o_nil ?_
  refine x_go ?_
  refine w_ret (x_rt rfl rfl ?_)
  simp [gOn, gAll3, Bool.and_assoc]

def gMeet (a b c d : Pt) : Bool :=
  if (!(gAll3 a b c && gIn d) || (a == b)) || (c == d) then false
  else if ((gOn a c d || gOn b c d) || gOn c a b) || gOn d a b then true
  else if ((a == c) && (b == d)) || ((a == d) && (b == c)) then true
  else decide (w64 (gTurn a b c * gTurn a b d) < 0) && decide (w64 (gTurn c d a * gTurn c d b) < 0)

theorem pt_beq (a b : Pt) : ((a.1 == b.1) && ((a.2 == b.2) && true)) = (a == b) := by
  rw [Bool.and_true]; rfl
theorem pt_eqV (k k' : IntKind) (a b : Pt) : eqV [.int k a.1, .int k a.2] [.int k' b.1, .int k' b.2] = (a == b) := pt_beq a b

set_option maxHeartbeats 2000000 in


theorem Meet_ok (a b c d : Pt) : FunOk cx 37 [dPt a, dPt b, dPt c, dPt d] (.b (gMeet a b c d)) := by
  refine fn_ok (c := _) _ Try.func37 rfl Try.ntmps37 rfl fun A w => ?_
  refine w_seq ?_
  refine w_reg ?_
  refine o_box rfl rfl rfl rfl rfl rfl ?_; intro b0
  refine o_box rfl rfl rfl rfl rfl rfl ?_; intro b1
  refine o_box rfl rfl rfl rfl rfl rfl ?_; intro b2
  refine o_box rfl rfl rfl rfl rfl rfl ?_; intro b3
  refine Qv.step (u_p rfl rfl rfl) rfl rfl ?_
  refine o_nil ?_
  refine x_go ?_
  refine w_seq ?_
  refine w_seq ?_
  refine w_reg ?_
  refine Qv.step (d := .agg [_, _]) (.as (u_ld 0 rfl rfl rfl rfl rfl rfl) rfl) rfl rfl ?_
  refine Qv.step (d := .agg [_, _]) (.as (u_ld 1 rfl rfl rfl rfl rfl rfl) rfl) rfl rfl ?_
  refine Qv.step (d := .agg [_, _]) (.as (u_ld 2 rfl rfl rfl rfl rfl rfl) rfl) rfl rfl ?_
  refine Qv.step (d := .agg [_, _]) (.as (u_ld 3 rfl rfl rfl rfl rfl rfl) rfl) rfl rfl ?_
  refine Qv.step (q_bsl rfl rfl rfl rfl rfl rfl rfl rfl rfl rfl rfl) rfl rfl ?_
  refine Qv.step (u_call (all_ok [a, b, c, d] (by simp)) Try.call48 rfl rfl rfl) rfl rfl ?_
  refine Qv.step (u_p rfl rfl rfl) rfl rfl ?_
  refine Qv.step (u_p rfl rfl rfl) rfl rfl ?_
  refine Qv.step (d := .gd _ _ (.agg [_, _])) (.as (q_ld (G := [(_, false)]) 0 rfl rfl rfl rfl rfl rfl rfl) rfl) rfl rfl ?_
  refine Qv.step (d := .gd _ _ (.agg [_, _])) (.as (q_ld (G := [(_, false)]) 1 rfl rfl rfl rfl rfl rfl rfl) rfl) rfl rfl ?_
  refine Qv.step (d := .gd _ _ _) (.as (q_eq (G := [(_, false)]) rfl rfl rfl rfl rfl rfl rfl rfl rfl rfl rfl rfl rfl) rfl) rfl rfl ?_
  refine Qv.step (d := .v _) (.as (u_pick rfl rfl rfl rfl rfl rfl rfl rfl rfl) rfl) rfl rfl ?_
  refine Qv.step (u_p rfl rfl rfl) rfl rfl ?_
  refine Qv.step (d := .gd _ _ (.agg [_, _])) (.as (q_ld (G := [(_, false)]) 2 rfl rfl rfl rfl rfl rfl rfl) rfl) rfl rfl ?_
  refine Qv.step (d := .gd _ _ (.agg [_, _])) (.as (q_ld (G := [(_, false)]) 3 rfl rfl rfl rfl rfl rfl rfl) rfl) rfl rfl ?_
  refine Qv.step (d := .gd _ _ _) (.as (q_eq (G := [(_, false)]) rfl rfl rfl rfl rfl rfl rfl rfl rfl rfl rfl rfl rfl) rfl) rfl rfl ?_
  refine Qv.step (d := .v _) (.as (u_pick rfl rfl rfl rfl rfl rfl rfl rfl rfl) rfl) rfl rfl ?_
  refine o_nil ?_
  refine x_go ?_
  refine w_if rfl (fun h => ?_) (fun h => ?_)
  · refine w_seq ?_
    refine w_reg ?_
    refine Qv.step (u_p rfl rfl rfl) rfl rfl ?_
    refine o_nil ?_
    refine x_go ?_
    refine w_ret (x_rt rfl rfl ?_)
    have h' : ((!(gAll3 a b c && gIn d) || (a == b)) || (c == d)) = true := by rw [← h]; simp [pt_eqV, gAll3, Bool.and_assoc]
    simp only [gMeet, h', if_true]
  
  have h1 : ((!(gAll3 a b c && gIn d) || (a == b)) || (c == d)) = false := by rw [← h]; simp [pt_eqV, gAll3, Bool.and_assoc]
  clear h
  refine w_skip ?_
  refine x_go ?_
  refine w_seq ?_
  refine w_seq ?_
  refine w_reg ?_
  refine Qv.step (d := .agg [_, _]) (.as (u_ld 0 rfl rfl rfl rfl rfl rfl) rfl) rfl rfl ?_
  refine Qv.step (d := .agg [_, _]) (.as (u_ld 2 rfl rfl rfl rfl rfl rfl) rfl) rfl rfl ?_
  refine Qv.step (d := .agg [_, _]) (.as (u_ld 3 rfl rfl rfl rfl rfl rfl) rfl) rfl rfl ?_
  refine Qv.step (u_call (On_ok a c d) Try.call36 rfl rfl rfl) rfl rfl ?_
  refine Qv.step (u_p rfl rfl rfl) rfl rfl ?_
  refine Qv.step (d := .gd _ _ (.agg [_, _])) (.as (q_ld (G := [(_, false)]) 1 rfl rfl rfl rfl rfl rfl rfl) rfl) rfl rfl ?_
  refine Qv.step (d := .gd _ _ (.agg [_, _])) (.as (q_ld (G := [(_, false)]) 2 rfl rfl rfl rfl rfl rfl rfl) rfl) rfl rfl ?_
  refine Qv.step (d := .gd _ _ (.agg [_, _])) (.as (q_ld (G := [(_, false)]) 3 rfl rfl rfl rfl rfl rfl rfl) rfl) rfl rfl ?_
  refine Qv.step (d := .gd _ _ _) (.as (q_call (G := [(_, false)]) (On_ok b c d) Try.call36 rfl rfl rfl rfl) rfl) rfl rfl ?_
  refine Qv.step (d := .v _) (.as (u_pick rfl rfl rfl rfl rfl rfl rfl rfl rfl) rfl) rfl rfl ?_
  refine Qv.step (u_p rfl rfl rfl) rfl rfl ?_
  refine Qv.step (d := .gd _ _ (.agg [_, _])) (.as (q_ld (G := [(_, false)]) 2 rfl rfl rfl rfl rfl rfl rfl) rfl) rfl rfl ?_
  refine Qv.step (d := .gd _ _ (.agg [_, _])) (.as (q_ld (G := [(_, false)]) 0 rfl rfl rfl rfl rfl rfl rfl) rfl) rfl rfl ?_
  refine Qv.step (d := .gd _ _ (.agg [_, _])) (.as (q_ld (G := [(_, false)]) 1 rfl rfl rfl rfl rfl rfl rfl) rfl) rfl rfl ?_
  refine Qv.step (d := .gd _ _ _) (.as (q_call (G := [(_, false)]) (On_ok c a b) Try.call36 rfl rfl rfl rfl) rfl) rfl rfl ?_
  refine Qv.step (d := .v _) (.as (u_pick rfl rfl rfl rfl rfl rfl rfl rfl rfl) rfl) rfl rfl ?_
  refine Qv.step (u_p rfl rfl rfl) rfl rfl ?_
  refine Qv.step (d := .gd _ _ (.agg [_, _])) (.as (q_ld (G := [(_, false)]) 3 rfl rfl rfl rfl rfl rfl rfl) rfl) rfl rfl ?_
  refine Qv.step (d := .gd _ _ (.agg [_, _])) (.as (q_ld (G := [(_, false)]) 0 rfl rfl rfl rfl rfl rfl rfl) rfl) rfl rfl ?_
  refine Qv.step (d := .gd _ _ (.agg [_, _])) (.as (q_ld (G := [(_, false)]) 1 rfl rfl rfl rfl rfl rfl rfl) rfl) rfl rfl ?_
  refine Qv.step (d := .gd _ _ _) (.as (q_call (G := [(_, false)]) (On_ok d a b) Try.call36 rfl rfl rfl rfl) rfl) rfl rfl ?_
  refine Qv.step (d := .v _) (.as (u_pick rfl rfl rfl rfl rfl rfl rfl rfl rfl) rfl) rfl rfl ?_
  refine o_nil ?_
  refine x_go ?_
  refine w_if rfl (fun h => ?_) (fun h => ?_)
  · refine w_seq ?_
    refine w_reg ?_
    refine Qv.step (u_p rfl rfl rfl) rfl rfl ?_
    refine o_nil ?_
    refine x_go ?_
    refine w_ret (x_rt rfl rfl ?_)
    have h' : (((gOn a c d || gOn b c d) || gOn c a b) || gOn d a b) = true := by rw [← h]; simp
    simp only [gMeet, h1, h']; simp
  
  have h2 : (((gOn a c d || gOn b c d) || gOn c a b) || gOn d a b) = false := by rw [← h]; simp
  clear h
  refine w_skip ?_
  refine x_go ?_
  refine w_seq ?_
  refine w_seq ?_
  refine w_reg ?_
  refine Qv.step (d := .agg [_, _]) (.as (u_ld 0 rfl rfl rfl rfl rfl rfl) rfl) rfl rfl ?_
  refine Qv.step (d := .agg [_, _]) (.as (u_ld 2 rfl rfl rfl rfl rfl rfl) rfl) rfl rfl ?_
  refine Qv.step (u_eq rfl rfl rfl rfl rfl rfl rfl rfl rfl rfl rfl rfl) rfl rfl ?_
  refine Qv.step (u_p rfl rfl rfl) rfl rfl ?_
  refine Qv.step (d := .gd _ _ (.agg [_, _])) (.as (q_ld (G := [(_, true)]) 1 rfl rfl rfl rfl rfl rfl rfl) rfl) rfl rfl ?_
  refine Qv.step (d := .gd _ _ (.agg [_, _])) (.as (q_ld (G := [(_, true)]) 3 rfl rfl rfl rfl rfl rfl rfl) rfl) rfl rfl ?_
  refine Qv.step (d := .gd _ _ _) (.as (q_eq (G := [(_, true)]) rfl rfl rfl rfl rfl rfl rfl rfl rfl rfl rfl rfl rfl) rfl) rfl rfl ?_
  refine Qv.step (d := .v _) (.as (u_pick rfl rfl rfl rfl rfl rfl rfl rfl rfl) rfl) rfl rfl ?_
  refine Qv.step (u_p rfl rfl rfl) rfl rfl ?_
  refine Qv.step (d := .gd _ _ (.agg [_, _])) (.as (q_ld (G := [(_, false)]) 0 rfl rfl rfl rfl rfl rfl rfl) rfl) rfl rfl ?_
  refine Qv.step (d := .gd _ _ (.agg [_, _])) (.as (q_ld (G := [(_, false)]) 3 rfl rfl rfl rfl rfl rfl rfl) rfl) rfl rfl ?_
  refine Qv.step (d := .gd _ _ _) (.as (q_eq (G := [(_, false)]) rfl rfl rfl rfl rfl rfl rfl rfl rfl rfl rfl rfl rfl) rfl) rfl rfl ?_
  refine Qv.step (d := .gd _ _ _) (.as (q_p (G := [(_, false)]) rfl rfl rfl rfl) rfl) rfl rfl ?_
  refine Qv.step (d := .gd _ _ (.gd _ _ (.agg [_, _]))) (.as (q_ld (G := [(_, false), (_, true)]) 1 rfl rfl rfl rfl rfl rfl rfl) rfl) rfl rfl ?_
  refine Qv.step (d := .gd _ _ (.gd _ _ (.agg [_, _]))) (.as (q_ld (G := [(_, false), (_, true)]) 2 rfl rfl rfl rfl rfl rfl rfl) rfl) rfl rfl ?_
  refine Qv.step (d := .gd _ _ (.gd _ _ _)) (.as (q_eq (G := [(_, false), (_, true)]) rfl rfl rfl rfl rfl rfl rfl rfl rfl rfl rfl rfl rfl) rfl) rfl rfl ?_
  refine Qv.step (d := .gd _ _ (.v _)) (.as (q_pick (G := [(_, false)]) rfl rfl rfl rfl rfl rfl rfl rfl rfl rfl) rfl) rfl rfl ?_
  refine Qv.step (d := .v _) (.as (u_pick rfl rfl rfl rfl rfl rfl rfl rfl rfl) rfl) rfl rfl ?_
  refine o_nil ?_
  refine x_go ?_
  refine w_if rfl (fun h => ?_) (fun h => ?_)
  · refine w_seq ?_
    refine w_reg ?_
    refine Qv.step (u_p rfl rfl rfl) rfl rfl ?_
    refine o_nil ?_
    refine x_go ?_
    refine w_ret (x_rt rfl rfl ?_)
    have h' : (((a == c) && (b == d)) || ((a == d) && (b == c))) = true := by rw [← h]; simp [pt_eqV]
    simp only [gMeet, h1, h2, h']; simp
  
  have h3 : (((a == c) && (b == d)) || ((a == d) && (b == c))) = false := by rw [← h]; simp [pt_eqV]
  clear h
  refine w_skip ?_
  refine x_go ?_
  refine w_seq ?_
  refine d_begin ?_
  refine d_q (d := .agg [_, _]) [] (by kernel_rfl) rfl (fun _ _ _ => .onk (L' := []) rfl (u_ld 0 rfl rfl rfl rfl rfl rfl) rfl) ?_
  refine d_q (d := .agg [_, _]) [] (by kernel_rfl) rfl (fun _ _ _ => .onk (L' := []) rfl (u_ld 1 rfl rfl rfl rfl rfl rfl) rfl) ?_
  refine d_q (d := .agg [_, _]) [] (by kernel_rfl) rfl (fun _ _ _ => .onk (L' := []) rfl (u_ld 2 rfl rfl rfl rfl rfl rfl) rfl) ?_
  refine d_q [0, 1, 2] (by kernel_rfl) rfl (fun _ _ _ => .onk (L' := [(66, _), (67, _), (68, _)]) rfl (u_call (turn_ok a b c) Try.call49 rfl rfl rfl) rfl) ?_
  refine d_q (d := .agg [_, _]) [] (by kernel_rfl) rfl (fun _ _ _ => .onk (L' := []) rfl (u_ld 0 rfl rfl rfl rfl rfl rfl) rfl) ?_
  refine d_q (d := .agg [_, _]) [] (by kernel_rfl) rfl (fun _ _ _ => .onk (L' := []) rfl (u_ld 1 rfl rfl rfl rfl rfl rfl) rfl) ?_
  refine d_q (d := .agg [_, _]) [] (by kernel_rfl) rfl (fun _ _ _ => .onk (L' := []) rfl (u_ld 3 rfl rfl rfl rfl rfl rfl) rfl) ?_
  refine d_q [4, 5, 6] (by kernel_rfl) rfl (fun _ _ _ => .onk (L' := [(70, _), (71, _), (72, _)]) rfl (u_call (turn_ok a b d) Try.call49 rfl rfl rfl) rfl) ?_
  refine d_q [3, 7] (by kernel_rfl) rfl (fun _ _ _ => .onk (L' := [(69, _), (73, _)]) rfl (u_p rfl rfl rfl) rfl) ?_
  refine d_q [8] (by kernel_rfl) rfl (fun _ _ _ => .onk (L' := [(74, _)]) rfl (u_p rfl rfl rfl) rfl) ?_
  refine d_q [9] (by kernel_rfl) rfl (fun _ _ _ => .onk (L' := [(75, _)]) rfl (u_p rfl rfl rfl) rfl) ?_
  refine d_q (d := .gd _ _ (.agg [_, _])) [10] (by kernel_rfl) rfl (fun _ _ _ => .onk (L' := [(76, _)]) rfl (q_ld (G := [(_, true)]) 2 rfl rfl rfl rfl rfl rfl rfl) rfl) ?_
  refine d_q (d := .gd _ _ (.agg [_, _])) [10] (by kernel_rfl) rfl (fun _ _ _ => .onk (L' := [(76, _)]) rfl (q_ld (G := [(_, true)]) 3 rfl rfl rfl rfl rfl rfl rfl) rfl) ?_
  refine d_q (d := .gd _ _ (.agg [_, _])) [10] (by kernel_rfl) rfl (fun _ _ _ => .onk (L' := [(76, _)]) rfl (q_ld (G := [(_, true)]) 0 rfl rfl rfl rfl rfl rfl rfl) rfl) ?_
  refine d_q (d := .gd _ _ _) [10, 11, 12, 13] (by kernel_rfl) rfl (fun _ _ _ => .onk (L' := [(76, _), (77, _), (78, _), (79, _)]) rfl (q_call (G := [(_, true)]) (turn_ok c d a) Try.call49 rfl rfl rfl rfl) rfl) ?_
  refine d_q (d := .gd _ _ (.agg [_, _])) [10] (by kernel_rfl) rfl (fun _ _ _ => .onk (L' := [(76, _)]) rfl (q_ld (G := [(_, true)]) 2 rfl rfl rfl rfl rfl rfl rfl) rfl) ?_
  refine d_q (d := .gd _ _ (.agg [_, _])) [10] (by kernel_rfl) rfl (fun _ _ _ => .onk (L' := [(76, _)]) rfl (q_ld (G := [(_, true)]) 3 rfl rfl rfl rfl rfl rfl rfl) rfl) ?_
  refine d_q (d := .gd _ _ (.agg [_, _])) [10] (by kernel_rfl) rfl (fun _ _ _ => .onk (L' := [(76, _)]) rfl (q_ld (G := [(_, true)]) 1 rfl rfl rfl rfl rfl rfl rfl) rfl) ?_
  refine d_q (d := .gd _ _ _) [10, 15, 16, 17] (by kernel_rfl) rfl (fun _ _ _ => .onk (L' := [(76, _), (81, _), (82, _), (83, _)]) rfl (q_call (G := [(_, true)]) (turn_ok c d b) Try.call49 rfl rfl rfl rfl) rfl) ?_
  refine d_q (d := .gd _ _ _) [10, 14, 18] (by kernel_rfl) rfl (fun _ _ _ => .onk (L' := [(76, _), (80, _), (84, _)]) rfl (q_p (G := [(_, true)]) rfl rfl rfl rfl) rfl) ?_
  refine d_q (d := .gd _ _ _) [10, 19] (by kernel_rfl) rfl (fun _ _ _ => .onk (L' := [(76, _), (85, _)]) rfl (q_p (G := [(_, true)]) rfl rfl rfl rfl) rfl) ?_
  refine d_q (d := .v _) [10, 20] (by kernel_rfl) rfl (fun _ _ _ => .onk (L' := [(76, _), (86, _)]) rfl (u_pick rfl rfl rfl rfl rfl rfl rfl rfl rfl) rfl) ?_
  refine d_end (by kernel_rfl) (by kernel_rfl) (by kernel_rfl) (fun bs _ => so_as (L' := [(66, _), (67, _), (68, _), (69, _), (70, _), (71, _), (72, _), (73, _), (74, _), (75, _), (76, _), (77, _), (78, _), (79, _), (80, _), (81, _), (82, _), (83, _), (84, _), (85, _), (86, _), (87, _)]) (G' := []) rfl rfl ?_)
  refine Qv.step (u_p rfl rfl rfl) rfl rfl ?_
  refine o_nil ?_
  refine x_go ?_
  refine w_ret (x_rt rfl rfl ?_)
  simp only [gMeet, h1, h2, h3]
  simp [w64]
  rfl

def gHalf (c p : Pt) : Int := if decide (p.2 > c.2) || (p.2 == c.2 && decide (p.1 > c.1)) then 0 else 1
theorem half_ok (c p : Pt) : FunOk cx 66 [dPt c, dPt p] (.i (gHalf c p)) := by
  refine fn_ok (c := _) _ Try.func66 rfl Try.ntmps66 rfl fun A w => ?_
  refine w_seq ?_
  refine w_reg ?_
  refine o_box rfl rfl rfl rfl rfl rfl ?_; intro b0
  refine o_box rfl rfl rfl rfl rfl rfl ?_; intro b1
  refine Qv.step (u_p rfl rfl rfl) rfl rfl ?_
  refine o_nil ?_
  refine x_go ?_
  refine w_seq ?_
  refine w_seq ?_
  refine w_reg ?_
  refine Qv.step (u_p rfl rfl rfl) rfl rfl ?_
  refine Qv.step (u_ld 1 rfl rfl rfl rfl rfl rfl) rfl rfl ?_
  refine Qv.step (u_p rfl rfl rfl) rfl rfl ?_
  refine Qv.step (u_ld 0 rfl rfl rfl rfl rfl rfl) rfl rfl ?_
  refine Qv.step (u_p rfl rfl rfl) rfl rfl ?_
  refine Qv.step (u_p rfl rfl rfl) rfl rfl ?_
  refine Qv.step (d := .gd _ _ _) (.as (q_p (G := [(_, false)]) rfl rfl rfl rfl) rfl) rfl rfl ?_
  refine Qv.step (d := .gd _ _ _) (.as (q_ld (G := [(_, false)]) 1 rfl rfl rfl rfl rfl rfl rfl) rfl) rfl rfl ?_
  refine Qv.step (d := .gd _ _ _) (.as (q_p (G := [(_, false)]) rfl rfl rfl rfl) rfl) rfl rfl ?_
  refine Qv.step (d := .gd _ _ _) (.as (q_ld (G := [(_, false)]) 0 rfl rfl rfl rfl rfl rfl rfl) rfl) rfl rfl ?_
  refine Qv.step (d := .gd _ _ _) (.as (q_p (G := [(_, false)]) rfl rfl rfl rfl) rfl) rfl rfl ?_
  refine Qv.step (d := .gd _ _ _) (.as (q_p (G := [(_, false)]) rfl rfl rfl rfl) rfl) rfl rfl ?_
  refine Qv.step (d := .gd _ _ (.gd _ _ _)) (.as (q_p (G := [(_, false), (_, true)]) rfl rfl rfl rfl) rfl) rfl rfl ?_
  refine Qv.step (d := .gd _ _ (.gd _ _ _)) (.as (q_ld (G := [(_, false), (_, true)]) 1 rfl rfl rfl rfl rfl rfl rfl) rfl) rfl rfl ?_
  refine Qv.step (d := .gd _ _ (.gd _ _ _)) (.as (q_p (G := [(_, false), (_, true)]) rfl rfl rfl rfl) rfl) rfl rfl ?_
  refine Qv.step (d := .gd _ _ (.gd _ _ _)) (.as (q_ld (G := [(_, false), (_, true)]) 0 rfl rfl rfl rfl rfl rfl rfl) rfl) rfl rfl ?_
  refine Qv.step (d := .gd _ _ (.gd _ _ _)) (.as (q_p (G := [(_, false), (_, true)]) rfl rfl rfl rfl) rfl) rfl rfl ?_
  refine Qv.step (d := .gd _ _ (.v _)) (.as (q_pick (G := [(_, false)]) rfl rfl rfl rfl rfl rfl rfl rfl rfl rfl) rfl) rfl rfl ?_
  refine Qv.step (d := .v _) (.as (u_pick rfl rfl rfl rfl rfl rfl rfl rfl rfl) rfl) rfl rfl ?_
  refine o_nil ?_
  refine x_go ?_
  refine w_if rfl (fun h => ?_) (fun h => ?_)
  · refine w_seq ?_
    refine w_reg ?_
    refine Qv.step (u_p rfl rfl rfl) rfl rfl ?_
    refine o_nil ?_
    refine x_go ?_
    refine w_ret (x_rt rfl rfl ?_)
    have h' : (decide (p.2 > c.2) || (p.2 == c.2 && decide (p.1 > c.1))) = true := by rw [← h]; simp
    simp only [gHalf, h', if_true]
  
  refine w_skip ?_
  refine x_go ?_
  refine w_seq ?_
  refine w_reg ?_
  refine Qv.step (u_p rfl rfl rfl) rfl rfl ?_
  refine o_nil ?_
  refine x_go ?_
  refine w_ret (x_rt rfl rfl ?_)
  have h' : (decide (p.2 > c.2) || (p.2 == c.2 && decide (p.1 > c.1))) = false := by rw [← h]; simp
  simp only [gHalf, h', Bool.false_eq_true, if_false]

def gAround (c a b : Pt) : Int :=
  if (!(gAll3 c a b) || (a == c)) || (b == c) then 0
  else if w64 (gHalf c a - gHalf c b) != 0 then w64 (gHalf c a - gHalf c b)
  else w64 (0 - gTurn c a b)
theorem Around_ok (c a b : Pt) : FunOk cx 53 [dPt c, dPt a, dPt b] (.i (gAround c a b)) := by
  refine fn_ok (c := _) _ Try.func53 rfl Try.ntmps53 rfl fun A w => ?_
  refine w_seq ?_
  refine w_reg ?_
  refine o_box rfl rfl rfl rfl rfl rfl ?_; intro b0
  refine o_box rfl rfl rfl rfl rfl rfl ?_; intro b1
  refine o_box rfl rfl rfl rfl rfl rfl ?_; intro b2
  refine Qv.step (u_p rfl rfl rfl) rfl rfl ?_
  refine o_nil ?_
  refine x_go ?_
  refine w_seq ?_
  refine w_seq ?_
  refine w_reg ?_
  refine Qv.step (d := .agg [_, _]) (.as (u_ld 0 rfl rfl rfl rfl rfl rfl) rfl) rfl rfl ?_
  refine Qv.step (d := .agg [_, _]) (.as (u_ld 1 rfl rfl rfl rfl rfl rfl) rfl) rfl rfl ?_
  refine Qv.step (d := .agg [_, _]) (.as (u_ld 2 rfl rfl rfl rfl rfl rfl) rfl) rfl rfl ?_
  refine Qv.step (q_bsl rfl rfl rfl rfl rfl rfl rfl rfl rfl rfl rfl) rfl rfl ?_
  refine Qv.step (u_call (all_ok [c, a, b] (by simp)) Try.call48 rfl rfl rfl) rfl rfl ?_
  refine Qv.step (u_p rfl rfl rfl) rfl rfl ?_
  refine Qv.step (u_p rfl rfl rfl) rfl rfl ?_
  refine Qv.step (d := .gd _ _ (.agg [_, _])) (.as (q_ld (G := [(_, false)]) 1 rfl rfl rfl rfl rfl rfl rfl) rfl) rfl rfl ?_
  refine Qv.step (d := .gd _ _ (.agg [_, _])) (.as (q_ld (G := [(_, false)]) 0 rfl rfl rfl rfl rfl rfl rfl) rfl) rfl rfl ?_
  refine Qv.step (d := .gd _ _ _) (.as (q_eq (G := [(_, false)]) rfl rfl rfl rfl rfl rfl rfl rfl rfl rfl rfl rfl rfl) rfl) rfl rfl ?_
  refine Qv.step (d := .v _) (.as (u_pick rfl rfl rfl rfl rfl rfl rfl rfl rfl) rfl) rfl rfl ?_
  refine Qv.step (u_p rfl rfl rfl) rfl rfl ?_
  refine Qv.step (d := .gd _ _ (.agg [_, _])) (.as (q_ld (G := [(_, false)]) 2 rfl rfl rfl rfl rfl rfl rfl) rfl) rfl rfl ?_
  refine Qv.step (d := .gd _ _ (.agg [_, _])) (.as (q_ld (G := [(_, false)]) 0 rfl rfl rfl rfl rfl rfl rfl) rfl) rfl rfl ?_
  refine Qv.step (d := .gd _ _ _) (.as (q_eq (G := [(_, false)]) rfl rfl rfl rfl rfl rfl rfl rfl rfl rfl rfl rfl rfl) rfl) rfl rfl ?_
  refine Qv.step (d := .v _) (.as (u_pick rfl rfl rfl rfl rfl rfl rfl rfl rfl) rfl) rfl rfl ?_
  refine o_nil ?_
  refine x_go ?_
  refine w_if rfl (fun h => ?_) (fun h => ?_)
  · refine w_seq ?_
    refine w_reg ?_
    refine Qv.step (u_p rfl rfl rfl) rfl rfl ?_
    refine o_nil ?_
    refine x_go ?_
    refine w_ret (x_rt rfl rfl ?_)
    have h' : ((!(gAll3 c a b) || (a == c)) || (b == c)) = true := by rw [← h]; simp [pt_eqV, gAll3, Bool.and_assoc]
    simp only [gAround, h', if_true]
  
  have h1 : ((!(gAll3 c a b) || (a == c)) || (b == c)) = false := by rw [← h]; simp [pt_eqV, gAll3, Bool.and_assoc]
  clear h
  refine w_skip ?_
  refine x_go ?_
  refine w_seq ?_
  refine w_seq ?_
  refine d_begin ?_
  refine d_q (d := .agg [_, _]) [] (by kernel_rfl) rfl (fun _ _ _ => .onk (L' := []) rfl (u_ld 0 rfl rfl rfl rfl rfl rfl) rfl) ?_
  refine d_q (d := .agg [_, _]) [] (by kernel_rfl) rfl (fun _ _ _ => .onk (L' := []) rfl (u_ld 1 rfl rfl rfl rfl rfl rfl) rfl) ?_
  refine d_q [0, 1] (by kernel_rfl) rfl (fun _ _ _ => .onk (L' := [(24, _), (25, _)]) rfl (u_call (half_ok c a) Try.call66 rfl rfl rfl) rfl) ?_
  refine d_q (d := .agg [_, _]) [] (by kernel_rfl) rfl (fun _ _ _ => .onk (L' := []) rfl (u_ld 0 rfl rfl rfl rfl rfl rfl) rfl) ?_
  refine d_q (d := .agg [_, _]) [] (by kernel_rfl) rfl (fun _ _ _ => .onk (L' := []) rfl (u_ld 2 rfl rfl rfl rfl rfl rfl) rfl) ?_
  refine d_q [3, 4] (by kernel_rfl) rfl (fun _ _ _ => .onk (L' := [(27, _), (28, _)]) rfl (u_call (half_ok c b) Try.call66 rfl rfl rfl) rfl) ?_
  refine d_q [2, 5] (by kernel_rfl) rfl (fun _ _ _ => .onk (L' := [(26, _), (29, _)]) rfl (u_p rfl rfl rfl) rfl) ?_
  refine d_end (by kernel_rfl) (by kernel_rfl) (by kernel_rfl) (fun bs _ => so_as (L' := [(24, _), (25, _), (26, _), (27, _), (28, _), (29, _), (30, _)]) (G' := []) rfl rfl ?_)
  refine Qv.step (u_p rfl rfl rfl) rfl rfl ?_
  refine o_nil ?_
  refine x_go ?_
  refine w_seq ?_
  refine w_reg ?_
  refine Qv.step (u_p rfl rfl rfl) rfl rfl ?_
  refine Qv.step (u_p rfl rfl rfl) rfl rfl ?_
  refine o_nil ?_
  refine x_go ?_
  refine w_if rfl (fun h => ?_) (fun h => ?_)
  · refine w_seq ?_
    refine w_reg ?_
    refine Qv.step (u_p rfl rfl rfl) rfl rfl ?_
    refine Qv.step (u_p rfl rfl rfl) rfl rfl ?_
    refine o_nil ?_
    refine x_go ?_
    refine w_ret (x_rt rfl rfl ?_)
    have h' : (w64 (gHalf c a - gHalf c b) != 0) = true := h
    simp only [gAround, h1, h', Bool.false_eq_true, if_false, if_true]
    rfl
  
  refine w_skip ?_
  refine x_go ?_
  refine w_seq ?_
  refine w_reg ?_
  refine Qv.step (d := .agg [_, _]) (.as (u_ld 0 rfl rfl rfl rfl rfl rfl) rfl) rfl rfl ?_
  refine Qv.step (d := .agg [_, _]) (.as (u_ld 1 rfl rfl rfl rfl rfl rfl) rfl) rfl rfl ?_
  refine Qv.step (d := .agg [_, _]) (.as (u_ld 2 rfl rfl rfl rfl rfl rfl) rfl) rfl rfl ?_
  refine Qv.step (u_call (turn_ok c a b) Try.call49 rfl rfl rfl) rfl rfl ?_
  refine Qv.step (u_p rfl rfl rfl) rfl rfl ?_
  refine Qv.step (u_p rfl rfl rfl) rfl rfl ?_
  refine o_nil ?_
  refine x_go ?_
  refine w_ret (x_rt rfl rfl ?_)
  have h' : (w64 (gHalf c a - gHalf c b) != 0) = false := h
  simp only [gAround, h1, h', Bool.false_eq_true, if_false]
  rfl

def gTurnX (a b c : Pt) : Int := if gAll3 a b c then gTurn a b c else 0
theorem Turn_ok (a b c : Pt) : FunOk cx 70 [dPt a, dPt b, dPt c] (.i (gTurnX a b c)) := by
  refine fn_ok (c := _) _ Try.func70 rfl Try.ntmps70 rfl fun A w => ?_
  refine w_seq ?_
  refine w_reg ?_
  refine o_box rfl rfl rfl rfl rfl rfl ?_; intro b0
  refine o_box rfl rfl rfl rfl rfl rfl ?_; intro b1
  refine o_box rfl rfl rfl rfl rfl rfl ?_; intro b2
  refine Qv.step (u_p rfl rfl rfl) rfl rfl ?_
  refine o_nil ?_
  refine x_go ?_
  refine w_seq ?_
  refine w_seq ?_
  refine w_reg ?_
  refine Qv.step (d := .agg [_, _]) (.as (u_ld 0 rfl rfl rfl rfl rfl rfl) rfl) rfl rfl ?_
  refine Qv.step (d := .agg [_, _]) (.as (u_ld 1 rfl rfl rfl rfl rfl rfl) rfl) rfl rfl ?_
  refine Qv.step (d := .agg [_, _]) (.as (u_ld 2 rfl rfl rfl rfl rfl rfl) rfl) rfl rfl ?_
  refine Qv.step (q_bsl rfl rfl rfl rfl rfl rfl rfl rfl rfl rfl rfl) rfl rfl ?_
  refine Qv.step (u_call (all_ok [a, b, c] (by simp)) Try.call48 rfl rfl rfl) rfl rfl ?_
  refine Qv.step (u_p rfl rfl rfl) rfl rfl ?_
  refine o_nil ?_
  refine x_go ?_
  refine w_if rfl (fun h => ?_) (fun h => ?_)
  · refine w_seq ?_
    refine w_reg ?_
    refine Qv.step (u_p rfl rfl rfl) rfl rfl ?_
    refine o_nil ?_
    refine x_go ?_
    refine w_ret (x_rt rfl rfl ?_)
    have h' : gAll3 a b c = false := by simp [gAll3] at h ⊢; rcases h with h | h | h <;> simp [h]
    simp [gTurnX, h']
  
  refine w_skip ?_
  refine x_go ?_
  refine w_seq ?_
  refine w_reg ?_
  refine Qv.step (d := .agg [_, _]) (.as (u_ld 0 rfl rfl rfl rfl rfl rfl) rfl) rfl rfl ?_
  refine Qv.step (d := .agg [_, _]) (.as (u_ld 1 rfl rfl rfl rfl rfl rfl) rfl) rfl rfl ?_
  refine Qv.step (d := .agg [_, _]) (.as (u_ld 2 rfl rfl rfl rfl rfl rfl) rfl) rfl rfl ?_
  refine Qv.step (u_call (turn_ok a b c) Try.call49 rfl rfl rfl) rfl rfl ?_
  refine Qv.step (u_p rfl rfl rfl) rfl rfl ?_
  refine o_nil ?_
  refine x_go ?_
  refine w_ret (x_rt rfl rfl ?_)
  have h' : gAll3 a b c = true := by simp [gAll3] at h ⊢; simp [h]
  simp [gTurnX, h']
end Go.Proofs.Ytcdakcemcehfiaa
