/- croftlaw18: AuditTurns's walk. -/
import Derived.Test.YtcdakcemcehfiaaDrw
namespace Go.Proofs.Ytcdakcemcehfiaa
open Go Go.RowKit
set_option maxRecDepth 100000

def tab0 : Tab := ⟨0, 0, 0, [], [], [(0, 0)]⟩
theorem draw0 : dDraw ([], []) [] = (tab0, 0) := by kernel_rfl
theorem chk0 : aCheck tab0 = 0 := by decide +kernel
theorem chk1 : aCheck { tab0 with lf := -1 } = 19 := by decide +kernel
theorem tok0 : TOk ([], []) := ⟨fun x hx => by exact absurd hx (by simp [sFO]), by simp [sFO], fun x hx => by exact absurd hx (by simp [sFO])⟩
theorem nilArgs (A : Nat → Prop) (w : World) (cs : List Value) (h : RepL A w cs [.agg [.os nilV, .os nilV], .v (.slice none 0 0)]) : RepL A w cs [dPl ([], []), .sl 1 ([].map rI)] := by
  match cs, h.1 with
  | [c1, c2], _ =>
    have h1 := h.2 0 c1 _ rfl rfl
    have h2 := nil_sl 1 _ _ _ (h.2 1 c2 _ rfl rfl)
    have h1' : Rep A w c1 (dPl ([], [])) := by
      cases h1 with
      | agg ds _ hl hd =>
        match ds, hl with
        | [a1, a2], _ =>
          have hL : RepL A w [a1, a2] (rPl ([], [])) := RepL.cons (os_sl 3 _ _ _ (hd 0 a1 _ rfl rfl)) (RepL.cons (os_sl 3 _ _ _ (hd 1 a2 _ rfl rfl)) RepL.nil)
          exact .agg _ _ hL.1 hL.2
    exact RepL.cons h1' (RepL.cons h2 RepL.nil)
theorem nilAttrs (p : Pln) (A : Nat → Prop) (w : World) (cs : List Value) (h : RepL A w cs [dPl p, .v (.slice none 0 0)]) : RepL A w cs [dPl p, .sl 1 ([].map rI)] := by
  match cs, h.1 with
  | [c1, c2], _ => exact RepL.cons (h.2 0 c1 _ rfl rfl) (RepL.cons (nil_sl 1 _ _ _ (h.2 1 c2 _ rfl rfl)) RepL.nil)
theorem draw0_ok : FunOk cx 6 [.agg [.os nilV, .os nilV], .v (.slice none 0 0)] (.tup [dTab tab0, .i 0]) := by
  have h := (Draw_ok ([], []) [] (by decide) (by decide) (by show (0 : Nat) < 4611686018427387904; decide) (fun _ => tok0)).args nilArgs
  rw [draw0] at h
  exact h
theorem awake_ok : FunOk cx 4 [] (.b true) := by
  have c0 := Check_ok tab0 (by decide) (by decide) (by decide) (fun _ => tok0)
  have c1 := Check_ok { tab0 with lf := -1 } (by decide) (by decide) (by decide) (fun _ => tok0)
  rw [chk0] at c0
  rw [chk1] at c1
  refine fn_ok (c := _) _ Try.func4 rfl Try.ntmps4 rfl fun A w => ?_
  refine w_seq ?_
  refine w_reg ?_
  refine Qv.step (u_p rfl rfl rfl) rfl rfl ?_
  refine o_nil ?_
  refine x_go ?_
  refine w_seq ?_
  refine w_reg ?_
  refine Qv.step (d := .agg [_, _]) (.as (u_bst rfl rfl rfl rfl rfl rfl rfl rfl) rfl) rfl rfl ?_
  refine Qv.step (u_call (draw0_ok) Try.call6 rfl rfl rfl) rfl rfl ?_
  refine Qv.step (u_p rfl rfl rfl) rfl rfl ?_
  refine Qv.step (u_p rfl rfl rfl) rfl rfl ?_
  refine Qv.step (u_p rfl rfl rfl) rfl rfl ?_
  refine o_alloc rfl rfl rfl rfl rfl rfl ?_; intro b0
  refine o_st 0 rfl rfl rfl rfl rfl rfl rfl rfl rfl rfl (by first | rfl | kernel_rfl) ?_
  refine Qv.step (u_p rfl rfl rfl) rfl rfl ?_
  refine o_nil ?_
  refine x_go ?_
  refine w_seq ?_
  refine w_reg ?_
  refine Qv.step (d := .agg [_, _, _, _, _, _]) (.as (u_ld 0 rfl rfl rfl rfl rfl rfl) rfl) rfl rfl ?_
  refine Qv.step (u_call (c0) Try.call7 rfl rfl rfl) rfl rfl ?_
  refine Qv.step (u_p rfl rfl rfl) rfl rfl ?_
  refine o_nil ?_
  refine x_go ?_
  refine w_seq ?_
  refine w_reg ?_
  refine Qv.step (u_p rfl rfl rfl) rfl rfl ?_
  refine o_st 0 rfl rfl rfl rfl rfl rfl rfl rfl rfl rfl (by first | rfl | kernel_rfl) ?_
  refine o_nil ?_
  refine x_go ?_
  refine w_seq ?_
  refine w_reg ?_
  refine Qv.step (u_p rfl rfl rfl) rfl rfl ?_
  refine Qv.step (u_p rfl rfl rfl) rfl rfl ?_
  refine Qv.step (u_p rfl rfl rfl) rfl rfl ?_
  refine Qv.step (d := .gd _ _ _) (.as (q_p (G := [(_, true)]) rfl rfl rfl rfl) rfl) rfl rfl ?_
  refine Qv.step (d := .gd _ _ _) (.as (q_p (G := [(_, true)]) rfl rfl rfl rfl) rfl) rfl rfl ?_
  refine Qv.step (d := .v _) (.as (u_pick rfl rfl rfl rfl rfl rfl rfl rfl rfl) rfl) rfl rfl ?_
  refine Qv.step (u_p rfl rfl rfl) rfl rfl ?_
  refine Qv.step (d := .gd _ _ _) (.as (q_p (G := [(_, true)]) rfl rfl rfl rfl) rfl) rfl rfl ?_
  refine Qv.step (d := .gd _ _ _) (.as (q_ld (G := [(_, true)]) 0 rfl rfl rfl rfl rfl rfl rfl) rfl) rfl rfl ?_
  refine Qv.step (d := .gd _ _ _) (.as (q_len (G := [(_, true)]) rfl rfl rfl rfl rfl rfl rfl) rfl) rfl rfl ?_
  refine Qv.step (d := .gd _ _ _) (.as (q_p (G := [(_, true)]) rfl rfl rfl rfl) rfl) rfl rfl ?_
  refine Qv.step (d := .v _) (.as (u_pick rfl rfl rfl rfl rfl rfl rfl rfl rfl) rfl) rfl rfl ?_
  refine Qv.step (u_p rfl rfl rfl) rfl rfl ?_
  refine Qv.step (d := .gd _ _ (.agg [_, _, _, _, _, _])) (.as (q_ld (G := [(_, true)]) 0 rfl rfl rfl rfl rfl rfl rfl) rfl) rfl rfl ?_
  refine Qv.step (d := .gd _ _ _) (.as (q_call (G := [(_, true)]) (c1) Try.call7 rfl rfl rfl rfl) rfl) rfl rfl ?_
  refine Qv.step (d := .gd _ _ _) (.as (q_p (G := [(_, true)]) rfl rfl rfl rfl) rfl) rfl rfl ?_
  refine Qv.step (d := .v _) (.as (u_pick rfl rfl rfl rfl rfl rfl rfl rfl rfl) rfl) rfl rfl ?_
  refine Qv.step (u_p rfl rfl rfl) rfl rfl ?_
  refine o_nil ?_
  refine x_go ?_
  exact w_ret (x_rt rfl rfl rfl)

/-! ### what AuditTurns tells -/
/-- Of what is drawn: how great it is. -/
theorem dDraw_len (p : Pln) (attrs : List Int) : (dDraw p attrs).1.vs.length ≤ p.1.length ∧ (dDraw p attrs).1.es.length ≤ p.2.length ∧ (dDraw p attrs).1.fs.length ≤ 2 * p.2.length + 1 ∧ 0 ≤ (dDraw p attrs).1.lf ∧ (dDraw p attrs).1.lf ≤ 2 * p.2.length := by
  have hR := mRealms_len p
  unfold dDraw
  split
  · exact ⟨Nat.zero_le _, Nat.zero_le _, Nat.zero_le _, Int.le_refl _, by show (0 : Int) ≤ _; omega⟩
  · split
    · exact ⟨Nat.zero_le _, Nat.zero_le _, Nat.zero_le _, Int.le_refl _, by show (0 : Int) ≤ _; omega⟩
    · refine ⟨by simp [dTb], by simp [dTb], by simp [dTb, dFs]; omega, by simp [dTb], ?_⟩
      show (((mRealms p).length - 1 : Nat) : Int) ≤ _
      omega
def put2 {α : Type} (k : Nat) (x : α × α) (a : α) : α × α := if k = 0 then (a, x.2) else (x.1, a)
def get2 {α : Type} (k : Nat) (x : α × α) : α := if k = 0 then x.1 else x.2
/-- A row, turned. -/
def eTurn (m k : Nat) (to : Int) (e : ERow) : ERow := match m with
  | 0 => { e with next := put2 k e.next (to, (get2 k e.next).2) }
  | 1 => { e with prev := put2 k e.prev (to, (get2 k e.prev).2) }
  | 2 => { e with next := put2 k e.next ((get2 k e.next).1, !(get2 k e.next).2) }
  | 3 => { e with prev := put2 k e.prev ((get2 k e.prev).1, !(get2 k e.prev).2) }
  | 4 => { e with face := put2 k e.face to }
  | 5 => { e with a := e.b }
  | _ => { e with id := 0 }
def eqER (x y : ERow) : Bool := eqV [.int .i64 x.id, .int .i64 x.a, .int .i64 x.b, .int .i64 x.next.1.1, .bool x.next.1.2, .int .i64 x.next.2.1, .bool x.next.2.2, .int .i64 x.prev.1.1, .bool x.prev.1.2, .int .i64 x.prev.2.1, .bool x.prev.2.2, .int .i64 x.face.1, .int .i64 x.face.2]
  [.int .i64 y.id, .int .i64 y.a, .int .i64 y.b, .int .i64 y.next.1.1, .bool y.next.1.2, .int .i64 y.next.2.1, .bool y.next.2.2, .int .i64 y.prev.1.1, .bool y.prev.1.2, .int .i64 y.prev.2.1, .bool y.prev.2.2, .int .i64 y.face.1, .int .i64 y.face.2]
/-- The place that is turned. -/
def tIx (n : Nat) (at' : Int) : Nat := (IntKind.i64.wrap ((IntKind.u64.wrap at').tmod (IntKind.u64.wrap n))).toNat
def tSide (wh : Int) : Nat := ((IntKind.i64.wrap (IntKind.u8.wrap (wh.tdiv 8))).tmod 2).toNat
def tTurn (t : Tab) (m k i : Nat) (to : Int) : Tab := { t with es := t.es.modify i (eTurn m k to) }
def tMore (t : Tab) : Tab := { t with lf := t.lf + 1, fs := t.fs ++ [(t.lf + 1, 0)] }
def tTold (t : Tab) (m k i : Nat) (to : Int) : Bool := match t.es[i]? with
  | none => true
  | some e => if m = 7 then aCheck (tMore t) == 19 else eqER (eTurn m k to e) e || aCheck (tTurn t m k i to) == 19
theorem tTold_ne {t : Tab} {m k i : Nat} {to : Int} {e : ERow} (h : t.es[i]? = some e) (hm : m ≠ 7) : tTold t m k i to = (eqER (eTurn m k to e) e || aCheck (tTurn t m k i to) == 19) := by
  rw [tTold, h]
  show (if m = 7 then _ else _) = _
  rw [if_neg hm]
theorem tTold_7 {t : Tab} {k i : Nat} {to : Int} {e : ERow} (h : t.es[i]? = some e) : tTold t 7 k i to = (aCheck (tMore t) == 19) := by
  rw [tTold, h]
  show (if 7 = 7 then _ else _) = _
  rw [if_pos rfl]
theorem set_modify {l : List ERow} {i : Nat} {row : ERow} (h : l[i]? = some row) (f : ERow → ERow) : (l.map rER).set i (rER (f row)) = (l.modify i f).map rER := by
  apply List.ext_getElem?
  intro n
  rw [List.getElem?_set, List.getElem?_map, List.getElem?_map, List.getElem?_modify]
  by_cases e : i = n
  · subst e
    have hl : i < l.length := by
      rcases Nat.lt_or_ge i l.length with h' | h'
      · exact h'
      · rw [List.getElem?_eq_none h'] at h; cases h
    rw [if_pos rfl, List.length_map, if_pos hl, h]
    simp
  · rw [if_neg e]
    cases l[n]? with
    | none => rfl
    | some x => simp [e]
def tGate (p : Pln) : Bool := decide (((p.1.map rV).length : Int) > 24) || decide (((p.2.map rE).length : Int) > 24) || !r15Right p
def aTurns (p : Pln) (wh at' to : Int) : Bool :=
  if tGate p then true
  else if ((dDraw p []).2 != 0) || ((((dDraw p []).1.es.map rER).length : Int) == 0) then (dDraw p []).2 == 0 || (dDraw p []).2 == 1
  else tTold (dDraw p []).1 (wh.tmod 8).toNat (tSide wh) (tIx (dDraw p []).1.es.length at') to

theorem tIx_ok (n : Nat) (h : 0 < n) (h2 : n < 1000) (at' : Int) : tIx n at' < n ∧ IntKind.i64.wrap ((IntKind.u64.wrap at').tmod (IntKind.u64.wrap n)) = ((tIx n at' : Nat) : Int) := by
  have key : (IntKind.u64.wrap at').tmod (IntKind.u64.wrap n) = (at' % 18446744073709551616) % (n : Int) := by
    rw [IntKind.wrap_u64, IntKind.wrap_u64, Int.tmod_eq_emod_of_nonneg (by omega)]
    congr 1
    omega
  have h1 : 0 ≤ (at' % 18446744073709551616) % (n : Int) := Int.emod_nonneg _ (by omega)
  have h3 : (at' % 18446744073709551616) % (n : Int) < n := Int.emod_lt_of_pos _ (by omega)
  unfold tIx
  rw [key, wrapI h1 (by omega)]
  omega
theorem tSide_ok (wh : Int) (hw : 0 ≤ wh ∧ wh < 256) : tSide wh < 2 ∧ (IntKind.i64.wrap (IntKind.u8.wrap (wh.tdiv 8))).tmod 2 = ((tSide wh : Nat) : Int) := by
  have e : wh.tdiv 8 = wh / 8 := Int.tdiv_eq_ediv_of_nonneg hw.1
  have e2 : IntKind.u8.wrap (wh / 8) = wh / 8 := by rw [IntKind.wrap_u8]; omega
  unfold tSide
  rw [e, e2, wrapI (by omega) (by omega), Int.tmod_eq_emod_of_nonneg (by omega)]
  omega

set_option maxHeartbeats 4000000 in
theorem Turns_ok (hTT : ∀ q, pRight q = true → TOk q) (p : Pln) (wh at' to : Int) (hw : 0 ≤ wh ∧ wh < 256) : FunOk cx 3 [dPl p, .v (.int .u8 wh), .i at', .i to] (.b (aTurns p wh at' to)) := by
  refine fn_ok (c := _) _ Try.func3 rfl Try.ntmps3 rfl fun A w => ?_
  refine w_seq ?_
  refine w_reg ?_
  refine o_box rfl rfl rfl rfl rfl rfl ?_; intro b0
  refine Qv.step (u_p rfl rfl rfl) rfl rfl ?_
  refine o_nil ?_
  refine x_go ?_
  refine w_seq ?_
  refine w_seq ?_
  refine w_reg ?_
  refine Qv.step (u_call (awake_ok) Try.call4 rfl rfl rfl) rfl rfl ?_
  refine Qv.step (u_p rfl rfl rfl) rfl rfl ?_
  refine Qv.step (u_p rfl rfl rfl) rfl rfl ?_
  refine Qv.step (d := .gd _ _ _) (.as (q_p (G := [(_, false)]) rfl rfl rfl rfl) rfl) rfl rfl ?_
  refine Qv.step (d := .gd _ _ _) (.as (q_ld (G := [(_, false)]) 0 rfl rfl rfl rfl rfl rfl rfl) rfl) rfl rfl ?_
  refine Qv.step (d := .gd _ _ _) (.as (q_len (G := [(_, false)]) rfl rfl rfl rfl rfl rfl rfl) rfl) rfl rfl ?_
  refine Qv.step (d := .gd _ _ _) (.as (q_p (G := [(_, false)]) rfl rfl rfl rfl) rfl) rfl rfl ?_
  refine Qv.step (d := .v _) (.as (u_pick rfl rfl rfl rfl rfl rfl rfl rfl rfl) rfl) rfl rfl ?_
  refine Qv.step (u_p rfl rfl rfl) rfl rfl ?_
  refine Qv.step (d := .gd _ _ _) (.as (q_p (G := [(_, false)]) rfl rfl rfl rfl) rfl) rfl rfl ?_
  refine Qv.step (d := .gd _ _ _) (.as (q_ld (G := [(_, false)]) 0 rfl rfl rfl rfl rfl rfl rfl) rfl) rfl rfl ?_
  refine Qv.step (d := .gd _ _ _) (.as (q_len (G := [(_, false)]) rfl rfl rfl rfl rfl rfl rfl) rfl) rfl rfl ?_
  refine Qv.step (d := .gd _ _ _) (.as (q_p (G := [(_, false)]) rfl rfl rfl rfl) rfl) rfl rfl ?_
  refine Qv.step (d := .v _) (.as (u_pick rfl rfl rfl rfl rfl rfl rfl rfl rfl) rfl) rfl rfl ?_
  refine Qv.step (u_p rfl rfl rfl) rfl rfl ?_
  refine Qv.step (d := .gd _ _ (.agg [_, _])) (.as (q_ld (G := [(_, false)]) 0 rfl rfl rfl rfl rfl rfl rfl) rfl) rfl rfl ?_
  refine Qv.step (d := .gd _ _ _) (.as (q_callT (G := [(_, false)]) (res := .b (r15Right p)) (fun hT => (by
    have h1 : (bif bif !true then true else decide (((p.1.map rV).length : Int) > 24) then true else decide (((p.2.map rE).length : Int) > 24)) = false := hT.1
    simp at h1
    exact r15Right_ok p (by show p.1.length < 4611686018427387904; omega) (by show p.2.length < 4611686018427387904; omega))) Try.call5 rfl rfl rfl rfl) rfl) rfl rfl ?_
  refine Qv.step (d := .gd _ _ _) (.as (q_p (G := [(_, false)]) rfl rfl rfl rfl) rfl) rfl rfl ?_
  refine Qv.step (d := .v _) (.as (u_pick rfl rfl rfl rfl rfl rfl rfl rfl rfl) rfl) rfl rfl ?_
  refine o_nil ?_
  refine x_go ?_
  refine w_if rfl (fun h => ?_) (fun h => ?_)
  · have hg : tGate p = true := Eq.trans (by unfold tGate; cases decide (((p.1.map rV).length : Int) > 24) <;> cases decide (((p.2.map rE).length : Int) > 24) <;> rfl) h
    refine w_seq ?_
    refine w_reg ?_
    refine Qv.step (u_call (awake_ok) Try.call4 rfl rfl rfl) rfl rfl ?_
    refine Qv.step (u_p rfl rfl rfl) rfl rfl ?_
    refine o_nil ?_
    refine x_go ?_
    refine w_ret (x_rt rfl rfl ?_)
    rw [aTurns, if_pos hg]
  
  have hg : tGate p = false := Eq.trans (by unfold tGate; cases decide (((p.1.map rV).length : Int) > 24) <;> cases decide (((p.2.map rE).length : Int) > 24) <;> rfl) h
  clear h
  have hl : p.1.length ≤ 24 ∧ p.2.length ≤ 24 := by
    simp only [tGate, Bool.or_eq_false_iff, decide_eq_false_iff_not, List.length_map] at hg
    omega
  have hD := Draw_ow p [] (by omega) (by omega) (by show (0 : Nat) < 4611686018427387904; decide) (hTT p)
  obtain ⟨hd1, hd2, hd3, hd4, hd5⟩ := dDraw_len p []
  have hT : aTurns p wh at' to = (if ((dDraw p []).2 != 0) || ((((dDraw p []).1.es.map rER).length : Int) == 0) then (dDraw p []).2 == 0 || (dDraw p []).2 == 1
      else tTold (dDraw p []).1 (wh.tmod 8).toNat (tSide wh) (tIx (dDraw p []).1.es.length at') to) := by rw [aTurns, if_neg (by rw [hg]; simp)]
  generalize dDraw p [] = d at hD hd1 hd2 hd3 hd4 hd5 hT
  obtain ⟨t, e⟩ := d
  simp only at hD hd1 hd2 hd3 hd4 hd5 hT
  refine w_skip ?_
  refine x_go ?_
  refine w_seq ?_
  refine w_reg ?_
  refine Qv.step (u_p rfl rfl rfl) rfl rfl ?_
  refine Qv.step (u_ld 0 rfl rfl rfl rfl rfl rfl) rfl rfl ?_
  refine Qv.step (u_p rfl rfl rfl) rfl rfl ?_
  refine Qv.step (u_ld 0 rfl rfl rfl rfl rfl rfl) rfl rfl ?_
  refine Qv.step (d := .agg [_, _]) (.as (u_bst rfl rfl rfl rfl rfl rfl rfl rfl) rfl) rfl rfl ?_
  refine o_ow (hD.args (nilAttrs p)) Try.call6 rfl rfl rfl rfl rfl ?_; rintro ⟨va, ve, vf⟩; refine o_open ?_
  refine Qv.step (u_p rfl rfl rfl) rfl rfl ?_
  refine Qv.step (u_p rfl rfl rfl) rfl rfl ?_
  refine Qv.step (u_p rfl rfl rfl) rfl rfl ?_
  refine o_alloc rfl rfl rfl rfl rfl rfl ?_; intro b4
  refine o_st 4 rfl rfl rfl rfl rfl rfl rfl rfl rfl rfl (by first | rfl | kernel_rfl) ?_
  refine Qv.step (u_p rfl rfl rfl) rfl rfl ?_
  refine o_nil ?_
  refine x_go ?_
  refine w_seq ?_
  refine w_seq ?_
  refine w_reg ?_
  refine Qv.step (u_p rfl rfl rfl) rfl rfl ?_
  refine Qv.step (u_p rfl rfl rfl) rfl rfl ?_
  refine Qv.step (u_p rfl rfl rfl) rfl rfl ?_
  refine Qv.step (d := .gd _ _ _) (.as (q_p (G := [(_, false)]) rfl rfl rfl rfl) rfl) rfl rfl ?_
  refine Qv.step (d := .gd _ _ _) (.as (q_ld (G := [(_, false)]) 4 rfl rfl rfl rfl rfl rfl rfl) rfl) rfl rfl ?_
  refine Qv.step (d := .gd _ _ _) (.as (q_olen (G := [(_, false)]) 2 rfl rfl rfl rfl rfl rfl rfl rfl) rfl) rfl rfl ?_
  refine Qv.step (d := .gd _ _ _) (.as (q_p (G := [(_, false)]) rfl rfl rfl rfl) rfl) rfl rfl ?_
  refine Qv.step (d := .v _) (.as (u_pick rfl rfl rfl rfl rfl rfl rfl rfl rfl) rfl) rfl rfl ?_
  refine o_nil ?_
  refine x_go ?_
  refine w_if rfl (fun h => ?_) (fun h => ?_)
  · have hc : ((e != 0) || (((t.es.map rER).length : Int) == 0)) = true := Eq.trans (by cases e != 0 <;> rfl) h
    refine w_seq ?_
    refine w_reg ?_
    refine Qv.step (u_p rfl rfl rfl) rfl rfl ?_
    refine Qv.step (u_p rfl rfl rfl) rfl rfl ?_
    refine Qv.step (u_p rfl rfl rfl) rfl rfl ?_
    refine Qv.step (d := .gd _ _ _) (.as (q_p (G := [(_, false)]) rfl rfl rfl rfl) rfl) rfl rfl ?_
    refine Qv.step (d := .gd _ _ _) (.as (q_p (G := [(_, false)]) rfl rfl rfl rfl) rfl) rfl rfl ?_
    refine Qv.step (d := .v _) (.as (u_pick rfl rfl rfl rfl rfl rfl rfl rfl rfl) rfl) rfl rfl ?_
    refine Qv.step (u_p rfl rfl rfl) rfl rfl ?_
    refine o_nil ?_
    refine x_go ?_
    refine w_ret (x_rt rfl rfl (congrArg (fun b : Bool => DV.b b) ?_))
    rw [hT, if_pos hc]
    cases e == 0 <;> rfl
  
  have hc : ((e != 0) || (((t.es.map rER).length : Int) == 0)) = false := Eq.trans (by cases e != 0 <;> rfl) h
  clear h
  rw [if_neg (by rw [hc]; simp)] at hT
  have hn : 0 < t.es.length := by
    simp only [Bool.or_eq_false_iff, List.length_map, beq_eq_false_iff_ne] at hc
    omega
  obtain ⟨hi, hie⟩ := tIx_ok t.es.length hn (by omega) at'
  obtain ⟨hk, hke⟩ := tSide_ok wh hw
  rw [hT]
  generalize tIx t.es.length at' = i at hi hie
  rw [show t.es.length = (t.es.map rER).length from (List.length_map _).symm] at hie
  generalize tSide wh = k at hk hke
  obtain ⟨row, hrow⟩ : ∃ row, t.es[i]? = some row := ⟨_, List.getElem?_eq_getElem hi⟩
  have hrow' : (t.es.map rER)[i]? = some (rER row) := by rw [List.getElem?_map, hrow]; rfl
  refine w_skip ?_
  refine x_go ?_
  refine w_seq ?_
  refine w_reg ?_
  refine Qv.step (u_p rfl rfl rfl) rfl rfl ?_
  refine Qv.step (u_p rfl rfl rfl) rfl rfl ?_
  refine Qv.step (u_p rfl rfl rfl) rfl rfl ?_
  refine Qv.step (u_ld 4 rfl rfl rfl rfl rfl rfl) rfl rfl ?_
  refine Qv.step (u_olen 2 rfl rfl rfl rfl rfl rfl rfl) rfl rfl ?_
  refine Qv.step (u_p rfl rfl rfl) rfl rfl ?_
  refine Qv.step (u_rem rfl rfl rfl rfl (by rw [IntKind.wrap_u64, List.length_map]; omega)) rfl rfl ?_
  refine Qv.step (u_p rfl rfl rfl) rfl rfl ?_
  refine Qv.step (u_p rfl rfl rfl) rfl rfl ?_
  refine o_nil ?_
  refine x_go ?_
  refine w_know 11 (.i (i : Int)) rfl (fun A w u h => by
    have h' : Rep A w u (.i (IntKind.i64.wrap ((IntKind.u64.wrap at').tmod (IntKind.u64.wrap ((t.es.map rER).length : Int))))) := h
    rw [hie] at h'
    exact h') ?_
  refine w_seq ?_
  refine w_reg ?_
  refine Qv.step (u_p rfl rfl rfl) rfl rfl ?_
  refine Qv.step (u_ld 4 rfl rfl rfl rfl rfl rfl) rfl rfl ?_
  refine Qv.step (u_p rfl rfl rfl) rfl rfl ?_
  refine Qv.step (u_ixr 2 rfl rfl rfl rfl rfl rfl rfl rfl rfl (Int.natCast_nonneg _) (by simp; omega)) rfl rfl ?_
  refine Qv.step (u_p rfl rfl rfl) rfl rfl ?_
  refine o_nil ?_
  refine x_go ?_
  refine w_seq ?_
  refine w_reg ?_
  refine Qv.step (u_p rfl rfl rfl) rfl rfl ?_
  refine Qv.step (u_quo rfl rfl rfl rfl (by decide)) rfl rfl ?_
  refine Qv.step (u_p rfl rfl rfl) rfl rfl ?_
  refine Qv.step (u_rem rfl rfl rfl rfl (by decide)) rfl rfl ?_
  refine Qv.step (u_p rfl rfl rfl) rfl rfl ?_
  refine o_nil ?_
  refine x_go ?_
  refine w_know 13 (.i (k : Int)) rfl (fun A w u h => by
    have h' : Rep A w u (.i ((IntKind.i64.wrap (IntKind.u8.wrap (wh.tdiv 8))).tmod 2)) := h
    rw [hke] at h'
    exact h') ?_
  refine w_seq ?_
  refine w_reg ?_
  refine Qv.step (u_p rfl rfl rfl) rfl rfl ?_
  refine Qv.step (u_p rfl rfl rfl) rfl rfl ?_
  refine Qv.step (d := .agg [_, _, _, _, _, _, _, _, _, _, _, _, _]) (.as (u_ldr 2 hrow' rfl rfl rfl rfl rfl rfl) rfl) rfl rfl ?_
  refine o_alloc rfl rfl rfl rfl rfl rfl ?_; intro b5
  refine o_st 5 rfl rfl rfl rfl rfl rfl rfl rfl rfl rfl (by first | rfl | kernel_rfl) ?_
  refine o_nil ?_
  refine x_go ?_
  refine w_seq ?_
  refine w_seq ?_
  refine w_reg ?_
  refine Qv.step (u_p rfl rfl rfl) rfl rfl ?_
  refine Qv.step (u_rem rfl rfl rfl rfl (by decide)) rfl rfl ?_
  refine o_nil ?_
  refine x_go ?_
  obtain ⟨m, hm, hme⟩ : ∃ m : Nat, m < 8 ∧ wh.tmod 8 = (m : Int) := ⟨(wh.tmod 8).toNat, by rw [Int.tmod_eq_emod_of_nonneg hw.1]; omega, by rw [Int.tmod_eq_emod_of_nonneg hw.1]; omega⟩
  refine w_know 78 (.v (.int .u8 (m : Int))) rfl (fun A w u h => by
    have h' : Rep A w u (.v (.int .u8 (wh.tmod 8))) := h
    rw [hme] at h'
    exact h') ?_
  rw [hme, Int.toNat_natCast]
  refine w_less [(3, .i to), (4, .v (.pointer (some ⟨b0, 0, none⟩))), (9, .v (.pointer (some ⟨b4, 0, none⟩))), (12, .rp ve 13 i 0), (13, .i (k : Int)), (14, .v (.pointer (some ⟨b5, 0, none⟩))), (78, .v (.int .u8 (m : Int)))]
    [cellsR b0 25 (rPl p), rowR va 78 4 (t.vs.map rVR), rowR ve 44 13 (t.es.map rER), rowR vf 46 2 (t.fs.map rF), cellsR b4 32 [.i t.lv, .i t.le, .i t.lf, .os va, .os ve, .os vf], cellsR b5 44 (rER row)]
    ⟨rfl, rfl, rfl, rfl, rfl, rfl, rfl, trivial⟩ rfl ?_
  have hk2 : k = 0 ∨ k = 1 := by omega
  have hm2 : m = 0 ∨ m = 1 ∨ m = 2 ∨ m = 3 ∨ m = 4 ∨ m = 5 ∨ m = 6 ∨ m = 7 := by omega
  clear hie hke hme hm hT
  have hl1 : t.vs.length < 100000000 := by omega
  have hl2 : t.es.length < 100000000 := by omega
  have hl3 : t.fs.length < 99999999 := by omega
  have hlf : IntKind.i64.wrap (t.lf + 1) = t.lf + 1 := wrapI (by omega) (by omega)
  skip
  rcases hk2 with rfl | rfl
  · rcases hm2 with rfl | rfl | rfl | rfl | rfl | rfl | rfl | rfl
    · skip
      refine w_block ?_
      refine w_seq ?_
      refine w_reg ?_
      refine Qv.step (u_p rfl rfl rfl) rfl rfl ?_
      refine Qv.step (u_p rfl rfl rfl) rfl rfl ?_
      refine o_nil ?_
      refine x_go ?_
      refine w_ift rfl ?_
      refine w_reg ?_
      refine Qv.step (u_p rfl rfl rfl) rfl rfl ?_
      refine Qv.step (u_p rfl rfl rfl) rfl rfl ?_
      refine Qv.step (u_p rfl rfl rfl) rfl rfl ?_
      refine Qv.step (u_p rfl rfl rfl) rfl rfl ?_
      refine Qv.step (u_p rfl rfl rfl) rfl rfl ?_
      refine Qv.step (u_ixra rfl rfl rfl rfl rfl rfl rfl (by decide) (by decide)) rfl rfl ?_
      refine Qv.step (u_p rfl rfl rfl) rfl rfl ?_
      refine o_str 2 (r := rER row) hrow' rfl rfl rfl rfl rfl rfl rfl rfl rfl rfl rfl ?_
      refine o_nil ?_
      refine x_go ?_
      refine w_seq ?_
      refine w_res 2 (rowR ve 44 13 ((t.es.modify i (eTurn 0 0 to)).map rER)) rfl (fun A w h => by
        have h' : (rowR ve 44 13 ((t.es.map rER).set i (rER ((eTurn 0 0 to) row)))).ok A w := h
        rw [set_modify hrow (eTurn 0 0 to)] at h'
        exact h') (fun _ h => h) ?_
      have hr2 : ((t.es.modify i (eTurn 0 0 to)).map rER)[i]? = some (rER ((eTurn 0 0 to) row)) := by rw [List.getElem?_map, List.getElem?_modify, hrow]; simp
      refine w_frcp 2 4 4 12 rfl rfl rfl rfl rfl (by simp; omega) ?_
      refine w_frc 1 4 3 rfl rfl rfl rfl ?_
      refine w_frc 3 4 5 rfl rfl rfl rfl ?_
      refine d_begin ?_
      refine d_q [] (by kernel_rfl) rfl (fun _ _ _ => .onk (L' := []) rfl (u_p rfl rfl rfl) rfl) ?_
      refine d_q [0] (by kernel_rfl) rfl (fun _ _ _ => .onk (L' := [(169, _)]) rfl (u_p rfl rfl rfl) rfl) ?_
      refine d_q (d := .agg [_, _, _, _, _, _, _, _, _, _, _, _, _]) [1] (by kernel_rfl) rfl (fun _ _ _ => .onk (L' := [(170, _)]) rfl (u_lde (r := rER ((eTurn 0 0 to) row)) hr2 rfl rfl rfl rfl rfl) rfl) ?_
      refine d_q (d := .agg [_, _, _, _, _, _, _, _, _, _, _, _, _]) [] (by kernel_rfl) rfl (fun _ _ _ => .onk (L' := []) rfl (u_ld 5 rfl rfl rfl rfl rfl rfl) rfl) ?_
      refine d_q [2, 3] (by kernel_rfl) rfl (fun _ _ _ => .onk (L' := [(171, _), (172, _)]) rfl (u_eq rfl rfl rfl rfl rfl rfl rfl rfl rfl rfl rfl rfl) rfl) ?_
      refine d_q [4] (by kernel_rfl) rfl (fun _ _ _ => .onk (L' := [(173, _)]) rfl (u_p rfl rfl rfl) rfl) ?_
      refine d_q (d := .gd _ _ (.agg [_, _, _, _, _, _])) [5] (by kernel_rfl) rfl (fun _ _ _ => .onk (L' := [(174, _)]) rfl (q_ld (G := [(_, false)]) 4 rfl rfl rfl rfl rfl rfl rfl) rfl) ?_
      refine d_q (d := .gd _ _ _) [5, 6] (by kernel_rfl) rfl (fun _ _ _ => .onk (L' := [(174, _), (175, _)]) rfl (q_call (G := [(_, false)]) (Check_ok (tTurn t 0 0 i to) hl1 (by simp [tTurn]; omega) (Nat.lt_trans hl3 (by decide)) (hTT _)) Try.call7 rfl rfl rfl rfl) rfl) ?_
      refine d_q (d := .gd _ _ _) [5, 7] (by kernel_rfl) rfl (fun _ _ _ => .onk (L' := [(174, _), (176, _)]) rfl (q_p (G := [(_, false)]) rfl rfl rfl rfl) rfl) ?_
      refine d_q (d := .v _) [5, 8] (by kernel_rfl) rfl (fun _ _ _ => .onk (L' := [(174, _), (177, _)]) rfl (u_pick rfl rfl rfl rfl rfl rfl rfl rfl rfl) rfl) ?_
      refine d_end (by kernel_rfl) (by kernel_rfl) (by kernel_rfl) (fun bs _ => so_as (L' := [(169, _), (170, _), (171, _), (172, _), (173, _), (174, _), (175, _), (176, _), (177, _), (178, _)]) (G' := []) rfl rfl ?_)
      refine Qv.step (u_p rfl rfl rfl) rfl rfl ?_
      refine o_nil ?_
      refine x_go ?_
      have fin : (bif eqER ((eTurn 0 0 to) row) row then true else (aCheck (tTurn t 0 0 i to) == 19)) = tTold t 0 0 i to := by
        rw [tTold_ne hrow (by decide)]
        cases eqER ((eTurn 0 0 to) row) row <;> rfl
      exact w_ret (x_rt rfl rfl (congrArg DV.b fin))
    · skip
      refine w_block ?_
      refine w_seq ?_
      refine w_reg ?_
      refine Qv.step (u_p rfl rfl rfl) rfl rfl ?_
      refine Qv.step (u_p rfl rfl rfl) rfl rfl ?_
      refine o_nil ?_
      refine x_go ?_
      refine w_iff rfl ?_
      refine w_seq ?_
      refine w_reg ?_
      refine Qv.step (u_p rfl rfl rfl) rfl rfl ?_
      refine Qv.step (u_p rfl rfl rfl) rfl rfl ?_
      refine o_nil ?_
      refine x_go ?_
      refine w_ift rfl ?_
      refine w_reg ?_
      refine Qv.step (u_p rfl rfl rfl) rfl rfl ?_
      refine Qv.step (u_p rfl rfl rfl) rfl rfl ?_
      refine Qv.step (u_p rfl rfl rfl) rfl rfl ?_
      refine Qv.step (u_p rfl rfl rfl) rfl rfl ?_
      refine Qv.step (u_p rfl rfl rfl) rfl rfl ?_
      refine Qv.step (u_ixra rfl rfl rfl rfl rfl rfl rfl (by decide) (by decide)) rfl rfl ?_
      refine Qv.step (u_p rfl rfl rfl) rfl rfl ?_
      refine o_str 2 (r := rER row) hrow' rfl rfl rfl rfl rfl rfl rfl rfl rfl rfl rfl ?_
      refine o_nil ?_
      refine x_go ?_
      refine w_seq ?_
      refine w_res 2 (rowR ve 44 13 ((t.es.modify i (eTurn 1 0 to)).map rER)) rfl (fun A w h => by
        have h' : (rowR ve 44 13 ((t.es.map rER).set i (rER ((eTurn 1 0 to) row)))).ok A w := h
        rw [set_modify hrow (eTurn 1 0 to)] at h'
        exact h') (fun _ h => h) ?_
      have hr2 : ((t.es.modify i (eTurn 1 0 to)).map rER)[i]? = some (rER ((eTurn 1 0 to) row)) := by rw [List.getElem?_map, List.getElem?_modify, hrow]; simp
      refine w_frcp 2 4 4 12 rfl rfl rfl rfl rfl (by simp; omega) ?_
      refine w_frc 1 4 3 rfl rfl rfl rfl ?_
      refine w_frc 3 4 5 rfl rfl rfl rfl ?_
      refine d_begin ?_
      refine d_q [] (by kernel_rfl) rfl (fun _ _ _ => .onk (L' := []) rfl (u_p rfl rfl rfl) rfl) ?_
      refine d_q [0] (by kernel_rfl) rfl (fun _ _ _ => .onk (L' := [(169, _)]) rfl (u_p rfl rfl rfl) rfl) ?_
      refine d_q (d := .agg [_, _, _, _, _, _, _, _, _, _, _, _, _]) [1] (by kernel_rfl) rfl (fun _ _ _ => .onk (L' := [(170, _)]) rfl (u_lde (r := rER ((eTurn 1 0 to) row)) hr2 rfl rfl rfl rfl rfl) rfl) ?_
      refine d_q (d := .agg [_, _, _, _, _, _, _, _, _, _, _, _, _]) [] (by kernel_rfl) rfl (fun _ _ _ => .onk (L' := []) rfl (u_ld 5 rfl rfl rfl rfl rfl rfl) rfl) ?_
      refine d_q [2, 3] (by kernel_rfl) rfl (fun _ _ _ => .onk (L' := [(171, _), (172, _)]) rfl (u_eq rfl rfl rfl rfl rfl rfl rfl rfl rfl rfl rfl rfl) rfl) ?_
      refine d_q [4] (by kernel_rfl) rfl (fun _ _ _ => .onk (L' := [(173, _)]) rfl (u_p rfl rfl rfl) rfl) ?_
      refine d_q (d := .gd _ _ (.agg [_, _, _, _, _, _])) [5] (by kernel_rfl) rfl (fun _ _ _ => .onk (L' := [(174, _)]) rfl (q_ld (G := [(_, false)]) 4 rfl rfl rfl rfl rfl rfl rfl) rfl) ?_
      refine d_q (d := .gd _ _ _) [5, 6] (by kernel_rfl) rfl (fun _ _ _ => .onk (L' := [(174, _), (175, _)]) rfl (q_call (G := [(_, false)]) (Check_ok (tTurn t 1 0 i to) hl1 (by simp [tTurn]; omega) (Nat.lt_trans hl3 (by decide)) (hTT _)) Try.call7 rfl rfl rfl rfl) rfl) ?_
      refine d_q (d := .gd _ _ _) [5, 7] (by kernel_rfl) rfl (fun _ _ _ => .onk (L' := [(174, _), (176, _)]) rfl (q_p (G := [(_, false)]) rfl rfl rfl rfl) rfl) ?_
      refine d_q (d := .v _) [5, 8] (by kernel_rfl) rfl (fun _ _ _ => .onk (L' := [(174, _), (177, _)]) rfl (u_pick rfl rfl rfl rfl rfl rfl rfl rfl rfl) rfl) ?_
      refine d_end (by kernel_rfl) (by kernel_rfl) (by kernel_rfl) (fun bs _ => so_as (L' := [(169, _), (170, _), (171, _), (172, _), (173, _), (174, _), (175, _), (176, _), (177, _), (178, _)]) (G' := []) rfl rfl ?_)
      refine Qv.step (u_p rfl rfl rfl) rfl rfl ?_
      refine o_nil ?_
      refine x_go ?_
      have fin : (bif eqER ((eTurn 1 0 to) row) row then true else (aCheck (tTurn t 1 0 i to) == 19)) = tTold t 1 0 i to := by
        rw [tTold_ne hrow (by decide)]
        cases eqER ((eTurn 1 0 to) row) row <;> rfl
      exact w_ret (x_rt rfl rfl (congrArg DV.b fin))
    · skip
      refine w_block ?_
      refine w_seq ?_
      refine w_reg ?_
      refine Qv.step (u_p rfl rfl rfl) rfl rfl ?_
      refine Qv.step (u_p rfl rfl rfl) rfl rfl ?_
      refine o_nil ?_
      refine x_go ?_
      refine w_iff rfl ?_
      refine w_seq ?_
      refine w_reg ?_
      refine Qv.step (u_p rfl rfl rfl) rfl rfl ?_
      refine Qv.step (u_p rfl rfl rfl) rfl rfl ?_
      refine o_nil ?_
      refine x_go ?_
      refine w_iff rfl ?_
      refine w_seq ?_
      refine w_reg ?_
      refine Qv.step (u_p rfl rfl rfl) rfl rfl ?_
      refine Qv.step (u_p rfl rfl rfl) rfl rfl ?_
      refine o_nil ?_
      refine x_go ?_
      refine w_ift rfl ?_
      refine d_begin ?_
      refine d_q [] (by kernel_rfl) rfl (fun _ _ _ => .onk (L' := []) rfl (u_p rfl rfl rfl) rfl) ?_
      refine d_q [] (by kernel_rfl) rfl (fun _ _ _ => .onk (L' := []) rfl (u_p rfl rfl rfl) rfl) ?_
      refine d_q [] (by kernel_rfl) rfl (fun _ _ _ => .onk (L' := []) rfl (u_p rfl rfl rfl) rfl) ?_
      refine d_q [] (by kernel_rfl) rfl (fun _ _ _ => .onk (L' := []) rfl (u_p rfl rfl rfl) rfl) ?_
      refine d_q [2] (by kernel_rfl) rfl (fun _ _ _ => .onk (L' := [(101, _)]) rfl (u_p rfl rfl rfl) rfl) ?_
      refine d_q [4] (by kernel_rfl) rfl (fun _ _ _ => .onk (L' := [(103, _)]) rfl (u_p rfl rfl rfl) rfl) ?_
      refine d_q [3, 5] (by kernel_rfl) rfl (fun _ _ _ => .onk (L' := [(102, _), (104, _)]) rfl (u_ixra rfl rfl rfl rfl rfl rfl rfl (by decide) (by decide)) rfl) ?_
      refine d_q [6] (by kernel_rfl) rfl (fun _ _ _ => .onk (L' := [(105, _)]) rfl (u_p rfl rfl rfl) rfl) ?_
      refine d_q [7] (by kernel_rfl) rfl (fun _ _ _ => .onk (L' := [(106, _)]) rfl (u_ldr 2 hrow' rfl rfl rfl rfl rfl rfl) rfl) ?_
      refine d_q [8] (by kernel_rfl) rfl (fun _ _ _ => .onk (L' := [(107, _)]) rfl (u_p rfl rfl rfl) rfl) ?_
      refine d_q [0] (by kernel_rfl) rfl (fun _ _ _ => .onk (L' := [(99, _)]) rfl (u_p rfl rfl rfl) rfl) ?_
      refine d_q [10] (by kernel_rfl) rfl (fun _ _ _ => .onk (L' := [(109, _)]) rfl (u_p rfl rfl rfl) rfl) ?_
      refine d_q [1, 11] (by kernel_rfl) rfl (fun _ _ _ => .onk (L' := [(100, _), (110, _)]) rfl (u_ixra rfl rfl rfl rfl rfl rfl rfl (by decide) (by decide)) rfl) ?_
      refine d_q [12] (by kernel_rfl) rfl (fun _ _ _ => .onk (L' := [(111, _)]) rfl (u_p rfl rfl rfl) rfl) ?_
      refine d_end (by kernel_rfl) (by kernel_rfl) (by kernel_rfl) (fun bs _ => so_as (L' := [(99, _), (100, _), (101, _), (102, _), (103, _), (104, _), (105, _), (106, _), (107, _), (108, _), (109, _), (110, _), (111, _), (112, _)]) (G' := []) rfl rfl ?_)
      refine o_str 2 (r := rER row) hrow' rfl rfl rfl rfl rfl rfl rfl rfl rfl rfl rfl ?_
      refine o_nil ?_
      refine x_go ?_
      refine w_res 2 (rowR ve 44 13 ((t.es.modify i (eTurn 2 0 to)).map rER)) rfl (fun A w h => by
        have h' : (rowR ve 44 13 ((t.es.map rER).set i (rER ((eTurn 2 0 to) row)))).ok A w := h
        rw [set_modify hrow (eTurn 2 0 to)] at h'
        exact h') (fun _ h => h) ?_
      have hr2 : ((t.es.modify i (eTurn 2 0 to)).map rER)[i]? = some (rER ((eTurn 2 0 to) row)) := by rw [List.getElem?_map, List.getElem?_modify, hrow]; simp
      refine w_frcp 2 4 4 12 rfl rfl rfl rfl rfl (by simp; omega) ?_
      refine w_frc 1 4 3 rfl rfl rfl rfl ?_
      refine w_frc 3 4 5 rfl rfl rfl rfl ?_
      refine w_seq ?_
      refine d_begin ?_
      refine d_q [] (by kernel_rfl) rfl (fun _ _ _ => .onk (L' := []) rfl (u_p rfl rfl rfl) rfl) ?_
      refine d_q [0] (by kernel_rfl) rfl (fun _ _ _ => .onk (L' := [(169, _)]) rfl (u_p rfl rfl rfl) rfl) ?_
      refine d_q (d := .agg [_, _, _, _, _, _, _, _, _, _, _, _, _]) [1] (by kernel_rfl) rfl (fun _ _ _ => .onk (L' := [(170, _)]) rfl (u_lde (r := rER ((eTurn 2 0 to) row)) hr2 rfl rfl rfl rfl rfl) rfl) ?_
      refine d_q (d := .agg [_, _, _, _, _, _, _, _, _, _, _, _, _]) [] (by kernel_rfl) rfl (fun _ _ _ => .onk (L' := []) rfl (u_ld 5 rfl rfl rfl rfl rfl rfl) rfl) ?_
      refine d_q [2, 3] (by kernel_rfl) rfl (fun _ _ _ => .onk (L' := [(171, _), (172, _)]) rfl (u_eq rfl rfl rfl rfl rfl rfl rfl rfl rfl rfl rfl rfl) rfl) ?_
      refine d_q [4] (by kernel_rfl) rfl (fun _ _ _ => .onk (L' := [(173, _)]) rfl (u_p rfl rfl rfl) rfl) ?_
      refine d_q (d := .gd _ _ (.agg [_, _, _, _, _, _])) [5] (by kernel_rfl) rfl (fun _ _ _ => .onk (L' := [(174, _)]) rfl (q_ld (G := [(_, false)]) 4 rfl rfl rfl rfl rfl rfl rfl) rfl) ?_
      refine d_q (d := .gd _ _ _) [5, 6] (by kernel_rfl) rfl (fun _ _ _ => .onk (L' := [(174, _), (175, _)]) rfl (q_call (G := [(_, false)]) (Check_ok (tTurn t 2 0 i to) hl1 (by simp [tTurn]; omega) (Nat.lt_trans hl3 (by decide)) (hTT _)) Try.call7 rfl rfl rfl rfl) rfl) ?_
      refine d_q (d := .gd _ _ _) [5, 7] (by kernel_rfl) rfl (fun _ _ _ => .onk (L' := [(174, _), (176, _)]) rfl (q_p (G := [(_, false)]) rfl rfl rfl rfl) rfl) ?_
      refine d_q (d := .v _) [5, 8] (by kernel_rfl) rfl (fun _ _ _ => .onk (L' := [(174, _), (177, _)]) rfl (u_pick rfl rfl rfl rfl rfl rfl rfl rfl rfl) rfl) ?_
      refine d_end (by kernel_rfl) (by kernel_rfl) (by kernel_rfl) (fun bs _ => so_as (L' := [(169, _), (170, _), (171, _), (172, _), (173, _), (174, _), (175, _), (176, _), (177, _), (178, _)]) (G' := []) rfl rfl ?_)
      refine Qv.step (u_p rfl rfl rfl) rfl rfl ?_
      refine o_nil ?_
      refine x_go ?_
      have fin : (bif eqER ((eTurn 2 0 to) row) row then true else (aCheck (tTurn t 2 0 i to) == 19)) = tTold t 2 0 i to := by
        rw [tTold_ne hrow (by decide)]
        cases eqER ((eTurn 2 0 to) row) row <;> rfl
      exact w_ret (x_rt rfl rfl (congrArg DV.b fin))
    · skip
      refine w_block ?_
      refine w_seq ?_
      refine w_reg ?_
      refine Qv.step (u_p rfl rfl rfl) rfl rfl ?_
      refine Qv.step (u_p rfl rfl rfl) rfl rfl ?_
      refine o_nil ?_
      refine x_go ?_
      refine w_iff rfl ?_
      refine w_seq ?_
      refine w_reg ?_
      refine Qv.step (u_p rfl rfl rfl) rfl rfl ?_
      refine Qv.step (u_p rfl rfl rfl) rfl rfl ?_
      refine o_nil ?_
      refine x_go ?_
      refine w_iff rfl ?_
      refine w_seq ?_
      refine w_reg ?_
      refine Qv.step (u_p rfl rfl rfl) rfl rfl ?_
      refine Qv.step (u_p rfl rfl rfl) rfl rfl ?_
      refine o_nil ?_
      refine x_go ?_
      refine w_iff rfl ?_
      refine w_seq ?_
      refine w_reg ?_
      refine Qv.step (u_p rfl rfl rfl) rfl rfl ?_
      refine Qv.step (u_p rfl rfl rfl) rfl rfl ?_
      refine o_nil ?_
      refine x_go ?_
      refine w_ift rfl ?_
      refine d_begin ?_
      refine d_q [] (by kernel_rfl) rfl (fun _ _ _ => .onk (L' := []) rfl (u_p rfl rfl rfl) rfl) ?_
      refine d_q [] (by kernel_rfl) rfl (fun _ _ _ => .onk (L' := []) rfl (u_p rfl rfl rfl) rfl) ?_
      refine d_q [] (by kernel_rfl) rfl (fun _ _ _ => .onk (L' := []) rfl (u_p rfl rfl rfl) rfl) ?_
      refine d_q [] (by kernel_rfl) rfl (fun _ _ _ => .onk (L' := []) rfl (u_p rfl rfl rfl) rfl) ?_
      refine d_q [2] (by kernel_rfl) rfl (fun _ _ _ => .onk (L' := [(117, _)]) rfl (u_p rfl rfl rfl) rfl) ?_
      refine d_q [4] (by kernel_rfl) rfl (fun _ _ _ => .onk (L' := [(119, _)]) rfl (u_p rfl rfl rfl) rfl) ?_
      refine d_q [3, 5] (by kernel_rfl) rfl (fun _ _ _ => .onk (L' := [(118, _), (120, _)]) rfl (u_ixra rfl rfl rfl rfl rfl rfl rfl (by decide) (by decide)) rfl) ?_
      refine d_q [6] (by kernel_rfl) rfl (fun _ _ _ => .onk (L' := [(121, _)]) rfl (u_p rfl rfl rfl) rfl) ?_
      refine d_q [7] (by kernel_rfl) rfl (fun _ _ _ => .onk (L' := [(122, _)]) rfl (u_ldr 2 hrow' rfl rfl rfl rfl rfl rfl) rfl) ?_
      refine d_q [8] (by kernel_rfl) rfl (fun _ _ _ => .onk (L' := [(123, _)]) rfl (u_p rfl rfl rfl) rfl) ?_
      refine d_q [0] (by kernel_rfl) rfl (fun _ _ _ => .onk (L' := [(115, _)]) rfl (u_p rfl rfl rfl) rfl) ?_
      refine d_q [10] (by kernel_rfl) rfl (fun _ _ _ => .onk (L' := [(125, _)]) rfl (u_p rfl rfl rfl) rfl) ?_
      refine d_q [1, 11] (by kernel_rfl) rfl (fun _ _ _ => .onk (L' := [(116, _), (126, _)]) rfl (u_ixra rfl rfl rfl rfl rfl rfl rfl (by decide) (by decide)) rfl) ?_
      refine d_q [12] (by kernel_rfl) rfl (fun _ _ _ => .onk (L' := [(127, _)]) rfl (u_p rfl rfl rfl) rfl) ?_
      refine d_end (by kernel_rfl) (by kernel_rfl) (by kernel_rfl) (fun bs _ => so_as (L' := [(115, _), (116, _), (117, _), (118, _), (119, _), (120, _), (121, _), (122, _), (123, _), (124, _), (125, _), (126, _), (127, _), (128, _)]) (G' := []) rfl rfl ?_)
      refine o_str 2 (r := rER row) hrow' rfl rfl rfl rfl rfl rfl rfl rfl rfl rfl rfl ?_
      refine o_nil ?_
      refine x_go ?_
      refine w_res 2 (rowR ve 44 13 ((t.es.modify i (eTurn 3 0 to)).map rER)) rfl (fun A w h => by
        have h' : (rowR ve 44 13 ((t.es.map rER).set i (rER ((eTurn 3 0 to) row)))).ok A w := h
        rw [set_modify hrow (eTurn 3 0 to)] at h'
        exact h') (fun _ h => h) ?_
      have hr2 : ((t.es.modify i (eTurn 3 0 to)).map rER)[i]? = some (rER ((eTurn 3 0 to) row)) := by rw [List.getElem?_map, List.getElem?_modify, hrow]; simp
      refine w_frcp 2 4 4 12 rfl rfl rfl rfl rfl (by simp; omega) ?_
      refine w_frc 1 4 3 rfl rfl rfl rfl ?_
      refine w_frc 3 4 5 rfl rfl rfl rfl ?_
      refine w_seq ?_
      refine d_begin ?_
      refine d_q [] (by kernel_rfl) rfl (fun _ _ _ => .onk (L' := []) rfl (u_p rfl rfl rfl) rfl) ?_
      refine d_q [0] (by kernel_rfl) rfl (fun _ _ _ => .onk (L' := [(169, _)]) rfl (u_p rfl rfl rfl) rfl) ?_
      refine d_q (d := .agg [_, _, _, _, _, _, _, _, _, _, _, _, _]) [1] (by kernel_rfl) rfl (fun _ _ _ => .onk (L' := [(170, _)]) rfl (u_lde (r := rER ((eTurn 3 0 to) row)) hr2 rfl rfl rfl rfl rfl) rfl) ?_
      refine d_q (d := .agg [_, _, _, _, _, _, _, _, _, _, _, _, _]) [] (by kernel_rfl) rfl (fun _ _ _ => .onk (L' := []) rfl (u_ld 5 rfl rfl rfl rfl rfl rfl) rfl) ?_
      refine d_q [2, 3] (by kernel_rfl) rfl (fun _ _ _ => .onk (L' := [(171, _), (172, _)]) rfl (u_eq rfl rfl rfl rfl rfl rfl rfl rfl rfl rfl rfl rfl) rfl) ?_
      refine d_q [4] (by kernel_rfl) rfl (fun _ _ _ => .onk (L' := [(173, _)]) rfl (u_p rfl rfl rfl) rfl) ?_
      refine d_q (d := .gd _ _ (.agg [_, _, _, _, _, _])) [5] (by kernel_rfl) rfl (fun _ _ _ => .onk (L' := [(174, _)]) rfl (q_ld (G := [(_, false)]) 4 rfl rfl rfl rfl rfl rfl rfl) rfl) ?_
      refine d_q (d := .gd _ _ _) [5, 6] (by kernel_rfl) rfl (fun _ _ _ => .onk (L' := [(174, _), (175, _)]) rfl (q_call (G := [(_, false)]) (Check_ok (tTurn t 3 0 i to) hl1 (by simp [tTurn]; omega) (Nat.lt_trans hl3 (by decide)) (hTT _)) Try.call7 rfl rfl rfl rfl) rfl) ?_
      refine d_q (d := .gd _ _ _) [5, 7] (by kernel_rfl) rfl (fun _ _ _ => .onk (L' := [(174, _), (176, _)]) rfl (q_p (G := [(_, false)]) rfl rfl rfl rfl) rfl) ?_
      refine d_q (d := .v _) [5, 8] (by kernel_rfl) rfl (fun _ _ _ => .onk (L' := [(174, _), (177, _)]) rfl (u_pick rfl rfl rfl rfl rfl rfl rfl rfl rfl) rfl) ?_
      refine d_end (by kernel_rfl) (by kernel_rfl) (by kernel_rfl) (fun bs _ => so_as (L' := [(169, _), (170, _), (171, _), (172, _), (173, _), (174, _), (175, _), (176, _), (177, _), (178, _)]) (G' := []) rfl rfl ?_)
      refine Qv.step (u_p rfl rfl rfl) rfl rfl ?_
      refine o_nil ?_
      refine x_go ?_
      have fin : (bif eqER ((eTurn 3 0 to) row) row then true else (aCheck (tTurn t 3 0 i to) == 19)) = tTold t 3 0 i to := by
        rw [tTold_ne hrow (by decide)]
        cases eqER ((eTurn 3 0 to) row) row <;> rfl
      exact w_ret (x_rt rfl rfl (congrArg DV.b fin))
    · skip
      refine w_block ?_
      refine w_seq ?_
      refine w_reg ?_
      refine Qv.step (u_p rfl rfl rfl) rfl rfl ?_
      refine Qv.step (u_p rfl rfl rfl) rfl rfl ?_
      refine o_nil ?_
      refine x_go ?_
      refine w_iff rfl ?_
      refine w_seq ?_
      refine w_reg ?_
      refine Qv.step (u_p rfl rfl rfl) rfl rfl ?_
      refine Qv.step (u_p rfl rfl rfl) rfl rfl ?_
      refine o_nil ?_
      refine x_go ?_
      refine w_iff rfl ?_
      refine w_seq ?_
      refine w_reg ?_
      refine Qv.step (u_p rfl rfl rfl) rfl rfl ?_
      refine Qv.step (u_p rfl rfl rfl) rfl rfl ?_
      refine o_nil ?_
      refine x_go ?_
      refine w_iff rfl ?_
      refine w_seq ?_
      refine w_reg ?_
      refine Qv.step (u_p rfl rfl rfl) rfl rfl ?_
      refine Qv.step (u_p rfl rfl rfl) rfl rfl ?_
      refine o_nil ?_
      refine x_go ?_
      refine w_iff rfl ?_
      refine w_seq ?_
      refine w_reg ?_
      refine Qv.step (u_p rfl rfl rfl) rfl rfl ?_
      refine Qv.step (u_p rfl rfl rfl) rfl rfl ?_
      refine o_nil ?_
      refine x_go ?_
      refine w_ift rfl ?_
      refine w_reg ?_
      refine Qv.step (u_p rfl rfl rfl) rfl rfl ?_
      refine Qv.step (u_p rfl rfl rfl) rfl rfl ?_
      refine Qv.step (u_p rfl rfl rfl) rfl rfl ?_
      refine Qv.step (u_p rfl rfl rfl) rfl rfl ?_
      refine Qv.step (u_p rfl rfl rfl) rfl rfl ?_
      refine Qv.step (u_ixra rfl rfl rfl rfl rfl rfl rfl (by decide) (by decide)) rfl rfl ?_
      refine o_str 2 (r := rER row) hrow' rfl rfl rfl rfl rfl rfl rfl rfl rfl rfl rfl ?_
      refine o_nil ?_
      refine x_go ?_
      refine w_seq ?_
      refine w_res 2 (rowR ve 44 13 ((t.es.modify i (eTurn 4 0 to)).map rER)) rfl (fun A w h => by
        have h' : (rowR ve 44 13 ((t.es.map rER).set i (rER ((eTurn 4 0 to) row)))).ok A w := h
        rw [set_modify hrow (eTurn 4 0 to)] at h'
        exact h') (fun _ h => h) ?_
      have hr2 : ((t.es.modify i (eTurn 4 0 to)).map rER)[i]? = some (rER ((eTurn 4 0 to) row)) := by rw [List.getElem?_map, List.getElem?_modify, hrow]; simp
      refine w_frcp 2 4 4 12 rfl rfl rfl rfl rfl (by simp; omega) ?_
      refine w_frc 1 4 3 rfl rfl rfl rfl ?_
      refine w_frc 3 4 5 rfl rfl rfl rfl ?_
      refine d_begin ?_
      refine d_q [] (by kernel_rfl) rfl (fun _ _ _ => .onk (L' := []) rfl (u_p rfl rfl rfl) rfl) ?_
      refine d_q [0] (by kernel_rfl) rfl (fun _ _ _ => .onk (L' := [(169, _)]) rfl (u_p rfl rfl rfl) rfl) ?_
      refine d_q (d := .agg [_, _, _, _, _, _, _, _, _, _, _, _, _]) [1] (by kernel_rfl) rfl (fun _ _ _ => .onk (L' := [(170, _)]) rfl (u_lde (r := rER ((eTurn 4 0 to) row)) hr2 rfl rfl rfl rfl rfl) rfl) ?_
      refine d_q (d := .agg [_, _, _, _, _, _, _, _, _, _, _, _, _]) [] (by kernel_rfl) rfl (fun _ _ _ => .onk (L' := []) rfl (u_ld 5 rfl rfl rfl rfl rfl rfl) rfl) ?_
      refine d_q [2, 3] (by kernel_rfl) rfl (fun _ _ _ => .onk (L' := [(171, _), (172, _)]) rfl (u_eq rfl rfl rfl rfl rfl rfl rfl rfl rfl rfl rfl rfl) rfl) ?_
      refine d_q [4] (by kernel_rfl) rfl (fun _ _ _ => .onk (L' := [(173, _)]) rfl (u_p rfl rfl rfl) rfl) ?_
      refine d_q (d := .gd _ _ (.agg [_, _, _, _, _, _])) [5] (by kernel_rfl) rfl (fun _ _ _ => .onk (L' := [(174, _)]) rfl (q_ld (G := [(_, false)]) 4 rfl rfl rfl rfl rfl rfl rfl) rfl) ?_
      refine d_q (d := .gd _ _ _) [5, 6] (by kernel_rfl) rfl (fun _ _ _ => .onk (L' := [(174, _), (175, _)]) rfl (q_call (G := [(_, false)]) (Check_ok (tTurn t 4 0 i to) hl1 (by simp [tTurn]; omega) (Nat.lt_trans hl3 (by decide)) (hTT _)) Try.call7 rfl rfl rfl rfl) rfl) ?_
      refine d_q (d := .gd _ _ _) [5, 7] (by kernel_rfl) rfl (fun _ _ _ => .onk (L' := [(174, _), (176, _)]) rfl (q_p (G := [(_, false)]) rfl rfl rfl rfl) rfl) ?_
      refine d_q (d := .v _) [5, 8] (by kernel_rfl) rfl (fun _ _ _ => .onk (L' := [(174, _), (177, _)]) rfl (u_pick rfl rfl rfl rfl rfl rfl rfl rfl rfl) rfl) ?_
      refine d_end (by kernel_rfl) (by kernel_rfl) (by kernel_rfl) (fun bs _ => so_as (L' := [(169, _), (170, _), (171, _), (172, _), (173, _), (174, _), (175, _), (176, _), (177, _), (178, _)]) (G' := []) rfl rfl ?_)
      refine Qv.step (u_p rfl rfl rfl) rfl rfl ?_
      refine o_nil ?_
      refine x_go ?_
      have fin : (bif eqER ((eTurn 4 0 to) row) row then true else (aCheck (tTurn t 4 0 i to) == 19)) = tTold t 4 0 i to := by
        rw [tTold_ne hrow (by decide)]
        cases eqER ((eTurn 4 0 to) row) row <;> rfl
      exact w_ret (x_rt rfl rfl (congrArg DV.b fin))
    · skip
      refine w_block ?_
      refine w_seq ?_
      refine w_reg ?_
      refine Qv.step (u_p rfl rfl rfl) rfl rfl ?_
      refine Qv.step (u_p rfl rfl rfl) rfl rfl ?_
      refine o_nil ?_
      refine x_go ?_
      refine w_iff rfl ?_
      refine w_seq ?_
      refine w_reg ?_
      refine Qv.step (u_p rfl rfl rfl) rfl rfl ?_
      refine Qv.step (u_p rfl rfl rfl) rfl rfl ?_
      refine o_nil ?_
      refine x_go ?_
      refine w_iff rfl ?_
      refine w_seq ?_
      refine w_reg ?_
      refine Qv.step (u_p rfl rfl rfl) rfl rfl ?_
      refine Qv.step (u_p rfl rfl rfl) rfl rfl ?_
      refine o_nil ?_
      refine x_go ?_
      refine w_iff rfl ?_
      refine w_seq ?_
      refine w_reg ?_
      refine Qv.step (u_p rfl rfl rfl) rfl rfl ?_
      refine Qv.step (u_p rfl rfl rfl) rfl rfl ?_
      refine o_nil ?_
      refine x_go ?_
      refine w_iff rfl ?_
      refine w_seq ?_
      refine w_reg ?_
      refine Qv.step (u_p rfl rfl rfl) rfl rfl ?_
      refine Qv.step (u_p rfl rfl rfl) rfl rfl ?_
      refine o_nil ?_
      refine x_go ?_
      refine w_iff rfl ?_
      refine w_seq ?_
      refine w_reg ?_
      refine Qv.step (u_p rfl rfl rfl) rfl rfl ?_
      refine Qv.step (u_p rfl rfl rfl) rfl rfl ?_
      refine o_nil ?_
      refine x_go ?_
      refine w_ift rfl ?_
      refine w_reg ?_
      refine Qv.step (u_p rfl rfl rfl) rfl rfl ?_
      refine Qv.step (u_p rfl rfl rfl) rfl rfl ?_
      refine Qv.step (u_p rfl rfl rfl) rfl rfl ?_
      refine Qv.step (u_p rfl rfl rfl) rfl rfl ?_
      refine Qv.step (u_ldr 2 hrow' rfl rfl rfl rfl rfl rfl) rfl rfl ?_
      refine Qv.step (u_p rfl rfl rfl) rfl rfl ?_
      refine Qv.step (u_p rfl rfl rfl) rfl rfl ?_
      refine o_str 2 (r := rER row) hrow' rfl rfl rfl rfl rfl rfl rfl rfl rfl rfl rfl ?_
      refine o_nil ?_
      refine x_go ?_
      refine w_seq ?_
      refine w_res 2 (rowR ve 44 13 ((t.es.modify i (eTurn 5 0 to)).map rER)) rfl (fun A w h => by
        have h' : (rowR ve 44 13 ((t.es.map rER).set i (rER ((eTurn 5 0 to) row)))).ok A w := h
        rw [set_modify hrow (eTurn 5 0 to)] at h'
        exact h') (fun _ h => h) ?_
      have hr2 : ((t.es.modify i (eTurn 5 0 to)).map rER)[i]? = some (rER ((eTurn 5 0 to) row)) := by rw [List.getElem?_map, List.getElem?_modify, hrow]; simp
      refine w_frcp 2 4 4 12 rfl rfl rfl rfl rfl (by simp; omega) ?_
      refine w_frc 1 4 3 rfl rfl rfl rfl ?_
      refine w_frc 3 4 5 rfl rfl rfl rfl ?_
      refine d_begin ?_
      refine d_q [] (by kernel_rfl) rfl (fun _ _ _ => .onk (L' := []) rfl (u_p rfl rfl rfl) rfl) ?_
      refine d_q [0] (by kernel_rfl) rfl (fun _ _ _ => .onk (L' := [(169, _)]) rfl (u_p rfl rfl rfl) rfl) ?_
      refine d_q (d := .agg [_, _, _, _, _, _, _, _, _, _, _, _, _]) [1] (by kernel_rfl) rfl (fun _ _ _ => .onk (L' := [(170, _)]) rfl (u_lde (r := rER ((eTurn 5 0 to) row)) hr2 rfl rfl rfl rfl rfl) rfl) ?_
      refine d_q (d := .agg [_, _, _, _, _, _, _, _, _, _, _, _, _]) [] (by kernel_rfl) rfl (fun _ _ _ => .onk (L' := []) rfl (u_ld 5 rfl rfl rfl rfl rfl rfl) rfl) ?_
      refine d_q [2, 3] (by kernel_rfl) rfl (fun _ _ _ => .onk (L' := [(171, _), (172, _)]) rfl (u_eq rfl rfl rfl rfl rfl rfl rfl rfl rfl rfl rfl rfl) rfl) ?_
      refine d_q [4] (by kernel_rfl) rfl (fun _ _ _ => .onk (L' := [(173, _)]) rfl (u_p rfl rfl rfl) rfl) ?_
      refine d_q (d := .gd _ _ (.agg [_, _, _, _, _, _])) [5] (by kernel_rfl) rfl (fun _ _ _ => .onk (L' := [(174, _)]) rfl (q_ld (G := [(_, false)]) 4 rfl rfl rfl rfl rfl rfl rfl) rfl) ?_
      refine d_q (d := .gd _ _ _) [5, 6] (by kernel_rfl) rfl (fun _ _ _ => .onk (L' := [(174, _), (175, _)]) rfl (q_call (G := [(_, false)]) (Check_ok (tTurn t 5 0 i to) hl1 (by simp [tTurn]; omega) (Nat.lt_trans hl3 (by decide)) (hTT _)) Try.call7 rfl rfl rfl rfl) rfl) ?_
      refine d_q (d := .gd _ _ _) [5, 7] (by kernel_rfl) rfl (fun _ _ _ => .onk (L' := [(174, _), (176, _)]) rfl (q_p (G := [(_, false)]) rfl rfl rfl rfl) rfl) ?_
      refine d_q (d := .v _) [5, 8] (by kernel_rfl) rfl (fun _ _ _ => .onk (L' := [(174, _), (177, _)]) rfl (u_pick rfl rfl rfl rfl rfl rfl rfl rfl rfl) rfl) ?_
      refine d_end (by kernel_rfl) (by kernel_rfl) (by kernel_rfl) (fun bs _ => so_as (L' := [(169, _), (170, _), (171, _), (172, _), (173, _), (174, _), (175, _), (176, _), (177, _), (178, _)]) (G' := []) rfl rfl ?_)
      refine Qv.step (u_p rfl rfl rfl) rfl rfl ?_
      refine o_nil ?_
      refine x_go ?_
      have fin : (bif eqER ((eTurn 5 0 to) row) row then true else (aCheck (tTurn t 5 0 i to) == 19)) = tTold t 5 0 i to := by
        rw [tTold_ne hrow (by decide)]
        cases eqER ((eTurn 5 0 to) row) row <;> rfl
      exact w_ret (x_rt rfl rfl (congrArg DV.b fin))
    · skip
      refine w_block ?_
      refine w_seq ?_
      refine w_reg ?_
      refine Qv.step (u_p rfl rfl rfl) rfl rfl ?_
      refine Qv.step (u_p rfl rfl rfl) rfl rfl ?_
      refine o_nil ?_
      refine x_go ?_
      refine w_iff rfl ?_
      refine w_seq ?_
      refine w_reg ?_
      refine Qv.step (u_p rfl rfl rfl) rfl rfl ?_
      refine Qv.step (u_p rfl rfl rfl) rfl rfl ?_
      refine o_nil ?_
      refine x_go ?_
      refine w_iff rfl ?_
      refine w_seq ?_
      refine w_reg ?_
      refine Qv.step (u_p rfl rfl rfl) rfl rfl ?_
      refine Qv.step (u_p rfl rfl rfl) rfl rfl ?_
      refine o_nil ?_
      refine x_go ?_
      refine w_iff rfl ?_
      refine w_seq ?_
      refine w_reg ?_
      refine Qv.step (u_p rfl rfl rfl) rfl rfl ?_
      refine Qv.step (u_p rfl rfl rfl) rfl rfl ?_
      refine o_nil ?_
      refine x_go ?_
      refine w_iff rfl ?_
      refine w_seq ?_
      refine w_reg ?_
      refine Qv.step (u_p rfl rfl rfl) rfl rfl ?_
      refine Qv.step (u_p rfl rfl rfl) rfl rfl ?_
      refine o_nil ?_
      refine x_go ?_
      refine w_iff rfl ?_
      refine w_seq ?_
      refine w_reg ?_
      refine Qv.step (u_p rfl rfl rfl) rfl rfl ?_
      refine Qv.step (u_p rfl rfl rfl) rfl rfl ?_
      refine o_nil ?_
      refine x_go ?_
      refine w_iff rfl ?_
      refine w_seq ?_
      refine w_reg ?_
      refine Qv.step (u_p rfl rfl rfl) rfl rfl ?_
      refine Qv.step (u_p rfl rfl rfl) rfl rfl ?_
      refine o_nil ?_
      refine x_go ?_
      refine w_ift rfl ?_
      refine w_reg ?_
      refine Qv.step (u_p rfl rfl rfl) rfl rfl ?_
      refine Qv.step (u_p rfl rfl rfl) rfl rfl ?_
      refine Qv.step (u_p rfl rfl rfl) rfl rfl ?_
      refine o_str 2 (r := rER row) hrow' rfl rfl rfl rfl rfl rfl rfl rfl rfl rfl rfl ?_
      refine o_nil ?_
      refine x_go ?_
      refine w_seq ?_
      refine w_res 2 (rowR ve 44 13 ((t.es.modify i (eTurn 6 0 to)).map rER)) rfl (fun A w h => by
        have h' : (rowR ve 44 13 ((t.es.map rER).set i (rER ((eTurn 6 0 to) row)))).ok A w := h
        rw [set_modify hrow (eTurn 6 0 to)] at h'
        exact h') (fun _ h => h) ?_
      have hr2 : ((t.es.modify i (eTurn 6 0 to)).map rER)[i]? = some (rER ((eTurn 6 0 to) row)) := by rw [List.getElem?_map, List.getElem?_modify, hrow]; simp
      refine w_frcp 2 4 4 12 rfl rfl rfl rfl rfl (by simp; omega) ?_
      refine w_frc 1 4 3 rfl rfl rfl rfl ?_
      refine w_frc 3 4 5 rfl rfl rfl rfl ?_
      refine d_begin ?_
      refine d_q [] (by kernel_rfl) rfl (fun _ _ _ => .onk (L' := []) rfl (u_p rfl rfl rfl) rfl) ?_
      refine d_q [0] (by kernel_rfl) rfl (fun _ _ _ => .onk (L' := [(169, _)]) rfl (u_p rfl rfl rfl) rfl) ?_
      refine d_q (d := .agg [_, _, _, _, _, _, _, _, _, _, _, _, _]) [1] (by kernel_rfl) rfl (fun _ _ _ => .onk (L' := [(170, _)]) rfl (u_lde (r := rER ((eTurn 6 0 to) row)) hr2 rfl rfl rfl rfl rfl) rfl) ?_
      refine d_q (d := .agg [_, _, _, _, _, _, _, _, _, _, _, _, _]) [] (by kernel_rfl) rfl (fun _ _ _ => .onk (L' := []) rfl (u_ld 5 rfl rfl rfl rfl rfl rfl) rfl) ?_
      refine d_q [2, 3] (by kernel_rfl) rfl (fun _ _ _ => .onk (L' := [(171, _), (172, _)]) rfl (u_eq rfl rfl rfl rfl rfl rfl rfl rfl rfl rfl rfl rfl) rfl) ?_
      refine d_q [4] (by kernel_rfl) rfl (fun _ _ _ => .onk (L' := [(173, _)]) rfl (u_p rfl rfl rfl) rfl) ?_
      refine d_q (d := .gd _ _ (.agg [_, _, _, _, _, _])) [5] (by kernel_rfl) rfl (fun _ _ _ => .onk (L' := [(174, _)]) rfl (q_ld (G := [(_, false)]) 4 rfl rfl rfl rfl rfl rfl rfl) rfl) ?_
      refine d_q (d := .gd _ _ _) [5, 6] (by kernel_rfl) rfl (fun _ _ _ => .onk (L' := [(174, _), (175, _)]) rfl (q_call (G := [(_, false)]) (Check_ok (tTurn t 6 0 i to) hl1 (by simp [tTurn]; omega) (Nat.lt_trans hl3 (by decide)) (hTT _)) Try.call7 rfl rfl rfl rfl) rfl) ?_
      refine d_q (d := .gd _ _ _) [5, 7] (by kernel_rfl) rfl (fun _ _ _ => .onk (L' := [(174, _), (176, _)]) rfl (q_p (G := [(_, false)]) rfl rfl rfl rfl) rfl) ?_
      refine d_q (d := .v _) [5, 8] (by kernel_rfl) rfl (fun _ _ _ => .onk (L' := [(174, _), (177, _)]) rfl (u_pick rfl rfl rfl rfl rfl rfl rfl rfl rfl) rfl) ?_
      refine d_end (by kernel_rfl) (by kernel_rfl) (by kernel_rfl) (fun bs _ => so_as (L' := [(169, _), (170, _), (171, _), (172, _), (173, _), (174, _), (175, _), (176, _), (177, _), (178, _)]) (G' := []) rfl rfl ?_)
      refine Qv.step (u_p rfl rfl rfl) rfl rfl ?_
      refine o_nil ?_
      refine x_go ?_
      have fin : (bif eqER ((eTurn 6 0 to) row) row then true else (aCheck (tTurn t 6 0 i to) == 19)) = tTold t 6 0 i to := by
        rw [tTold_ne hrow (by decide)]
        cases eqER ((eTurn 6 0 to) row) row <;> rfl
      exact w_ret (x_rt rfl rfl (congrArg DV.b fin))
    · skip
      refine w_block ?_
      refine w_seq ?_
      refine w_reg ?_
      refine Qv.step (u_p rfl rfl rfl) rfl rfl ?_
      refine Qv.step (u_p rfl rfl rfl) rfl rfl ?_
      refine o_nil ?_
      refine x_go ?_
      refine w_iff rfl ?_
      refine w_seq ?_
      refine w_reg ?_
      refine Qv.step (u_p rfl rfl rfl) rfl rfl ?_
      refine Qv.step (u_p rfl rfl rfl) rfl rfl ?_
      refine o_nil ?_
      refine x_go ?_
      refine w_iff rfl ?_
      refine w_seq ?_
      refine w_reg ?_
      refine Qv.step (u_p rfl rfl rfl) rfl rfl ?_
      refine Qv.step (u_p rfl rfl rfl) rfl rfl ?_
      refine o_nil ?_
      refine x_go ?_
      refine w_iff rfl ?_
      refine w_seq ?_
      refine w_reg ?_
      refine Qv.step (u_p rfl rfl rfl) rfl rfl ?_
      refine Qv.step (u_p rfl rfl rfl) rfl rfl ?_
      refine o_nil ?_
      refine x_go ?_
      refine w_iff rfl ?_
      refine w_seq ?_
      refine w_reg ?_
      refine Qv.step (u_p rfl rfl rfl) rfl rfl ?_
      refine Qv.step (u_p rfl rfl rfl) rfl rfl ?_
      refine o_nil ?_
      refine x_go ?_
      refine w_iff rfl ?_
      refine w_seq ?_
      refine w_reg ?_
      refine Qv.step (u_p rfl rfl rfl) rfl rfl ?_
      refine Qv.step (u_p rfl rfl rfl) rfl rfl ?_
      refine o_nil ?_
      refine x_go ?_
      refine w_iff rfl ?_
      refine w_seq ?_
      refine w_reg ?_
      refine Qv.step (u_p rfl rfl rfl) rfl rfl ?_
      refine Qv.step (u_p rfl rfl rfl) rfl rfl ?_
      refine o_nil ?_
      refine x_go ?_
      refine w_iff rfl ?_
      refine w_seq ?_
      refine w_reg ?_
      refine Qv.step (u_p rfl rfl rfl) rfl rfl ?_
      refine Qv.step (u_p rfl rfl rfl) rfl rfl ?_
      refine o_nil ?_
      refine x_go ?_
      refine w_ift rfl ?_
      refine w_seq ?_
      refine w_reg ?_
      refine Qv.step (u_p rfl rfl rfl) rfl rfl ?_
      refine Qv.step (u_ld 4 rfl rfl rfl rfl rfl rfl) rfl rfl ?_
      refine Qv.step (u_p rfl rfl rfl) rfl rfl ?_
      refine Qv.step (u_ld 4 rfl rfl rfl rfl rfl rfl) rfl rfl ?_
      refine Qv.step (u_p rfl rfl rfl) rfl rfl ?_
      refine Qv.step (d := .agg [_, _]) (.as (u_bst rfl rfl rfl rfl rfl rfl rfl rfl) rfl) rfl rfl ?_
      refine Qv.step (q_bsl rfl rfl rfl rfl rfl rfl rfl rfl rfl rfl rfl) rfl rfl ?_
      refine o_app 3 (L := 2000000000) (rows2 := [[.i (IntKind.i64.wrap (t.lf + 1)), .i 0]]) (by simp; omega) rfl rfl rfl rfl rfl rfl rfl rfl rfl rfl rfl rfl rfl rfl (by simp [one1]) ?_; intro vf2
      refine Qv.step (u_p rfl rfl rfl) rfl rfl ?_
      refine o_st 4 rfl rfl rfl rfl rfl rfl rfl rfl rfl rfl (by first | rfl | kernel_rfl) ?_
      refine o_nil ?_
      refine x_go ?_
      refine w_seq ?_
      refine w_reg ?_
      refine Qv.step (u_p rfl rfl rfl) rfl rfl ?_
      refine Qv.step (u_ld 4 rfl rfl rfl rfl rfl rfl) rfl rfl ?_
      refine Qv.step (u_p rfl rfl rfl) rfl rfl ?_
      refine Qv.step (u_p rfl rfl rfl) rfl rfl ?_
      refine o_st 4 rfl rfl rfl rfl rfl rfl rfl rfl rfl rfl (by first | rfl | kernel_rfl) ?_
      refine o_nil ?_
      refine x_go ?_
      refine w_res 3 (rowR vf2 46 2 ((tMore t).fs.map rF)) rfl (fun A w h => by
        have h' : (rowR vf2 46 2 (t.fs.map rF ++ [[.i (IntKind.i64.wrap (t.lf + 1)), .i 0]])).ok A w := h
        rw [hlf] at h'
        simpa [tMore] using h') (fun _ h => h) ?_
      refine w_res 4 (cellsR b4 32 [.i t.lv, .i t.le, .i (t.lf + 1), .os va, .os ve, .os vf2]) rfl (fun A w h => by
        have h' : (cellsR b4 32 [.i t.lv, .i t.le, .i (IntKind.i64.wrap (t.lf + 1)), .os va, .os ve, .os vf2]).ok A w := h
        rw [hlf] at h'
        exact h') (fun _ h => h) ?_
      refine w_frc 1 4 3 rfl rfl rfl rfl ?_
      refine w_frc 2 4 4 rfl rfl rfl rfl ?_
      refine w_frc 3 4 5 rfl rfl rfl rfl ?_
      refine w_seq ?_
      refine w_reg ?_
      refine Qv.step (d := .agg [_, _, _, _, _, _]) (.as (u_ld 4 rfl rfl rfl rfl rfl rfl) rfl) rfl rfl ?_
      refine Qv.step (u_call (Check_ok (tMore t) hl1 hl2 (by simp [tMore]; omega) (hTT _)) Try.call7 rfl rfl rfl) rfl rfl ?_
      refine Qv.step (u_p rfl rfl rfl) rfl rfl ?_
      refine Qv.step (u_p rfl rfl rfl) rfl rfl ?_
      refine o_nil ?_
      refine x_go ?_
      exact w_ret (x_rt rfl rfl (congrArg DV.b (tTold_7 (k := 0) (to := to) hrow).symm))
  · rcases hm2 with rfl | rfl | rfl | rfl | rfl | rfl | rfl | rfl
    · skip
      refine w_block ?_
      refine w_seq ?_
      refine w_reg ?_
      refine Qv.step (u_p rfl rfl rfl) rfl rfl ?_
      refine Qv.step (u_p rfl rfl rfl) rfl rfl ?_
      refine o_nil ?_
      refine x_go ?_
      refine w_ift rfl ?_
      refine w_reg ?_
      refine Qv.step (u_p rfl rfl rfl) rfl rfl ?_
      refine Qv.step (u_p rfl rfl rfl) rfl rfl ?_
      refine Qv.step (u_p rfl rfl rfl) rfl rfl ?_
      refine Qv.step (u_p rfl rfl rfl) rfl rfl ?_
      refine Qv.step (u_p rfl rfl rfl) rfl rfl ?_
      refine Qv.step (u_ixra rfl rfl rfl rfl rfl rfl rfl (by decide) (by decide)) rfl rfl ?_
      refine Qv.step (u_p rfl rfl rfl) rfl rfl ?_
      refine o_str 2 (r := rER row) hrow' rfl rfl rfl rfl rfl rfl rfl rfl rfl rfl rfl ?_
      refine o_nil ?_
      refine x_go ?_
      refine w_seq ?_
      refine w_res 2 (rowR ve 44 13 ((t.es.modify i (eTurn 0 1 to)).map rER)) rfl (fun A w h => by
        have h' : (rowR ve 44 13 ((t.es.map rER).set i (rER ((eTurn 0 1 to) row)))).ok A w := h
        rw [set_modify hrow (eTurn 0 1 to)] at h'
        exact h') (fun _ h => h) ?_
      have hr2 : ((t.es.modify i (eTurn 0 1 to)).map rER)[i]? = some (rER ((eTurn 0 1 to) row)) := by rw [List.getElem?_map, List.getElem?_modify, hrow]; simp
      refine w_frcp 2 4 4 12 rfl rfl rfl rfl rfl (by simp; omega) ?_
      refine w_frc 1 4 3 rfl rfl rfl rfl ?_
      refine w_frc 3 4 5 rfl rfl rfl rfl ?_
      refine d_begin ?_
      refine d_q [] (by kernel_rfl) rfl (fun _ _ _ => .onk (L' := []) rfl (u_p rfl rfl rfl) rfl) ?_
      refine d_q [0] (by kernel_rfl) rfl (fun _ _ _ => .onk (L' := [(169, _)]) rfl (u_p rfl rfl rfl) rfl) ?_
      refine d_q (d := .agg [_, _, _, _, _, _, _, _, _, _, _, _, _]) [1] (by kernel_rfl) rfl (fun _ _ _ => .onk (L' := [(170, _)]) rfl (u_lde (r := rER ((eTurn 0 1 to) row)) hr2 rfl rfl rfl rfl rfl) rfl) ?_
      refine d_q (d := .agg [_, _, _, _, _, _, _, _, _, _, _, _, _]) [] (by kernel_rfl) rfl (fun _ _ _ => .onk (L' := []) rfl (u_ld 5 rfl rfl rfl rfl rfl rfl) rfl) ?_
      refine d_q [2, 3] (by kernel_rfl) rfl (fun _ _ _ => .onk (L' := [(171, _), (172, _)]) rfl (u_eq rfl rfl rfl rfl rfl rfl rfl rfl rfl rfl rfl rfl) rfl) ?_
      refine d_q [4] (by kernel_rfl) rfl (fun _ _ _ => .onk (L' := [(173, _)]) rfl (u_p rfl rfl rfl) rfl) ?_
      refine d_q (d := .gd _ _ (.agg [_, _, _, _, _, _])) [5] (by kernel_rfl) rfl (fun _ _ _ => .onk (L' := [(174, _)]) rfl (q_ld (G := [(_, false)]) 4 rfl rfl rfl rfl rfl rfl rfl) rfl) ?_
      refine d_q (d := .gd _ _ _) [5, 6] (by kernel_rfl) rfl (fun _ _ _ => .onk (L' := [(174, _), (175, _)]) rfl (q_call (G := [(_, false)]) (Check_ok (tTurn t 0 1 i to) hl1 (by simp [tTurn]; omega) (Nat.lt_trans hl3 (by decide)) (hTT _)) Try.call7 rfl rfl rfl rfl) rfl) ?_
      refine d_q (d := .gd _ _ _) [5, 7] (by kernel_rfl) rfl (fun _ _ _ => .onk (L' := [(174, _), (176, _)]) rfl (q_p (G := [(_, false)]) rfl rfl rfl rfl) rfl) ?_
      refine d_q (d := .v _) [5, 8] (by kernel_rfl) rfl (fun _ _ _ => .onk (L' := [(174, _), (177, _)]) rfl (u_pick rfl rfl rfl rfl rfl rfl rfl rfl rfl) rfl) ?_
      refine d_end (by kernel_rfl) (by kernel_rfl) (by kernel_rfl) (fun bs _ => so_as (L' := [(169, _), (170, _), (171, _), (172, _), (173, _), (174, _), (175, _), (176, _), (177, _), (178, _)]) (G' := []) rfl rfl ?_)
      refine Qv.step (u_p rfl rfl rfl) rfl rfl ?_
      refine o_nil ?_
      refine x_go ?_
      have fin : (bif eqER ((eTurn 0 1 to) row) row then true else (aCheck (tTurn t 0 1 i to) == 19)) = tTold t 0 1 i to := by
        rw [tTold_ne hrow (by decide)]
        cases eqER ((eTurn 0 1 to) row) row <;> rfl
      exact w_ret (x_rt rfl rfl (congrArg DV.b fin))
    · skip
      refine w_block ?_
      refine w_seq ?_
      refine w_reg ?_
      refine Qv.step (u_p rfl rfl rfl) rfl rfl ?_
      refine Qv.step (u_p rfl rfl rfl) rfl rfl ?_
      refine o_nil ?_
      refine x_go ?_
      refine w_iff rfl ?_
      refine w_seq ?_
      refine w_reg ?_
      refine Qv.step (u_p rfl rfl rfl) rfl rfl ?_
      refine Qv.step (u_p rfl rfl rfl) rfl rfl ?_
      refine o_nil ?_
      refine x_go ?_
      refine w_ift rfl ?_
      refine w_reg ?_
      refine Qv.step (u_p rfl rfl rfl) rfl rfl ?_
      refine Qv.step (u_p rfl rfl rfl) rfl rfl ?_
      refine Qv.step (u_p rfl rfl rfl) rfl rfl ?_
      refine Qv.step (u_p rfl rfl rfl) rfl rfl ?_
      refine Qv.step (u_p rfl rfl rfl) rfl rfl ?_
      refine Qv.step (u_ixra rfl rfl rfl rfl rfl rfl rfl (by decide) (by decide)) rfl rfl ?_
      refine Qv.step (u_p rfl rfl rfl) rfl rfl ?_
      refine o_str 2 (r := rER row) hrow' rfl rfl rfl rfl rfl rfl rfl rfl rfl rfl rfl ?_
      refine o_nil ?_
      refine x_go ?_
      refine w_seq ?_
      refine w_res 2 (rowR ve 44 13 ((t.es.modify i (eTurn 1 1 to)).map rER)) rfl (fun A w h => by
        have h' : (rowR ve 44 13 ((t.es.map rER).set i (rER ((eTurn 1 1 to) row)))).ok A w := h
        rw [set_modify hrow (eTurn 1 1 to)] at h'
        exact h') (fun _ h => h) ?_
      have hr2 : ((t.es.modify i (eTurn 1 1 to)).map rER)[i]? = some (rER ((eTurn 1 1 to) row)) := by rw [List.getElem?_map, List.getElem?_modify, hrow]; simp
      refine w_frcp 2 4 4 12 rfl rfl rfl rfl rfl (by simp; omega) ?_
      refine w_frc 1 4 3 rfl rfl rfl rfl ?_
      refine w_frc 3 4 5 rfl rfl rfl rfl ?_
      refine d_begin ?_
      refine d_q [] (by kernel_rfl) rfl (fun _ _ _ => .onk (L' := []) rfl (u_p rfl rfl rfl) rfl) ?_
      refine d_q [0] (by kernel_rfl) rfl (fun _ _ _ => .onk (L' := [(169, _)]) rfl (u_p rfl rfl rfl) rfl) ?_
      refine d_q (d := .agg [_, _, _, _, _, _, _, _, _, _, _, _, _]) [1] (by kernel_rfl) rfl (fun _ _ _ => .onk (L' := [(170, _)]) rfl (u_lde (r := rER ((eTurn 1 1 to) row)) hr2 rfl rfl rfl rfl rfl) rfl) ?_
      refine d_q (d := .agg [_, _, _, _, _, _, _, _, _, _, _, _, _]) [] (by kernel_rfl) rfl (fun _ _ _ => .onk (L' := []) rfl (u_ld 5 rfl rfl rfl rfl rfl rfl) rfl) ?_
      refine d_q [2, 3] (by kernel_rfl) rfl (fun _ _ _ => .onk (L' := [(171, _), (172, _)]) rfl (u_eq rfl rfl rfl rfl rfl rfl rfl rfl rfl rfl rfl rfl) rfl) ?_
      refine d_q [4] (by kernel_rfl) rfl (fun _ _ _ => .onk (L' := [(173, _)]) rfl (u_p rfl rfl rfl) rfl) ?_
      refine d_q (d := .gd _ _ (.agg [_, _, _, _, _, _])) [5] (by kernel_rfl) rfl (fun _ _ _ => .onk (L' := [(174, _)]) rfl (q_ld (G := [(_, false)]) 4 rfl rfl rfl rfl rfl rfl rfl) rfl) ?_
      refine d_q (d := .gd _ _ _) [5, 6] (by kernel_rfl) rfl (fun _ _ _ => .onk (L' := [(174, _), (175, _)]) rfl (q_call (G := [(_, false)]) (Check_ok (tTurn t 1 1 i to) hl1 (by simp [tTurn]; omega) (Nat.lt_trans hl3 (by decide)) (hTT _)) Try.call7 rfl rfl rfl rfl) rfl) ?_
      refine d_q (d := .gd _ _ _) [5, 7] (by kernel_rfl) rfl (fun _ _ _ => .onk (L' := [(174, _), (176, _)]) rfl (q_p (G := [(_, false)]) rfl rfl rfl rfl) rfl) ?_
      refine d_q (d := .v _) [5, 8] (by kernel_rfl) rfl (fun _ _ _ => .onk (L' := [(174, _), (177, _)]) rfl (u_pick rfl rfl rfl rfl rfl rfl rfl rfl rfl) rfl) ?_
      refine d_end (by kernel_rfl) (by kernel_rfl) (by kernel_rfl) (fun bs _ => so_as (L' := [(169, _), (170, _), (171, _), (172, _), (173, _), (174, _), (175, _), (176, _), (177, _), (178, _)]) (G' := []) rfl rfl ?_)
      refine Qv.step (u_p rfl rfl rfl) rfl rfl ?_
      refine o_nil ?_
      refine x_go ?_
      have fin : (bif eqER ((eTurn 1 1 to) row) row then true else (aCheck (tTurn t 1 1 i to) == 19)) = tTold t 1 1 i to := by
        rw [tTold_ne hrow (by decide)]
        cases eqER ((eTurn 1 1 to) row) row <;> rfl
      exact w_ret (x_rt rfl rfl (congrArg DV.b fin))
    · skip
      refine w_block ?_
      refine w_seq ?_
      refine w_reg ?_
      refine Qv.step (u_p rfl rfl rfl) rfl rfl ?_
      refine Qv.step (u_p rfl rfl rfl) rfl rfl ?_
      refine o_nil ?_
      refine x_go ?_
      refine w_iff rfl ?_
      refine w_seq ?_
      refine w_reg ?_
      refine Qv.step (u_p rfl rfl rfl) rfl rfl ?_
      refine Qv.step (u_p rfl rfl rfl) rfl rfl ?_
      refine o_nil ?_
      refine x_go ?_
      refine w_iff rfl ?_
      refine w_seq ?_
      refine w_reg ?_
      refine Qv.step (u_p rfl rfl rfl) rfl rfl ?_
      refine Qv.step (u_p rfl rfl rfl) rfl rfl ?_
      refine o_nil ?_
      refine x_go ?_
      refine w_ift rfl ?_
      refine d_begin ?_
      refine d_q [] (by kernel_rfl) rfl (fun _ _ _ => .onk (L' := []) rfl (u_p rfl rfl rfl) rfl) ?_
      refine d_q [] (by kernel_rfl) rfl (fun _ _ _ => .onk (L' := []) rfl (u_p rfl rfl rfl) rfl) ?_
      refine d_q [] (by kernel_rfl) rfl (fun _ _ _ => .onk (L' := []) rfl (u_p rfl rfl rfl) rfl) ?_
      refine d_q [] (by kernel_rfl) rfl (fun _ _ _ => .onk (L' := []) rfl (u_p rfl rfl rfl) rfl) ?_
      refine d_q [2] (by kernel_rfl) rfl (fun _ _ _ => .onk (L' := [(101, _)]) rfl (u_p rfl rfl rfl) rfl) ?_
      refine d_q [4] (by kernel_rfl) rfl (fun _ _ _ => .onk (L' := [(103, _)]) rfl (u_p rfl rfl rfl) rfl) ?_
      refine d_q [3, 5] (by kernel_rfl) rfl (fun _ _ _ => .onk (L' := [(102, _), (104, _)]) rfl (u_ixra rfl rfl rfl rfl rfl rfl rfl (by decide) (by decide)) rfl) ?_
      refine d_q [6] (by kernel_rfl) rfl (fun _ _ _ => .onk (L' := [(105, _)]) rfl (u_p rfl rfl rfl) rfl) ?_
      refine d_q [7] (by kernel_rfl) rfl (fun _ _ _ => .onk (L' := [(106, _)]) rfl (u_ldr 2 hrow' rfl rfl rfl rfl rfl rfl) rfl) ?_
      refine d_q [8] (by kernel_rfl) rfl (fun _ _ _ => .onk (L' := [(107, _)]) rfl (u_p rfl rfl rfl) rfl) ?_
      refine d_q [0] (by kernel_rfl) rfl (fun _ _ _ => .onk (L' := [(99, _)]) rfl (u_p rfl rfl rfl) rfl) ?_
      refine d_q [10] (by kernel_rfl) rfl (fun _ _ _ => .onk (L' := [(109, _)]) rfl (u_p rfl rfl rfl) rfl) ?_
      refine d_q [1, 11] (by kernel_rfl) rfl (fun _ _ _ => .onk (L' := [(100, _), (110, _)]) rfl (u_ixra rfl rfl rfl rfl rfl rfl rfl (by decide) (by decide)) rfl) ?_
      refine d_q [12] (by kernel_rfl) rfl (fun _ _ _ => .onk (L' := [(111, _)]) rfl (u_p rfl rfl rfl) rfl) ?_
      refine d_end (by kernel_rfl) (by kernel_rfl) (by kernel_rfl) (fun bs _ => so_as (L' := [(99, _), (100, _), (101, _), (102, _), (103, _), (104, _), (105, _), (106, _), (107, _), (108, _), (109, _), (110, _), (111, _), (112, _)]) (G' := []) rfl rfl ?_)
      refine o_str 2 (r := rER row) hrow' rfl rfl rfl rfl rfl rfl rfl rfl rfl rfl rfl ?_
      refine o_nil ?_
      refine x_go ?_
      refine w_res 2 (rowR ve 44 13 ((t.es.modify i (eTurn 2 1 to)).map rER)) rfl (fun A w h => by
        have h' : (rowR ve 44 13 ((t.es.map rER).set i (rER ((eTurn 2 1 to) row)))).ok A w := h
        rw [set_modify hrow (eTurn 2 1 to)] at h'
        exact h') (fun _ h => h) ?_
      have hr2 : ((t.es.modify i (eTurn 2 1 to)).map rER)[i]? = some (rER ((eTurn 2 1 to) row)) := by rw [List.getElem?_map, List.getElem?_modify, hrow]; simp
      refine w_frcp 2 4 4 12 rfl rfl rfl rfl rfl (by simp; omega) ?_
      refine w_frc 1 4 3 rfl rfl rfl rfl ?_
      refine w_frc 3 4 5 rfl rfl rfl rfl ?_
      refine w_seq ?_
      refine d_begin ?_
      refine d_q [] (by kernel_rfl) rfl (fun _ _ _ => .onk (L' := []) rfl (u_p rfl rfl rfl) rfl) ?_
      refine d_q [0] (by kernel_rfl) rfl (fun _ _ _ => .onk (L' := [(169, _)]) rfl (u_p rfl rfl rfl) rfl) ?_
      refine d_q (d := .agg [_, _, _, _, _, _, _, _, _, _, _, _, _]) [1] (by kernel_rfl) rfl (fun _ _ _ => .onk (L' := [(170, _)]) rfl (u_lde (r := rER ((eTurn 2 1 to) row)) hr2 rfl rfl rfl rfl rfl) rfl) ?_
      refine d_q (d := .agg [_, _, _, _, _, _, _, _, _, _, _, _, _]) [] (by kernel_rfl) rfl (fun _ _ _ => .onk (L' := []) rfl (u_ld 5 rfl rfl rfl rfl rfl rfl) rfl) ?_
      refine d_q [2, 3] (by kernel_rfl) rfl (fun _ _ _ => .onk (L' := [(171, _), (172, _)]) rfl (u_eq rfl rfl rfl rfl rfl rfl rfl rfl rfl rfl rfl rfl) rfl) ?_
      refine d_q [4] (by kernel_rfl) rfl (fun _ _ _ => .onk (L' := [(173, _)]) rfl (u_p rfl rfl rfl) rfl) ?_
      refine d_q (d := .gd _ _ (.agg [_, _, _, _, _, _])) [5] (by kernel_rfl) rfl (fun _ _ _ => .onk (L' := [(174, _)]) rfl (q_ld (G := [(_, false)]) 4 rfl rfl rfl rfl rfl rfl rfl) rfl) ?_
      refine d_q (d := .gd _ _ _) [5, 6] (by kernel_rfl) rfl (fun _ _ _ => .onk (L' := [(174, _), (175, _)]) rfl (q_call (G := [(_, false)]) (Check_ok (tTurn t 2 1 i to) hl1 (by simp [tTurn]; omega) (Nat.lt_trans hl3 (by decide)) (hTT _)) Try.call7 rfl rfl rfl rfl) rfl) ?_
      refine d_q (d := .gd _ _ _) [5, 7] (by kernel_rfl) rfl (fun _ _ _ => .onk (L' := [(174, _), (176, _)]) rfl (q_p (G := [(_, false)]) rfl rfl rfl rfl) rfl) ?_
      refine d_q (d := .v _) [5, 8] (by kernel_rfl) rfl (fun _ _ _ => .onk (L' := [(174, _), (177, _)]) rfl (u_pick rfl rfl rfl rfl rfl rfl rfl rfl rfl) rfl) ?_
      refine d_end (by kernel_rfl) (by kernel_rfl) (by kernel_rfl) (fun bs _ => so_as (L' := [(169, _), (170, _), (171, _), (172, _), (173, _), (174, _), (175, _), (176, _), (177, _), (178, _)]) (G' := []) rfl rfl ?_)
      refine Qv.step (u_p rfl rfl rfl) rfl rfl ?_
      refine o_nil ?_
      refine x_go ?_
      have fin : (bif eqER ((eTurn 2 1 to) row) row then true else (aCheck (tTurn t 2 1 i to) == 19)) = tTold t 2 1 i to := by
        rw [tTold_ne hrow (by decide)]
        cases eqER ((eTurn 2 1 to) row) row <;> rfl
      exact w_ret (x_rt rfl rfl (congrArg DV.b fin))
    · skip
      refine w_block ?_
      refine w_seq ?_
      refine w_reg ?_
      refine Qv.step (u_p rfl rfl rfl) rfl rfl ?_
      refine Qv.step (u_p rfl rfl rfl) rfl rfl ?_
      refine o_nil ?_
      refine x_go ?_
      refine w_iff rfl ?_
      refine w_seq ?_
      refine w_reg ?_
      refine Qv.step (u_p rfl rfl rfl) rfl rfl ?_
      refine Qv.step (u_p rfl rfl rfl) rfl rfl ?_
      refine o_nil ?_
      refine x_go ?_
      refine w_iff rfl ?_
      refine w_seq ?_
      refine w_reg ?_
      refine Qv.step (u_p rfl rfl rfl) rfl rfl ?_
      refine Qv.step (u_p rfl rfl rfl) rfl rfl ?_
      refine o_nil ?_
      refine x_go ?_
      refine w_iff rfl ?_
      refine w_seq ?_
      refine w_reg ?_
      refine Qv.step (u_p rfl rfl rfl) rfl rfl ?_
      refine Qv.step (u_p rfl rfl rfl) rfl rfl ?_
      refine o_nil ?_
      refine x_go ?_
      refine w_ift rfl ?_
      refine d_begin ?_
      refine d_q [] (by kernel_rfl) rfl (fun _ _ _ => .onk (L' := []) rfl (u_p rfl rfl rfl) rfl) ?_
      refine d_q [] (by kernel_rfl) rfl (fun _ _ _ => .onk (L' := []) rfl (u_p rfl rfl rfl) rfl) ?_
      refine d_q [] (by kernel_rfl) rfl (fun _ _ _ => .onk (L' := []) rfl (u_p rfl rfl rfl) rfl) ?_
      refine d_q [] (by kernel_rfl) rfl (fun _ _ _ => .onk (L' := []) rfl (u_p rfl rfl rfl) rfl) ?_
      refine d_q [2] (by kernel_rfl) rfl (fun _ _ _ => .onk (L' := [(117, _)]) rfl (u_p rfl rfl rfl) rfl) ?_
      refine d_q [4] (by kernel_rfl) rfl (fun _ _ _ => .onk (L' := [(119, _)]) rfl (u_p rfl rfl rfl) rfl) ?_
      refine d_q [3, 5] (by kernel_rfl) rfl (fun _ _ _ => .onk (L' := [(118, _), (120, _)]) rfl (u_ixra rfl rfl rfl rfl rfl rfl rfl (by decide) (by decide)) rfl) ?_
      refine d_q [6] (by kernel_rfl) rfl (fun _ _ _ => .onk (L' := [(121, _)]) rfl (u_p rfl rfl rfl) rfl) ?_
      refine d_q [7] (by kernel_rfl) rfl (fun _ _ _ => .onk (L' := [(122, _)]) rfl (u_ldr 2 hrow' rfl rfl rfl rfl rfl rfl) rfl) ?_
      refine d_q [8] (by kernel_rfl) rfl (fun _ _ _ => .onk (L' := [(123, _)]) rfl (u_p rfl rfl rfl) rfl) ?_
      refine d_q [0] (by kernel_rfl) rfl (fun _ _ _ => .onk (L' := [(115, _)]) rfl (u_p rfl rfl rfl) rfl) ?_
      refine d_q [10] (by kernel_rfl) rfl (fun _ _ _ => .onk (L' := [(125, _)]) rfl (u_p rfl rfl rfl) rfl) ?_
      refine d_q [1, 11] (by kernel_rfl) rfl (fun _ _ _ => .onk (L' := [(116, _), (126, _)]) rfl (u_ixra rfl rfl rfl rfl rfl rfl rfl (by decide) (by decide)) rfl) ?_
      refine d_q [12] (by kernel_rfl) rfl (fun _ _ _ => .onk (L' := [(127, _)]) rfl (u_p rfl rfl rfl) rfl) ?_
      refine d_end (by kernel_rfl) (by kernel_rfl) (by kernel_rfl) (fun bs _ => so_as (L' := [(115, _), (116, _), (117, _), (118, _), (119, _), (120, _), (121, _), (122, _), (123, _), (124, _), (125, _), (126, _), (127, _), (128, _)]) (G' := []) rfl rfl ?_)
      refine o_str 2 (r := rER row) hrow' rfl rfl rfl rfl rfl rfl rfl rfl rfl rfl rfl ?_
      refine o_nil ?_
      refine x_go ?_
      refine w_res 2 (rowR ve 44 13 ((t.es.modify i (eTurn 3 1 to)).map rER)) rfl (fun A w h => by
        have h' : (rowR ve 44 13 ((t.es.map rER).set i (rER ((eTurn 3 1 to) row)))).ok A w := h
        rw [set_modify hrow (eTurn 3 1 to)] at h'
        exact h') (fun _ h => h) ?_
      have hr2 : ((t.es.modify i (eTurn 3 1 to)).map rER)[i]? = some (rER ((eTurn 3 1 to) row)) := by rw [List.getElem?_map, List.getElem?_modify, hrow]; simp
      refine w_frcp 2 4 4 12 rfl rfl rfl rfl rfl (by simp; omega) ?_
      refine w_frc 1 4 3 rfl rfl rfl rfl ?_
      refine w_frc 3 4 5 rfl rfl rfl rfl ?_
      refine w_seq ?_
      refine d_begin ?_
      refine d_q [] (by kernel_rfl) rfl (fun _ _ _ => .onk (L' := []) rfl (u_p rfl rfl rfl) rfl) ?_
      refine d_q [0] (by kernel_rfl) rfl (fun _ _ _ => .onk (L' := [(169, _)]) rfl (u_p rfl rfl rfl) rfl) ?_
      refine d_q (d := .agg [_, _, _, _, _, _, _, _, _, _, _, _, _]) [1] (by kernel_rfl) rfl (fun _ _ _ => .onk (L' := [(170, _)]) rfl (u_lde (r := rER ((eTurn 3 1 to) row)) hr2 rfl rfl rfl rfl rfl) rfl) ?_
      refine d_q (d := .agg [_, _, _, _, _, _, _, _, _, _, _, _, _]) [] (by kernel_rfl) rfl (fun _ _ _ => .onk (L' := []) rfl (u_ld 5 rfl rfl rfl rfl rfl rfl) rfl) ?_
      refine d_q [2, 3] (by kernel_rfl) rfl (fun _ _ _ => .onk (L' := [(171, _), (172, _)]) rfl (u_eq rfl rfl rfl rfl rfl rfl rfl rfl rfl rfl rfl rfl) rfl) ?_
      refine d_q [4] (by kernel_rfl) rfl (fun _ _ _ => .onk (L' := [(173, _)]) rfl (u_p rfl rfl rfl) rfl) ?_
      refine d_q (d := .gd _ _ (.agg [_, _, _, _, _, _])) [5] (by kernel_rfl) rfl (fun _ _ _ => .onk (L' := [(174, _)]) rfl (q_ld (G := [(_, false)]) 4 rfl rfl rfl rfl rfl rfl rfl) rfl) ?_
      refine d_q (d := .gd _ _ _) [5, 6] (by kernel_rfl) rfl (fun _ _ _ => .onk (L' := [(174, _), (175, _)]) rfl (q_call (G := [(_, false)]) (Check_ok (tTurn t 3 1 i to) hl1 (by simp [tTurn]; omega) (Nat.lt_trans hl3 (by decide)) (hTT _)) Try.call7 rfl rfl rfl rfl) rfl) ?_
      refine d_q (d := .gd _ _ _) [5, 7] (by kernel_rfl) rfl (fun _ _ _ => .onk (L' := [(174, _), (176, _)]) rfl (q_p (G := [(_, false)]) rfl rfl rfl rfl) rfl) ?_
      refine d_q (d := .v _) [5, 8] (by kernel_rfl) rfl (fun _ _ _ => .onk (L' := [(174, _), (177, _)]) rfl (u_pick rfl rfl rfl rfl rfl rfl rfl rfl rfl) rfl) ?_
      refine d_end (by kernel_rfl) (by kernel_rfl) (by kernel_rfl) (fun bs _ => so_as (L' := [(169, _), (170, _), (171, _), (172, _), (173, _), (174, _), (175, _), (176, _), (177, _), (178, _)]) (G' := []) rfl rfl ?_)
      refine Qv.step (u_p rfl rfl rfl) rfl rfl ?_
      refine o_nil ?_
      refine x_go ?_
      have fin : (bif eqER ((eTurn 3 1 to) row) row then true else (aCheck (tTurn t 3 1 i to) == 19)) = tTold t 3 1 i to := by
        rw [tTold_ne hrow (by decide)]
        cases eqER ((eTurn 3 1 to) row) row <;> rfl
      exact w_ret (x_rt rfl rfl (congrArg DV.b fin))
    · skip
      refine w_block ?_
      refine w_seq ?_
      refine w_reg ?_
      refine Qv.step (u_p rfl rfl rfl) rfl rfl ?_
      refine Qv.step (u_p rfl rfl rfl) rfl rfl ?_
      refine o_nil ?_
      refine x_go ?_
      refine w_iff rfl ?_
      refine w_seq ?_
      refine w_reg ?_
      refine Qv.step (u_p rfl rfl rfl) rfl rfl ?_
      refine Qv.step (u_p rfl rfl rfl) rfl rfl ?_
      refine o_nil ?_
      refine x_go ?_
      refine w_iff rfl ?_
      refine w_seq ?_
      refine w_reg ?_
      refine Qv.step (u_p rfl rfl rfl) rfl rfl ?_
      refine Qv.step (u_p rfl rfl rfl) rfl rfl ?_
      refine o_nil ?_
      refine x_go ?_
      refine w_iff rfl ?_
      refine w_seq ?_
      refine w_reg ?_
      refine Qv.step (u_p rfl rfl rfl) rfl rfl ?_
      refine Qv.step (u_p rfl rfl rfl) rfl rfl ?_
      refine o_nil ?_
      refine x_go ?_
      refine w_iff rfl ?_
      refine w_seq ?_
      refine w_reg ?_
      refine Qv.step (u_p rfl rfl rfl) rfl rfl ?_
      refine Qv.step (u_p rfl rfl rfl) rfl rfl ?_
      refine o_nil ?_
      refine x_go ?_
      refine w_ift rfl ?_
      refine w_reg ?_
      refine Qv.step (u_p rfl rfl rfl) rfl rfl ?_
      refine Qv.step (u_p rfl rfl rfl) rfl rfl ?_
      refine Qv.step (u_p rfl rfl rfl) rfl rfl ?_
      refine Qv.step (u_p rfl rfl rfl) rfl rfl ?_
      refine Qv.step (u_p rfl rfl rfl) rfl rfl ?_
      refine Qv.step (u_ixra rfl rfl rfl rfl rfl rfl rfl (by decide) (by decide)) rfl rfl ?_
      refine o_str 2 (r := rER row) hrow' rfl rfl rfl rfl rfl rfl rfl rfl rfl rfl rfl ?_
      refine o_nil ?_
      refine x_go ?_
      refine w_seq ?_
      refine w_res 2 (rowR ve 44 13 ((t.es.modify i (eTurn 4 1 to)).map rER)) rfl (fun A w h => by
        have h' : (rowR ve 44 13 ((t.es.map rER).set i (rER ((eTurn 4 1 to) row)))).ok A w := h
        rw [set_modify hrow (eTurn 4 1 to)] at h'
        exact h') (fun _ h => h) ?_
      have hr2 : ((t.es.modify i (eTurn 4 1 to)).map rER)[i]? = some (rER ((eTurn 4 1 to) row)) := by rw [List.getElem?_map, List.getElem?_modify, hrow]; simp
      refine w_frcp 2 4 4 12 rfl rfl rfl rfl rfl (by simp; omega) ?_
      refine w_frc 1 4 3 rfl rfl rfl rfl ?_
      refine w_frc 3 4 5 rfl rfl rfl rfl ?_
      refine d_begin ?_
      refine d_q [] (by kernel_rfl) rfl (fun _ _ _ => .onk (L' := []) rfl (u_p rfl rfl rfl) rfl) ?_
      refine d_q [0] (by kernel_rfl) rfl (fun _ _ _ => .onk (L' := [(169, _)]) rfl (u_p rfl rfl rfl) rfl) ?_
      refine d_q (d := .agg [_, _, _, _, _, _, _, _, _, _, _, _, _]) [1] (by kernel_rfl) rfl (fun _ _ _ => .onk (L' := [(170, _)]) rfl (u_lde (r := rER ((eTurn 4 1 to) row)) hr2 rfl rfl rfl rfl rfl) rfl) ?_
      refine d_q (d := .agg [_, _, _, _, _, _, _, _, _, _, _, _, _]) [] (by kernel_rfl) rfl (fun _ _ _ => .onk (L' := []) rfl (u_ld 5 rfl rfl rfl rfl rfl rfl) rfl) ?_
      refine d_q [2, 3] (by kernel_rfl) rfl (fun _ _ _ => .onk (L' := [(171, _), (172, _)]) rfl (u_eq rfl rfl rfl rfl rfl rfl rfl rfl rfl rfl rfl rfl) rfl) ?_
      refine d_q [4] (by kernel_rfl) rfl (fun _ _ _ => .onk (L' := [(173, _)]) rfl (u_p rfl rfl rfl) rfl) ?_
      refine d_q (d := .gd _ _ (.agg [_, _, _, _, _, _])) [5] (by kernel_rfl) rfl (fun _ _ _ => .onk (L' := [(174, _)]) rfl (q_ld (G := [(_, false)]) 4 rfl rfl rfl rfl rfl rfl rfl) rfl) ?_
      refine d_q (d := .gd _ _ _) [5, 6] (by kernel_rfl) rfl (fun _ _ _ => .onk (L' := [(174, _), (175, _)]) rfl (q_call (G := [(_, false)]) (Check_ok (tTurn t 4 1 i to) hl1 (by simp [tTurn]; omega) (Nat.lt_trans hl3 (by decide)) (hTT _)) Try.call7 rfl rfl rfl rfl) rfl) ?_
      refine d_q (d := .gd _ _ _) [5, 7] (by kernel_rfl) rfl (fun _ _ _ => .onk (L' := [(174, _), (176, _)]) rfl (q_p (G := [(_, false)]) rfl rfl rfl rfl) rfl) ?_
      refine d_q (d := .v _) [5, 8] (by kernel_rfl) rfl (fun _ _ _ => .onk (L' := [(174, _), (177, _)]) rfl (u_pick rfl rfl rfl rfl rfl rfl rfl rfl rfl) rfl) ?_
      refine d_end (by kernel_rfl) (by kernel_rfl) (by kernel_rfl) (fun bs _ => so_as (L' := [(169, _), (170, _), (171, _), (172, _), (173, _), (174, _), (175, _), (176, _), (177, _), (178, _)]) (G' := []) rfl rfl ?_)
      refine Qv.step (u_p rfl rfl rfl) rfl rfl ?_
      refine o_nil ?_
      refine x_go ?_
      have fin : (bif eqER ((eTurn 4 1 to) row) row then true else (aCheck (tTurn t 4 1 i to) == 19)) = tTold t 4 1 i to := by
        rw [tTold_ne hrow (by decide)]
        cases eqER ((eTurn 4 1 to) row) row <;> rfl
      exact w_ret (x_rt rfl rfl (congrArg DV.b fin))
    · skip
      refine w_block ?_
      refine w_seq ?_
      refine w_reg ?_
      refine Qv.step (u_p rfl rfl rfl) rfl rfl ?_
      refine Qv.step (u_p rfl rfl rfl) rfl rfl ?_
      refine o_nil ?_
      refine x_go ?_
      refine w_iff rfl ?_
      refine w_seq ?_
      refine w_reg ?_
      refine Qv.step (u_p rfl rfl rfl) rfl rfl ?_
      refine Qv.step (u_p rfl rfl rfl) rfl rfl ?_
      refine o_nil ?_
      refine x_go ?_
      refine w_iff rfl ?_
      refine w_seq ?_
      refine w_reg ?_
      refine Qv.step (u_p rfl rfl rfl) rfl rfl ?_
      refine Qv.step (u_p rfl rfl rfl) rfl rfl ?_
      refine o_nil ?_
      refine x_go ?_
      refine w_iff rfl ?_
      refine w_seq ?_
      refine w_reg ?_
      refine Qv.step (u_p rfl rfl rfl) rfl rfl ?_
      refine Qv.step (u_p rfl rfl rfl) rfl rfl ?_
      refine o_nil ?_
      refine x_go ?_
      refine w_iff rfl ?_
      refine w_seq ?_
      refine w_reg ?_
      refine Qv.step (u_p rfl rfl rfl) rfl rfl ?_
      refine Qv.step (u_p rfl rfl rfl) rfl rfl ?_
      refine o_nil ?_
      refine x_go ?_
      refine w_iff rfl ?_
      refine w_seq ?_
      refine w_reg ?_
      refine Qv.step (u_p rfl rfl rfl) rfl rfl ?_
      refine Qv.step (u_p rfl rfl rfl) rfl rfl ?_
      refine o_nil ?_
      refine x_go ?_
      refine w_ift rfl ?_
      refine w_reg ?_
      refine Qv.step (u_p rfl rfl rfl) rfl rfl ?_
      refine Qv.step (u_p rfl rfl rfl) rfl rfl ?_
      refine Qv.step (u_p rfl rfl rfl) rfl rfl ?_
      refine Qv.step (u_p rfl rfl rfl) rfl rfl ?_
      refine Qv.step (u_ldr 2 hrow' rfl rfl rfl rfl rfl rfl) rfl rfl ?_
      refine Qv.step (u_p rfl rfl rfl) rfl rfl ?_
      refine Qv.step (u_p rfl rfl rfl) rfl rfl ?_
      refine o_str 2 (r := rER row) hrow' rfl rfl rfl rfl rfl rfl rfl rfl rfl rfl rfl ?_
      refine o_nil ?_
      refine x_go ?_
      refine w_seq ?_
      refine w_res 2 (rowR ve 44 13 ((t.es.modify i (eTurn 5 1 to)).map rER)) rfl (fun A w h => by
        have h' : (rowR ve 44 13 ((t.es.map rER).set i (rER ((eTurn 5 1 to) row)))).ok A w := h
        rw [set_modify hrow (eTurn 5 1 to)] at h'
        exact h') (fun _ h => h) ?_
      have hr2 : ((t.es.modify i (eTurn 5 1 to)).map rER)[i]? = some (rER ((eTurn 5 1 to) row)) := by rw [List.getElem?_map, List.getElem?_modify, hrow]; simp
      refine w_frcp 2 4 4 12 rfl rfl rfl rfl rfl (by simp; omega) ?_
      refine w_frc 1 4 3 rfl rfl rfl rfl ?_
      refine w_frc 3 4 5 rfl rfl rfl rfl ?_
      refine d_begin ?_
      refine d_q [] (by kernel_rfl) rfl (fun _ _ _ => .onk (L' := []) rfl (u_p rfl rfl rfl) rfl) ?_
      refine d_q [0] (by kernel_rfl) rfl (fun _ _ _ => .onk (L' := [(169, _)]) rfl (u_p rfl rfl rfl) rfl) ?_
      refine d_q (d := .agg [_, _, _, _, _, _, _, _, _, _, _, _, _]) [1] (by kernel_rfl) rfl (fun _ _ _ => .onk (L' := [(170, _)]) rfl (u_lde (r := rER ((eTurn 5 1 to) row)) hr2 rfl rfl rfl rfl rfl) rfl) ?_
      refine d_q (d := .agg [_, _, _, _, _, _, _, _, _, _, _, _, _]) [] (by kernel_rfl) rfl (fun _ _ _ => .onk (L' := []) rfl (u_ld 5 rfl rfl rfl rfl rfl rfl) rfl) ?_
      refine d_q [2, 3] (by kernel_rfl) rfl (fun _ _ _ => .onk (L' := [(171, _), (172, _)]) rfl (u_eq rfl rfl rfl rfl rfl rfl rfl rfl rfl rfl rfl rfl) rfl) ?_
      refine d_q [4] (by kernel_rfl) rfl (fun _ _ _ => .onk (L' := [(173, _)]) rfl (u_p rfl rfl rfl) rfl) ?_
      refine d_q (d := .gd _ _ (.agg [_, _, _, _, _, _])) [5] (by kernel_rfl) rfl (fun _ _ _ => .onk (L' := [(174, _)]) rfl (q_ld (G := [(_, false)]) 4 rfl rfl rfl rfl rfl rfl rfl) rfl) ?_
      refine d_q (d := .gd _ _ _) [5, 6] (by kernel_rfl) rfl (fun _ _ _ => .onk (L' := [(174, _), (175, _)]) rfl (q_call (G := [(_, false)]) (Check_ok (tTurn t 5 1 i to) hl1 (by simp [tTurn]; omega) (Nat.lt_trans hl3 (by decide)) (hTT _)) Try.call7 rfl rfl rfl rfl) rfl) ?_
      refine d_q (d := .gd _ _ _) [5, 7] (by kernel_rfl) rfl (fun _ _ _ => .onk (L' := [(174, _), (176, _)]) rfl (q_p (G := [(_, false)]) rfl rfl rfl rfl) rfl) ?_
      refine d_q (d := .v _) [5, 8] (by kernel_rfl) rfl (fun _ _ _ => .onk (L' := [(174, _), (177, _)]) rfl (u_pick rfl rfl rfl rfl rfl rfl rfl rfl rfl) rfl) ?_
      refine d_end (by kernel_rfl) (by kernel_rfl) (by kernel_rfl) (fun bs _ => so_as (L' := [(169, _), (170, _), (171, _), (172, _), (173, _), (174, _), (175, _), (176, _), (177, _), (178, _)]) (G' := []) rfl rfl ?_)
      refine Qv.step (u_p rfl rfl rfl) rfl rfl ?_
      refine o_nil ?_
      refine x_go ?_
      have fin : (bif eqER ((eTurn 5 1 to) row) row then true else (aCheck (tTurn t 5 1 i to) == 19)) = tTold t 5 1 i to := by
        rw [tTold_ne hrow (by decide)]
        cases eqER ((eTurn 5 1 to) row) row <;> rfl
      exact w_ret (x_rt rfl rfl (congrArg DV.b fin))
    · skip
      refine w_block ?_
      refine w_seq ?_
      refine w_reg ?_
      refine Qv.step (u_p rfl rfl rfl) rfl rfl ?_
      refine Qv.step (u_p rfl rfl rfl) rfl rfl ?_
      refine o_nil ?_
      refine x_go ?_
      refine w_iff rfl ?_
      refine w_seq ?_
      refine w_reg ?_
      refine Qv.step (u_p rfl rfl rfl) rfl rfl ?_
      refine Qv.step (u_p rfl rfl rfl) rfl rfl ?_
      refine o_nil ?_
      refine x_go ?_
      refine w_iff rfl ?_
      refine w_seq ?_
      refine w_reg ?_
      refine Qv.step (u_p rfl rfl rfl) rfl rfl ?_
      refine Qv.step (u_p rfl rfl rfl) rfl rfl ?_
      refine o_nil ?_
      refine x_go ?_
      refine w_iff rfl ?_
      refine w_seq ?_
      refine w_reg ?_
      refine Qv.step (u_p rfl rfl rfl) rfl rfl ?_
      refine Qv.step (u_p rfl rfl rfl) rfl rfl ?_
      refine o_nil ?_
      refine x_go ?_
      refine w_iff rfl ?_
      refine w_seq ?_
      refine w_reg ?_
      refine Qv.step (u_p rfl rfl rfl) rfl rfl ?_
      refine Qv.step (u_p rfl rfl rfl) rfl rfl ?_
      refine o_nil ?_
      refine x_go ?_
      refine w_iff rfl ?_
      refine w_seq ?_
      refine w_reg ?_
      refine Qv.step (u_p rfl rfl rfl) rfl rfl ?_
      refine Qv.step (u_p rfl rfl rfl) rfl rfl ?_
      refine o_nil ?_
      refine x_go ?_
      refine w_iff rfl ?_
      refine w_seq ?_
      refine w_reg ?_
      refine Qv.step (u_p rfl rfl rfl) rfl rfl ?_
      refine Qv.step (u_p rfl rfl rfl) rfl rfl ?_
      refine o_nil ?_
      refine x_go ?_
      refine w_ift rfl ?_
      refine w_reg ?_
      refine Qv.step (u_p rfl rfl rfl) rfl rfl ?_
      refine Qv.step (u_p rfl rfl rfl) rfl rfl ?_
      refine Qv.step (u_p rfl rfl rfl) rfl rfl ?_
      refine o_str 2 (r := rER row) hrow' rfl rfl rfl rfl rfl rfl rfl rfl rfl rfl rfl ?_
      refine o_nil ?_
      refine x_go ?_
      refine w_seq ?_
      refine w_res 2 (rowR ve 44 13 ((t.es.modify i (eTurn 6 1 to)).map rER)) rfl (fun A w h => by
        have h' : (rowR ve 44 13 ((t.es.map rER).set i (rER ((eTurn 6 1 to) row)))).ok A w := h
        rw [set_modify hrow (eTurn 6 1 to)] at h'
        exact h') (fun _ h => h) ?_
      have hr2 : ((t.es.modify i (eTurn 6 1 to)).map rER)[i]? = some (rER ((eTurn 6 1 to) row)) := by rw [List.getElem?_map, List.getElem?_modify, hrow]; simp
      refine w_frcp 2 4 4 12 rfl rfl rfl rfl rfl (by simp; omega) ?_
      refine w_frc 1 4 3 rfl rfl rfl rfl ?_
      refine w_frc 3 4 5 rfl rfl rfl rfl ?_
      refine d_begin ?_
      refine d_q [] (by kernel_rfl) rfl (fun _ _ _ => .onk (L' := []) rfl (u_p rfl rfl rfl) rfl) ?_
      refine d_q [0] (by kernel_rfl) rfl (fun _ _ _ => .onk (L' := [(169, _)]) rfl (u_p rfl rfl rfl) rfl) ?_
      refine d_q (d := .agg [_, _, _, _, _, _, _, _, _, _, _, _, _]) [1] (by kernel_rfl) rfl (fun _ _ _ => .onk (L' := [(170, _)]) rfl (u_lde (r := rER ((eTurn 6 1 to) row)) hr2 rfl rfl rfl rfl rfl) rfl) ?_
      refine d_q (d := .agg [_, _, _, _, _, _, _, _, _, _, _, _, _]) [] (by kernel_rfl) rfl (fun _ _ _ => .onk (L' := []) rfl (u_ld 5 rfl rfl rfl rfl rfl rfl) rfl) ?_
      refine d_q [2, 3] (by kernel_rfl) rfl (fun _ _ _ => .onk (L' := [(171, _), (172, _)]) rfl (u_eq rfl rfl rfl rfl rfl rfl rfl rfl rfl rfl rfl rfl) rfl) ?_
      refine d_q [4] (by kernel_rfl) rfl (fun _ _ _ => .onk (L' := [(173, _)]) rfl (u_p rfl rfl rfl) rfl) ?_
      refine d_q (d := .gd _ _ (.agg [_, _, _, _, _, _])) [5] (by kernel_rfl) rfl (fun _ _ _ => .onk (L' := [(174, _)]) rfl (q_ld (G := [(_, false)]) 4 rfl rfl rfl rfl rfl rfl rfl) rfl) ?_
      refine d_q (d := .gd _ _ _) [5, 6] (by kernel_rfl) rfl (fun _ _ _ => .onk (L' := [(174, _), (175, _)]) rfl (q_call (G := [(_, false)]) (Check_ok (tTurn t 6 1 i to) hl1 (by simp [tTurn]; omega) (Nat.lt_trans hl3 (by decide)) (hTT _)) Try.call7 rfl rfl rfl rfl) rfl) ?_
      refine d_q (d := .gd _ _ _) [5, 7] (by kernel_rfl) rfl (fun _ _ _ => .onk (L' := [(174, _), (176, _)]) rfl (q_p (G := [(_, false)]) rfl rfl rfl rfl) rfl) ?_
      refine d_q (d := .v _) [5, 8] (by kernel_rfl) rfl (fun _ _ _ => .onk (L' := [(174, _), (177, _)]) rfl (u_pick rfl rfl rfl rfl rfl rfl rfl rfl rfl) rfl) ?_
      refine d_end (by kernel_rfl) (by kernel_rfl) (by kernel_rfl) (fun bs _ => so_as (L' := [(169, _), (170, _), (171, _), (172, _), (173, _), (174, _), (175, _), (176, _), (177, _), (178, _)]) (G' := []) rfl rfl ?_)
      refine Qv.step (u_p rfl rfl rfl) rfl rfl ?_
      refine o_nil ?_
      refine x_go ?_
      have fin : (bif eqER ((eTurn 6 1 to) row) row then true else (aCheck (tTurn t 6 1 i to) == 19)) = tTold t 6 1 i to := by
        rw [tTold_ne hrow (by decide)]
        cases eqER ((eTurn 6 1 to) row) row <;> rfl
      exact w_ret (x_rt rfl rfl (congrArg DV.b fin))
    · skip
      refine w_block ?_
      refine w_seq ?_
      refine w_reg ?_
      refine Qv.step (u_p rfl rfl rfl) rfl rfl ?_
      refine Qv.step (u_p rfl rfl rfl) rfl rfl ?_
      refine o_nil ?_
      refine x_go ?_
      refine w_iff rfl ?_
      refine w_seq ?_
      refine w_reg ?_
      refine Qv.step (u_p rfl rfl rfl) rfl rfl ?_
      refine Qv.step (u_p rfl rfl rfl) rfl rfl ?_
      refine o_nil ?_
      refine x_go ?_
      refine w_iff rfl ?_
      refine w_seq ?_
      refine w_reg ?_
      refine Qv.step (u_p rfl rfl rfl) rfl rfl ?_
      refine Qv.step (u_p rfl rfl rfl) rfl rfl ?_
      refine o_nil ?_
      refine x_go ?_
      refine w_iff rfl ?_
      refine w_seq ?_
      refine w_reg ?_
      refine Qv.step (u_p rfl rfl rfl) rfl rfl ?_
      refine Qv.step (u_p rfl rfl rfl) rfl rfl ?_
      refine o_nil ?_
      refine x_go ?_
      refine w_iff rfl ?_
      refine w_seq ?_
      refine w_reg ?_
      refine Qv.step (u_p rfl rfl rfl) rfl rfl ?_
      refine Qv.step (u_p rfl rfl rfl) rfl rfl ?_
      refine o_nil ?_
      refine x_go ?_
      refine w_iff rfl ?_
      refine w_seq ?_
      refine w_reg ?_
      refine Qv.step (u_p rfl rfl rfl) rfl rfl ?_
      refine Qv.step (u_p rfl rfl rfl) rfl rfl ?_
      refine o_nil ?_
      refine x_go ?_
      refine w_iff rfl ?_
      refine w_seq ?_
      refine w_reg ?_
      refine Qv.step (u_p rfl rfl rfl) rfl rfl ?_
      refine Qv.step (u_p rfl rfl rfl) rfl rfl ?_
      refine o_nil ?_
      refine x_go ?_
      refine w_iff rfl ?_
      refine w_seq ?_
      refine w_reg ?_
      refine Qv.step (u_p rfl rfl rfl) rfl rfl ?_
      refine Qv.step (u_p rfl rfl rfl) rfl rfl ?_
      refine o_nil ?_
      refine x_go ?_
      refine w_ift rfl ?_
      refine w_seq ?_
      refine w_reg ?_
      refine Qv.step (u_p rfl rfl rfl) rfl rfl ?_
      refine Qv.step (u_ld 4 rfl rfl rfl rfl rfl rfl) rfl rfl ?_
      refine Qv.step (u_p rfl rfl rfl) rfl rfl ?_
      refine Qv.step (u_ld 4 rfl rfl rfl rfl rfl rfl) rfl rfl ?_
      refine Qv.step (u_p rfl rfl rfl) rfl rfl ?_
      refine Qv.step (d := .agg [_, _]) (.as (u_bst rfl rfl rfl rfl rfl rfl rfl rfl) rfl) rfl rfl ?_
      refine Qv.step (q_bsl rfl rfl rfl rfl rfl rfl rfl rfl rfl rfl rfl) rfl rfl ?_
      refine o_app 3 (L := 2000000000) (rows2 := [[.i (IntKind.i64.wrap (t.lf + 1)), .i 0]]) (by simp; omega) rfl rfl rfl rfl rfl rfl rfl rfl rfl rfl rfl rfl rfl rfl (by simp [one1]) ?_; intro vf2
      refine Qv.step (u_p rfl rfl rfl) rfl rfl ?_
      refine o_st 4 rfl rfl rfl rfl rfl rfl rfl rfl rfl rfl (by first | rfl | kernel_rfl) ?_
      refine o_nil ?_
      refine x_go ?_
      refine w_seq ?_
      refine w_reg ?_
      refine Qv.step (u_p rfl rfl rfl) rfl rfl ?_
      refine Qv.step (u_ld 4 rfl rfl rfl rfl rfl rfl) rfl rfl ?_
      refine Qv.step (u_p rfl rfl rfl) rfl rfl ?_
      refine Qv.step (u_p rfl rfl rfl) rfl rfl ?_
      refine o_st 4 rfl rfl rfl rfl rfl rfl rfl rfl rfl rfl (by first | rfl | kernel_rfl) ?_
      refine o_nil ?_
      refine x_go ?_
      refine w_res 3 (rowR vf2 46 2 ((tMore t).fs.map rF)) rfl (fun A w h => by
        have h' : (rowR vf2 46 2 (t.fs.map rF ++ [[.i (IntKind.i64.wrap (t.lf + 1)), .i 0]])).ok A w := h
        rw [hlf] at h'
        simpa [tMore] using h') (fun _ h => h) ?_
      refine w_res 4 (cellsR b4 32 [.i t.lv, .i t.le, .i (t.lf + 1), .os va, .os ve, .os vf2]) rfl (fun A w h => by
        have h' : (cellsR b4 32 [.i t.lv, .i t.le, .i (IntKind.i64.wrap (t.lf + 1)), .os va, .os ve, .os vf2]).ok A w := h
        rw [hlf] at h'
        exact h') (fun _ h => h) ?_
      refine w_frc 1 4 3 rfl rfl rfl rfl ?_
      refine w_frc 2 4 4 rfl rfl rfl rfl ?_
      refine w_frc 3 4 5 rfl rfl rfl rfl ?_
      refine w_seq ?_
      refine w_reg ?_
      refine Qv.step (d := .agg [_, _, _, _, _, _]) (.as (u_ld 4 rfl rfl rfl rfl rfl rfl) rfl) rfl rfl ?_
      refine Qv.step (u_call (Check_ok (tMore t) hl1 hl2 (by simp [tMore]; omega) (hTT _)) Try.call7 rfl rfl rfl) rfl rfl ?_
      refine Qv.step (u_p rfl rfl rfl) rfl rfl ?_
      refine Qv.step (u_p rfl rfl rfl) rfl rfl ?_
      refine o_nil ?_
      refine x_go ?_
      exact w_ret (x_rt rfl rfl (congrArg DV.b (tTold_7 (k := 1) (to := to) hrow).symm))
end Go.Proofs.Ytcdakcemcehfiaa
