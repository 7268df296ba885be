/- audit: contracts. -/
import Derived.Test.YtcdakcemcehfiaaRef
import Derived.Test.YtcdakcemcehfiaaSxm
namespace Go.Proofs.Ytcdakcemcehfiaa
open Go
set_option maxRecDepth 100000

/-- A row of a vertex: number, point, face. -/
abbrev VRow := Int × Pt × Int
abbrev Two (α : Type) := α × α
structure ERow where
  id : Int
  a : Int
  b : Int
  next : Two Hlf
  prev : Two Hlf
  face : Two Int
structure Tab where
  lv : Int
  le : Int
  lf : Int
  vs : List VRow
  es : List ERow
  fs : List (Int × Int)
@[reducible] def rVR (v : VRow) : List DV := [.i v.1, .i v.2.1.1, .i v.2.1.2, .i v.2.2]
@[reducible] def rER (e : ERow) : List DV := [.i e.id, .i e.a, .i e.b, .i e.next.1.1, .b e.next.1.2, .i e.next.2.1, .b e.next.2.2, .i e.prev.1.1, .b e.prev.1.2, .i e.prev.2.1, .b e.prev.2.2, .i e.face.1, .i e.face.2]
@[reducible] def rF (f : Int × Int) : List DV := [.i f.1, .i f.2]
@[reducible] def rTab (t : Tab) : List DV := [.i t.lv, .i t.le, .i t.lf, .sl 4 (t.vs.map rVR), .sl 13 (t.es.map rER), .sl 2 (t.fs.map rF)]
@[reducible] def dTab (t : Tab) : DV := .agg (rTab t)
def tPlan (t : Tab) : Pln := (t.vs.map fun v => (v.1, v.2.1), t.es.map fun e => (e.id, e.a, e.b))

@[reducible] def tV (v : VRow) : Vtx := (v.1, v.2.1)
@[reducible] def tE (e : ERow) : Edg := (e.id, e.a, e.b)
theorem Plan_ok (t : Tab) (hv : t.vs.length < 1000000000) (he : t.es.length < 1000000000) : FunOk cx 20 [dTab t] (dPl (tPlan t)) := by
  refine fn_ok (c := _) _ Try.func20 rfl Try.ntmps20 rfl fun A w => ?_
  refine w_seq ?_
  refine w_reg ?_
  refine o_box rfl rfl rfl rfl rfl rfl ?_; intro b0
  refine o_alloc rfl rfl rfl rfl rfl rfl ?_; intro b1
  refine o_nil ?_
  refine x_go ?_
  refine w_seq ?_
  refine w_reg ?_
  refine o_alloc rfl rfl rfl rfl rfl rfl ?_; intro b2
  refine o_nil ?_
  refine x_go ?_
  refine w_seq ?_
  refine w_seq ?_
  refine w_reg ?_
  refine Qv.step (u_p rfl rfl rfl) rfl rfl ?_
  refine Qv.step (u_ld 0 rfl rfl rfl rfl rfl rfl) rfl rfl ?_
  refine Qv.step (u_len rfl rfl rfl rfl rfl rfl) rfl rfl ?_
  refine Qv.step (u_p rfl rfl rfl) rfl rfl ?_
  refine o_nil ?_
  refine x_go ?_
  refine w_block ?_
  refine w_nil 52 3 ?_
  refine w_nil 55 3 ?_
  skip
  skip
  
  refine w_loop (fun s : Nat × Value => s.1 ≤ t.vs.length) (fun s => ([(9, .sl 4 (t.vs.map rVR)), (10, .i t.vs.length), (11, .i s.1), (1, .v (.pointer (some ⟨b0, 0, none⟩))), (2, .v (.pointer (some ⟨b1, 0, none⟩))), (3, .v (.pointer (some ⟨b2, 0, none⟩)))],
    [cellsR b0 32 (rTab t), cellsR b1 36 [.os (.slice none 0 0), .os (.slice none 0 0)], cellsR b2 36 [.os s.2, .os (.slice none 0 0)],
     rowR s.2 52 3 ((t.vs.take s.1).map fun v => rV (tV v)), rowR (.slice none 0 0) 55 3 []])) (fun s => t.vs.length - s.1) (0, .slice none 0 0) (Nat.zero_le _) ⟨rfl, lenS rfl, rfl, rfl, rfl, rfl, trivial⟩ rfl ?_
  rintro ⟨k, v⟩ hk
  refine w_seq ?_
  refine w_reg ?_
  refine Qv.step (u_p rfl rfl rfl) rfl rfl ?_
  refine o_nil ?_
  refine x_go ?_
  refine w_seq ?_
  refine w_if rfl (fun h => ?_) (fun h => ?_)
  · have hlt : k < t.vs.length := by simpa using h
    clear h
    refine w_skip ?_
    refine x_go ?_
    refine w_seq ?_
    refine w_block ?_
    refine w_seq ?_
    refine w_reg ?_
    refine Qv.step (u_ix rfl rfl rfl rfl rfl rfl rfl rfl (by omega) (by simp; omega)) rfl rfl ?_
    refine Qv.step (d := .agg [_, _, _, _]) (.as (u_lde (r := rVR t.vs[k]) (by simp [hlt]) rfl rfl rfl rfl rfl) rfl) rfl rfl ?_
    refine o_alloc rfl rfl rfl rfl rfl rfl ?_; intro b5
    refine o_st 5 rfl rfl rfl rfl rfl rfl rfl rfl rfl rfl (by first | rfl | kernel_rfl) ?_
    refine o_nil ?_
    refine x_go ?_
    refine w_reg ?_
    refine Qv.step (u_p rfl rfl rfl) rfl rfl ?_
    refine Qv.step (u_ld 2 rfl rfl rfl rfl rfl rfl) rfl rfl ?_
    refine Qv.step (u_p rfl rfl rfl) rfl rfl ?_
    refine Qv.step (u_ld 5 rfl rfl rfl rfl rfl rfl) rfl rfl ?_
    refine Qv.step (u_p rfl rfl rfl) rfl rfl ?_
    refine Qv.step (d := .agg [_, _]) (.as (u_ld 5 rfl rfl rfl rfl rfl rfl) rfl) rfl rfl ?_
    refine Qv.step (d := .agg [_, _, _]) (.as (u_bst rfl rfl rfl rfl rfl rfl rfl rfl) rfl) rfl rfl ?_
    refine Qv.step (q_bsl rfl rfl rfl rfl rfl rfl rfl rfl rfl rfl rfl) rfl rfl ?_
    refine o_app 3 (L := 2000000000) (rows2 := [rV (tV t.vs[k])]) (by simp; omega) rfl rfl rfl rfl rfl rfl rfl rfl rfl rfl rfl rfl rfl rfl (by simp [one1]) ?_; intro v2
    refine Qv.step (u_p rfl rfl rfl) rfl rfl ?_
    refine o_st 2 rfl rfl rfl rfl rfl rfl rfl rfl rfl rfl (by first | rfl | kernel_rfl) ?_
    refine o_nil ?_
    refine x_go ?_
    refine w_reg ?_
    refine Qv.step (u_p rfl rfl rfl) rfl rfl ?_
    refine Qv.step (u_p rfl rfl rfl) rfl rfl ?_
    refine o_nil ?_
    exact x_rd (k + 1, v2) 5 (by show t.vs.length - (k + 1) < t.vs.length - k; omega) (by show k + 1 ≤ _; omega) (by simp only [List.take_succ_eq_append_getElem hlt, List.map_append, List.map_cons, List.map_nil]; rfl) ⟨rfl, rfl, lkS rfl (by omega), rfl, rfl, rfl, trivial⟩
  
  have hge : ¬ k < t.vs.length := by simpa using h
  clear h
  have hkk : k = t.vs.length := by have : k ≤ t.vs.length := hk; omega
  subst hkk
  refine w_exit ?_
  refine x_go ?_
  refine w_seq ?_
  refine w_seq ?_
  refine w_reg ?_
  refine Qv.step (u_p rfl rfl rfl) rfl rfl ?_
  refine Qv.step (u_ld 0 rfl rfl rfl rfl rfl rfl) rfl rfl ?_
  refine Qv.step (u_len rfl rfl rfl rfl rfl rfl) rfl rfl ?_
  refine Qv.step (u_p rfl rfl rfl) rfl rfl ?_
  refine o_nil ?_
  refine x_go ?_
  refine w_block ?_
  
  refine w_loop (fun s : Nat × Value => s.1 ≤ t.es.length) (fun s => ([(27, .sl 13 (t.es.map rER)), (28, .i t.es.length), (29, .i s.1), (1, .v (.pointer (some ⟨b0, 0, none⟩))), (2, .v (.pointer (some ⟨b1, 0, none⟩))), (3, .v (.pointer (some ⟨b2, 0, none⟩)))],
    [cellsR b0 32 (rTab t), cellsR b1 36 [.os (.slice none 0 0), .os (.slice none 0 0)], cellsR b2 36 [.os v, .os s.2],
     rowR v 52 3 ((t.vs.take t.vs.length).map fun v => rV (tV v)), rowR s.2 55 3 ((t.es.take s.1).map fun e => rE (tE e))])) (fun s => t.es.length - s.1) (0, .slice none 0 0) (Nat.zero_le _) ⟨rfl, lenS rfl, rfl, rfl, rfl, rfl, trivial⟩ rfl ?_
  rintro ⟨j, u⟩ hj
  refine w_seq ?_
  refine w_reg ?_
  refine Qv.step (u_p rfl rfl rfl) rfl rfl ?_
  refine o_nil ?_
  refine x_go ?_
  refine w_seq ?_
  refine w_if rfl (fun h => ?_) (fun h => ?_)
  · have hlt : j < t.es.length := by simpa using h
    clear h
    refine w_skip ?_
    refine x_go ?_
    refine w_seq ?_
    refine w_block ?_
    refine w_seq ?_
    refine w_reg ?_
    refine Qv.step (u_ix rfl rfl rfl rfl rfl rfl rfl rfl (by omega) (by simp; omega)) rfl rfl ?_
    refine Qv.step (d := .agg [_, _, _, _, _, _, _, _, _, _, _, _, _]) (.as (u_lde (r := rER t.es[j]) (by simp [hlt]) rfl rfl rfl rfl rfl) rfl) rfl rfl ?_
    refine o_alloc rfl rfl rfl rfl rfl rfl ?_; intro b5
    refine o_st 5 rfl rfl rfl rfl rfl rfl rfl rfl rfl rfl (by first | rfl | kernel_rfl) ?_
    refine o_nil ?_
    refine x_go ?_
    refine w_reg ?_
    refine Qv.step (u_p rfl rfl rfl) rfl rfl ?_
    refine Qv.step (u_ld 2 rfl rfl rfl rfl rfl rfl) rfl rfl ?_
    refine Qv.step (u_p rfl rfl rfl) rfl rfl ?_
    refine Qv.step (u_ld 5 rfl rfl rfl rfl rfl rfl) rfl rfl ?_
    refine Qv.step (u_p rfl rfl rfl) rfl rfl ?_
    refine Qv.step (u_ld 5 rfl rfl rfl rfl rfl rfl) rfl rfl ?_
    refine Qv.step (u_p rfl rfl rfl) rfl rfl ?_
    refine Qv.step (u_ld 5 rfl rfl rfl rfl rfl rfl) rfl rfl ?_
    refine Qv.step (d := .agg [_, _, _]) (.as (u_bst rfl rfl rfl rfl rfl rfl rfl rfl) rfl) rfl rfl ?_
    refine Qv.step (q_bsl rfl rfl rfl rfl rfl rfl rfl rfl rfl rfl rfl) rfl rfl ?_
    refine o_app 4 (L := 2000000000) (rows2 := [rE (tE t.es[j])]) (by simp; omega) rfl rfl rfl rfl rfl rfl rfl rfl rfl rfl rfl rfl rfl rfl (by simp [one1]) ?_; intro u2
    refine Qv.step (u_p rfl rfl rfl) rfl rfl ?_
    refine o_st 2 rfl rfl rfl rfl rfl rfl rfl rfl rfl rfl (by first | rfl | kernel_rfl) ?_
    refine o_nil ?_
    refine x_go ?_
    refine w_reg ?_
    refine Qv.step (u_p rfl rfl rfl) rfl rfl ?_
    refine Qv.step (u_p rfl rfl rfl) rfl rfl ?_
    refine o_nil ?_
    exact x_rd (j + 1, u2) 5 (by show t.es.length - (j + 1) < t.es.length - j; omega) (by show j + 1 ≤ _; omega) (by simp only [List.take_succ_eq_append_getElem hlt, List.map_append, List.map_cons, List.map_nil]; rfl) ⟨rfl, rfl, lkS rfl (by omega), rfl, rfl, rfl, trivial⟩
  
  have hge : ¬ j < t.es.length := by simpa using h
  clear h
  have hjj : j = t.es.length := by have : j ≤ t.es.length := hj; omega
  subst hjj
  refine w_frc 3 2 0 rfl rfl rfl rfl ?_
  refine w_frc 4 2 1 rfl rfl rfl rfl ?_
  refine w_exit ?_
  refine x_go ?_
  refine w_seq ?_
  refine w_reg ?_
  refine Qv.step (d := .agg [_, _]) (.as (u_ld 2 rfl rfl rfl rfl rfl rfl) rfl) rfl rfl ?_
  refine o_st 1 rfl rfl rfl rfl rfl rfl rfl rfl rfl rfl (by first | rfl | kernel_rfl) ?_
  refine o_nil ?_
  refine x_go ?_
  refine w_ret (x_r1 rfl (rs_c 1 rfl rfl rfl rfl) ?_)
  show DV.agg [.sl 3 ((t.vs.take t.vs.length).map fun v => rV (tV v)), .sl 3 ((t.es.take t.es.length).map fun e => rE (tE e))] = _
  rw [List.take_length, List.take_length]
  simp [tPlan, List.map_map, Function.comp_def]

@[reducible] def rI (n : Int) : List DV := [.i n]
def aLast (n : Int) (ids : List Int) : Bool := (decide (n ≥ 0) && decide (n ≤ 1099511627776)) && (((ids.length : Int) == 0) || decide (ids.getD (ids.length - 1) 0 ≤ n))
theorem last_ok (n : Int) (ids : List Int) (h : Sh ids) : FunOk cx 33 [.i n, .sl 1 (ids.map rI)] (.b (aLast n ids)) := by
  have hl : ids.length < 4611686018427387904 := h
  have hm : ((ids.map rI).length : Int) = (ids.length : Int) := by rw [List.length_map]
  have key : ((((ids.map rI).length : Nat) : Int) == 0) = false → 0 < ids.length := fun h => by simp at h; exact List.length_pos_iff.2 h
  refine fn_ok (c := _) _ Try.func33 rfl Try.ntmps33 rfl fun A w => ?_
  refine w_seq ?_
  refine w_reg ?_
  refine Qv.step (u_p rfl rfl rfl) rfl rfl ?_
  refine o_nil ?_
  refine x_go ?_
  refine w_seq ?_
  refine w_reg ?_
  refine Qv.step (u_p rfl rfl rfl) rfl rfl ?_
  refine Qv.step (u_p rfl rfl rfl) rfl rfl ?_
  refine Qv.step (u_p rfl rfl rfl) rfl rfl ?_
  refine Qv.step (d := .gd _ _ _) (.as (q_p (G := [(_, true)]) rfl rfl rfl rfl) rfl) rfl rfl ?_
  refine Qv.step (d := .gd _ _ _) (.as (q_p (G := [(_, true)]) rfl rfl rfl rfl) rfl) rfl rfl ?_
  refine Qv.step (d := .v _) (.as (u_pick rfl rfl rfl rfl rfl rfl rfl rfl rfl) rfl) rfl rfl ?_
  refine Qv.step (u_p rfl rfl rfl) rfl rfl ?_
  refine Qv.step (d := .gd _ _ _) (.as (q_p (G := [(_, true)]) rfl rfl rfl rfl) rfl) rfl rfl ?_
  refine Qv.step (d := .gd _ _ _) (.as (q_len (G := [(_, true)]) rfl rfl rfl rfl rfl rfl rfl) rfl) rfl rfl ?_
  refine Qv.step (d := .gd _ _ _) (.as (q_p (G := [(_, true)]) rfl rfl rfl rfl) rfl) rfl rfl ?_
  refine Qv.step (d := .gd _ _ _) (.as (q_p (G := [(_, true)]) rfl rfl rfl rfl) rfl) rfl rfl ?_
  refine Qv.step (d := .gd _ _ (.gd _ _ _)) (.as (q_p (G := [(_, true), (_, false)]) rfl rfl rfl rfl) rfl) rfl rfl ?_
  refine Qv.step (d := .gd _ _ (.gd _ _ _)) (.as (q_p (G := [(_, true), (_, false)]) rfl rfl rfl rfl) rfl) rfl rfl ?_
  refine Qv.step (d := .gd _ _ (.gd _ _ _)) (.as (q_len (G := [(_, true), (_, false)]) rfl rfl rfl rfl rfl rfl rfl) rfl) rfl rfl ?_
  refine Qv.step (d := .gd _ _ (.gd _ _ _)) (.as (q_p (G := [(_, true), (_, false)]) rfl rfl rfl rfl) rfl) rfl rfl ?_
  refine Qv.step (d := .gd _ _ (.gd _ _ _)) (.as (q_ix (G := [(_, true), (_, false)]) rfl rfl rfl rfl rfl rfl rfl rfl rfl (fun hT => by have := key hT.2.1; rw [hm, wrapP this hl]; omega) (fun hT => by have := key hT.2.1; rw [hm, wrapP this hl]; omega)) rfl) rfl rfl ?_
  refine Qv.step (d := .gd _ _ (.gd _ _ _)) (.as (q_lde (G := [(_, true), (_, false)]) (r := rI (ids.getD (ids.length - 1) 0)) (fun hT => by have h0 := key hT.2.1; rw [hm, wrapP h0 hl]; have h3 : ids.length - 1 < ids.length := (by omega); simp [h3]) rfl rfl rfl rfl rfl rfl) rfl) rfl rfl ?_
  refine Qv.step (d := .gd _ _ (.gd _ _ _)) (.as (q_p (G := [(_, true), (_, false)]) rfl rfl rfl rfl) rfl) rfl rfl ?_
  refine Qv.step (d := .gd _ _ (.gd _ _ _)) (.as (q_p (G := [(_, true), (_, false)]) rfl rfl rfl rfl) rfl) rfl rfl ?_
  refine Qv.step (d := .gd _ _ (.v _)) (.as (q_pick (G := [(_, true)]) rfl rfl rfl rfl rfl rfl rfl rfl rfl rfl) rfl) rfl rfl ?_
  refine Qv.step (d := .v _) (.as (u_pick rfl rfl rfl rfl rfl rfl rfl rfl rfl) rfl) rfl rfl ?_
  refine Qv.step (u_p rfl rfl rfl) rfl rfl ?_
  refine o_nil ?_
  refine x_go ?_
  refine w_ret (x_rt rfl rfl ?_)
  simp [aLast]
end Go.Proofs.Ytcdakcemcehfiaa
