/- audit: contracts, third part: one, numbers. -/
import Derived.Test.YtcdakcemcehfiaaAud
import Derived.Test.YtcdakcemcehfiaaRlm
namespace Go.Proofs.Ytcdakcemcehfiaa
open Go Go.RowKit
set_option maxRecDepth 100000

def aRgOk (id : Int) (face : List (Hlf × Int)) (ring : List Hlf) : Bool := ring.all fun h => !((mget h face).getD 0 != id)
def aAlOk (id : Int) (alone : List (Int × Int)) (l : List Int) : Bool := l.all fun v => !((mget v alone).getD 0 != id)
def aOne (r : Rm) (id : Int) (face : List (Hlf × Int)) (alone : List (Int × Int)) : Bool := ((r.1 :: r.2.1).all (aRgOk id face)) && aAlOk id alone r.2.2
theorem one_ok (r : Rm) (id : Int) (face : List (Hlf × Int)) (alone : List (Int × Int)) (h1 : r.2.1.length < 1000000000) (h2 : ∀ x ∈ r.1 :: r.2.1, x.length < 1000000000) (h3 : r.2.2.length < 1000000000) :
    FunOk cx 23 [.agg (rRm r), .i id, mpD kH DV.i face, mpD kI DV.i alone] (.b (aOne r id face alone)) := by
  refine fn_ok (c := _) _ Try.func23 rfl Try.ntmps23 rfl fun A w => ?_
  refine w_seq ?_
  refine w_reg ?_
  refine o_box rfl rfl rfl rfl rfl rfl ?_; intro b0
  refine Qv.step (u_p rfl rfl rfl) rfl rfl ?_
  refine o_nil ?_
  refine x_go ?_
  refine w_seq ?_
  refine w_seq ?_
  refine w_reg ?_
  refine Qv.step (u_p rfl rfl rfl) rfl rfl ?_
  refine Qv.step (u_ld 0 rfl rfl rfl rfl rfl rfl) rfl rfl ?_
  refine o_bso rfl rfl rfl rfl rfl rfl rfl rfl rfl rfl rfl rfl ?_; intro vb
  refine Qv.step (u_p rfl rfl rfl) rfl rfl ?_
  refine Qv.step (u_ld 0 rfl rfl rfl rfl rfl rfl) rfl rfl ?_
  refine o_app 1 (L := 2000000000) (rows := [[.sl 2 (r.1.map rH)]]) (rows2 := r.2.1.map rRg) (by simp; omega) rfl rfl rfl rfl rfl rfl rfl rfl rfl rfl rfl rfl rfl rfl (by intro x hx d hd; obtain ⟨y, _, rfl⟩ := List.mem_map.1 hx; rw [List.mem_singleton.1 hd]; rfl) ?_; intro vb2
  refine Qv.step (u_olen 1 rfl rfl rfl rfl rfl rfl rfl) rfl rfl ?_
  refine Qv.step (u_p rfl rfl rfl) rfl rfl ?_
  refine o_nil ?_
  refine x_go ?_
  refine w_frr 1 20 rfl rfl ?_
  skip
  generalize hrs : r.1 :: r.2.1 = rs at h2
  have hrl : rs.length < 2000000000 := by rw [← hrs]; simp; omega
  have hall : ∀ b, aOne r id face alone = b ↔ (rs.all (aRgOk id face) && aAlOk id alone r.2.2) = b := fun b => by unfold aOne; rw [hrs]
  have hm : [DV.sl 2 (r.1.map rH)] :: r.2.1.map rRg = rs.map rRg := by rw [← hrs]; rfl
  refine w_block ?_
  
  refine w_loop (fun k : Nat => k ≤ rs.length ∧ (rs.drop k).all (aRgOk id face) = rs.all (aRgOk id face)) (fun k => ([(1, .i id), (2, mpD kH DV.i face), (3, mpD kI DV.i alone), (4, .v (.pointer (some ⟨b0, 0, none⟩))), (20, .sl 1 (rs.map rRg)), (21, .i rs.length), (22, .i k)],
    [cellsR b0 75 (rRm r), unitR])) (fun k => rs.length - k) 0 ⟨Nat.zero_le _, rfl⟩ ⟨rfl, rfl, rfl, rfl, by rw [← hm]; rfl, by
      show some (DV.i (([[DV.sl 2 (r.1.map rH)]] ++ r.2.1.map rRg).length : Int)) = _
      rw [List.singleton_append, hm, List.length_map], rfl, trivial⟩ rfl ?_
  rintro k ⟨hk, hI⟩
  refine w_seq ?_
  refine w_reg ?_
  refine Qv.step (u_p rfl rfl rfl) rfl rfl ?_
  refine o_nil ?_
  refine x_go ?_
  refine w_seq ?_
  refine w_if rfl (fun h => ?_) (fun h => ?_)
  · have hlt : k < rs.length := by simpa using h
    rw [List.drop_eq_getElem_cons hlt, List.all_cons] at hI
    clear h
    have hrl2 := h2 _ (List.getElem_mem hlt)
    generalize hring : rs[k] = ring at hI hrl2
    refine w_skip ?_
    refine x_go ?_
    refine w_seq ?_
    refine w_block ?_
    refine w_seq ?_
    refine w_reg ?_
    refine Qv.step (u_ix rfl rfl rfl rfl rfl rfl rfl rfl (by omega) (by simp; omega)) rfl rfl ?_
    refine Qv.step (u_lde (r := rRg ring) (by simp [hlt, hring]) rfl rfl rfl rfl rfl) rfl rfl ?_
    refine Qv.step (u_p rfl rfl rfl) rfl rfl ?_
    refine o_nil ?_
    refine x_go ?_
    refine w_seq ?_
    refine w_reg ?_
    refine Qv.step (u_p rfl rfl rfl) rfl rfl ?_
    refine Qv.step (u_len rfl rfl rfl rfl rfl rfl) rfl rfl ?_
    refine Qv.step (u_p rfl rfl rfl) rfl rfl ?_
    refine o_nil ?_
    refine x_go ?_
    refine w_block ?_
    
    refine w_loop (fun i : Nat => i ≤ ring.length ∧ ((ring.drop i).all fun h => !((mget h face).getD 0 != id)) = aRgOk id face ring) (fun i => ([(1, .i id), (2, mpD kH DV.i face), (3, mpD kI DV.i alone), (4, .v (.pointer (some ⟨b0, 0, none⟩))), (20, .sl 1 (rs.map rRg)), (21, .i rs.length), (22, .i k), (26, .sl 2 (ring.map rH)), (27, .i ring.length), (28, .i i)],
      [cellsR b0 75 (rRm r), unitR])) (fun i => ring.length - i) 0 ⟨Nat.zero_le _, rfl⟩ ⟨rfl, rfl, rfl, rfl, rfl, rfl, rfl, rfl, lenS rfl, rfl, trivial⟩ rfl ?_
    rintro i ⟨hi, hJ⟩
    refine w_seq ?_
    refine w_reg ?_
    refine Qv.step (u_p rfl rfl rfl) rfl rfl ?_
    refine o_nil ?_
    refine x_go ?_
    refine w_seq ?_
    refine w_if rfl (fun h => ?_) (fun h => ?_)
    · have hlt : i < ring.length := by simpa using h
      rw [List.drop_eq_getElem_cons hlt, List.all_cons] at hJ
      clear h
      refine w_skip ?_
      refine x_go ?_
      refine w_seq ?_
      refine w_block ?_
      refine w_seq ?_
      refine w_reg ?_
      refine Qv.step (u_ix rfl rfl rfl rfl rfl rfl rfl rfl (by omega) (by simp; omega)) rfl rfl ?_
      refine Qv.step (d := .agg [_, _]) (.as (u_lde (r := rH ring[i]) (by simp [hlt]) rfl rfl rfl rfl rfl) rfl) rfl rfl ?_
      refine o_alloc rfl rfl rfl rfl rfl rfl ?_; intro b2
      refine o_st 2 rfl rfl rfl rfl rfl rfl rfl rfl rfl rfl (by first | rfl | kernel_rfl) ?_
      refine o_nil ?_
      refine x_go ?_
      refine w_seq ?_
      refine w_reg ?_
      refine Qv.step (u_p rfl rfl rfl) rfl rfl ?_
      refine Qv.step (d := .agg [_, _]) (.as (u_ld 2 rfl rfl rfl rfl rfl rfl) rfl) rfl rfl ?_
      refine Qv.step (u_lr KH ring[i] 0 rfl rfl rfl rfl rfl rfl rfl rfl rfl) rfl rfl ?_
      refine Qv.step (u_p rfl rfl rfl) rfl rfl ?_
      refine Qv.step (u_p rfl rfl rfl) rfl rfl ?_
      refine o_nil ?_
      refine x_go ?_
      refine w_if rfl (fun h => ?_) (fun h => ?_)
      · have h' : ((mget ring[i] face).getD 0 != id) = true := h
        rw [h', Bool.not_true, Bool.false_and] at hJ
        rw [← hJ, Bool.false_and] at hI
        refine w_seq ?_
        refine w_reg ?_
        refine Qv.step (u_p rfl rfl rfl) rfl rfl ?_
        refine o_nil ?_
        refine x_go ?_
        refine w_ret (x_rt rfl rfl (congrArg (fun b : Bool => DV.b b) ?_))
        refine ((hall false).2 ?_).symm
        rw [← hI, Bool.false_and]
      
      · have h' : ((mget ring[i] face).getD 0 != id) = false := h
        rw [h', Bool.not_false, Bool.true_and] at hJ
        refine w_skip ?_
        refine x_go ?_
        refine w_reg ?_
        refine Qv.step (u_p rfl rfl rfl) rfl rfl ?_
        refine Qv.step (u_p rfl rfl rfl) rfl rfl ?_
        refine o_nil ?_
        exact x_rd (i + 1) 2 (by omega) ⟨by omega, hJ⟩ rfl ⟨rfl, rfl, rfl, rfl, rfl, rfl, rfl, rfl, rfl, lkS rfl (by omega), trivial⟩
    
    have hge : ¬ i < ring.length := by simpa using h
    clear h
    rw [List.drop_eq_nil_of_le (by omega)] at hJ
    rw [← hJ] at hI
    refine w_exit ?_
    refine x_go ?_
    refine w_reg ?_
    refine Qv.step (u_p rfl rfl rfl) rfl rfl ?_
    refine Qv.step (u_p rfl rfl rfl) rfl rfl ?_
    refine o_nil ?_
    exact x_rd (k + 1) 2 (by omega) ⟨by omega, by rw [← hI]; rfl⟩ rfl ⟨rfl, rfl, rfl, rfl, rfl, rfl, lkS rfl (by omega), trivial⟩
  
  have hge : ¬ k < rs.length := by simpa using h
  clear h
  rw [List.drop_eq_nil_of_le (by omega)] at hI
  refine w_exit ?_
  refine x_go ?_
  refine w_seq ?_
  refine w_seq ?_
  refine w_reg ?_
  refine Qv.step (u_p rfl rfl rfl) rfl rfl ?_
  refine Qv.step (u_ld 0 rfl rfl rfl rfl rfl rfl) rfl rfl ?_
  refine Qv.step (u_len rfl rfl rfl rfl rfl rfl) rfl rfl ?_
  refine Qv.step (u_p rfl rfl rfl) rfl rfl ?_
  refine o_nil ?_
  refine x_go ?_
  refine w_block ?_
  
  refine w_loop (fun k : Nat => k ≤ r.2.2.length ∧ aAlOk id alone (r.2.2.drop k) = aAlOk id alone r.2.2) (fun k => ([(1, .i id), (3, mpD kI DV.i alone), (40, .sl 1 (r.2.2.map rI)), (41, .i r.2.2.length), (42, .i k)],
    [cellsR b0 75 (rRm r), unitR])) (fun k => r.2.2.length - k) 0 ⟨Nat.zero_le _, rfl⟩ ⟨rfl, rfl, rfl, lenS rfl, rfl, trivial⟩ rfl ?_
  rintro j ⟨hj, hJ⟩
  refine w_seq ?_
  refine w_reg ?_
  refine Qv.step (u_p rfl rfl rfl) rfl rfl ?_
  refine o_nil ?_
  refine x_go ?_
  refine w_seq ?_
  refine w_if rfl (fun h => ?_) (fun h => ?_)
  · have hlt : j < r.2.2.length := by simpa using h
    rw [List.drop_eq_getElem_cons hlt, aAlOk, List.all_cons] at hJ
    clear h
    refine w_skip ?_
    refine x_go ?_
    refine w_seq ?_
    refine w_block ?_
    refine w_seq ?_
    refine w_reg ?_
    refine Qv.step (u_ix rfl rfl rfl rfl rfl rfl rfl rfl (by omega) (by simp; omega)) rfl rfl ?_
    refine Qv.step (u_lde (r := rI r.2.2[j]) (by simp [hlt]) rfl rfl rfl rfl rfl) rfl rfl ?_
    refine Qv.step (u_p rfl rfl rfl) rfl rfl ?_
    refine o_nil ?_
    refine x_go ?_
    refine w_seq ?_
    refine w_reg ?_
    refine Qv.step (u_p rfl rfl rfl) rfl rfl ?_
    refine Qv.step (u_p rfl rfl rfl) rfl rfl ?_
    refine Qv.step (u_lr KI r.2.2[j] 0 rfl rfl rfl rfl rfl rfl rfl rfl rfl) rfl rfl ?_
    refine Qv.step (u_p rfl rfl rfl) rfl rfl ?_
    refine Qv.step (u_p rfl rfl rfl) rfl rfl ?_
    refine o_nil ?_
    refine x_go ?_
    refine w_if rfl (fun h => ?_) (fun h => ?_)
    · have h' : ((mget r.2.2[j] alone).getD 0 != id) = true := h
      rw [h', Bool.not_true, Bool.false_and] at hJ
      refine w_seq ?_
      refine w_reg ?_
      refine Qv.step (u_p rfl rfl rfl) rfl rfl ?_
      refine o_nil ?_
      refine x_go ?_
      refine w_ret (x_rt rfl rfl (congrArg (fun b : Bool => DV.b b) ?_))
      refine ((hall false).2 ?_).symm
      rw [← hJ, Bool.and_false]
    
    · have h' : ((mget r.2.2[j] alone).getD 0 != id) = false := h
      rw [h', Bool.not_false, Bool.true_and] at hJ
      refine w_skip ?_
      refine x_go ?_
      refine w_reg ?_
      refine Qv.step (u_p rfl rfl rfl) rfl rfl ?_
      refine Qv.step (u_p rfl rfl rfl) rfl rfl ?_
      refine o_nil ?_
      exact x_rd (j + 1) 2 (by omega) ⟨by omega, hJ⟩ rfl ⟨rfl, rfl, rfl, rfl, lkS rfl (by omega), trivial⟩
  
  have hge : ¬ j < r.2.2.length := by simpa using h
  clear h
  rw [List.drop_eq_nil_of_le (by omega)] at hJ
  refine w_exit ?_
  refine x_go ?_
  refine w_seq ?_
  refine w_reg ?_
  refine Qv.step (u_p rfl rfl rfl) rfl rfl ?_
  refine o_nil ?_
  refine x_go ?_
  refine w_ret (x_rt rfl rfl (congrArg (fun b : Bool => DV.b b) ?_))
  refine ((hall true).2 ?_).symm
  rw [← hI, ← hJ]
  rfl

/-- What is wrong with a face. -/
def aFc (fs : List (Int × Int)) (i : Nat) (f : Int × Int) : Bool :=
  ((((f.1 == 0) != (((i : Int)) == 0)) || (decide ((i : Int) > 0) && decide (f.1 ≤ (fs.getD (i - 1) (0, 0)).1))) || decide (f.2 < 0)) || decide (f.2 > 1073741824)
def aFcs (fs : List (Int × Int)) : Nat → List (Int × Int) → Bool
  | _, [] => true
  | i, f :: l => if aFc fs i f then false else aFcs fs (i + 1) l
def aNums (t : Tab) : Bool := aFcs t.fs 0 t.fs && (aLast t.lv (t.vs.map (·.1)) && aLast t.le (t.es.map (·.id)) && aLast t.lf (t.fs.map (·.1)))
set_option maxHeartbeats 1000000 in
theorem numbers_ok (t : Tab) (hv : t.vs.length < 100000000) (he : t.es.length < 100000000) (hf : t.fs.length < 100000000) : FunOk cx 21 [dTab t] (.b (aNums t)) := by
  refine fn_ok (c := _) _ Try.func21 rfl Try.ntmps21 rfl fun A w => ?_
  refine w_seq ?_
  refine w_reg ?_
  refine o_box rfl rfl rfl rfl rfl rfl ?_; intro b0
  refine Qv.step (u_p rfl rfl rfl) rfl rfl ?_
  refine o_nil ?_
  refine x_go ?_
  refine w_seq ?_
  refine w_reg ?_
  refine Qv.step (u_p rfl rfl rfl) rfl rfl ?_
  refine Qv.step (u_p rfl rfl rfl) rfl rfl ?_
  refine Qv.step (u_p rfl rfl rfl) rfl rfl ?_
  refine o_nil ?_
  refine x_go ?_
  refine w_know 3 _ rfl nil_os ?_
  refine w_know 4 _ rfl nil_os ?_
  refine w_know 5 _ rfl nil_os ?_
  refine w_nil 3 1 ?_
  refine w_nil 3 1 ?_
  refine w_nil 3 1 ?_
  skip
  refine w_seq ?_
  refine w_seq ?_
  refine w_reg ?_
  refine Qv.step (u_p rfl rfl rfl) rfl rfl ?_
  refine Qv.step (u_ld 0 rfl rfl rfl rfl rfl rfl) rfl rfl ?_
  refine Qv.step (u_len rfl rfl rfl rfl rfl rfl) rfl rfl ?_
  refine Qv.step (u_p rfl rfl rfl) rfl rfl ?_
  refine o_nil ?_
  refine x_go ?_
  refine w_block ?_
  
  refine w_loop (fun s : Nat × Value => s.1 ≤ t.vs.length) (fun s => ([(1, .v (.pointer (some ⟨b0, 0, none⟩))), (3, .os s.2), (4, .os (.slice none 0 0)), (5, .os (.slice none 0 0)), (13, .sl 4 (t.vs.map rVR)), (14, .i t.vs.length), (15, .i s.1)],
    [cellsR b0 32 (rTab t), rowR s.2 3 1 ((t.vs.take s.1).map fun v => rI v.1), rowR (.slice none 0 0) 3 1 [], rowR (.slice none 0 0) 3 1 []])) (fun s => t.vs.length - s.1) (0, .slice none 0 0) (Nat.zero_le _) ⟨rfl, rfl, rfl, rfl, rfl, lenS rfl, rfl, trivial⟩ rfl ?_
  rintro ⟨k, v3⟩ hk
  refine w_seq ?_
  refine w_reg ?_
  refine Qv.step (u_p rfl rfl rfl) rfl rfl ?_
  refine o_nil ?_
  refine x_go ?_
  refine w_seq ?_
  refine w_if rfl (fun h => ?_) (fun h => ?_)
  · have hlt : k < t.vs.length := by simpa using h
    clear h
    refine w_skip ?_
    refine x_go ?_
    refine w_seq ?_
    refine w_block ?_
    refine w_seq ?_
    refine w_reg ?_
    refine Qv.step (u_ix rfl rfl rfl rfl rfl rfl rfl rfl (by omega) (by simp; omega)) rfl rfl ?_
    refine Qv.step (d := .agg [_, _, _, _]) (.as (u_lde (r := rVR t.vs[k]) (by simp [hlt]) rfl rfl rfl rfl rfl) rfl) rfl rfl ?_
    refine o_alloc rfl rfl rfl rfl rfl rfl ?_; intro b4
    refine o_st 4 rfl rfl rfl rfl rfl rfl rfl rfl rfl rfl (by first | rfl | kernel_rfl) ?_
    refine o_nil ?_
    refine x_go ?_
    refine w_reg ?_
    refine Qv.step (u_p rfl rfl rfl) rfl rfl ?_
    refine Qv.step (u_p rfl rfl rfl) rfl rfl ?_
    refine Qv.step (u_ld 4 rfl rfl rfl rfl rfl rfl) rfl rfl ?_
    refine Qv.step (q_bsl rfl rfl rfl rfl rfl rfl rfl rfl rfl rfl rfl) rfl rfl ?_
    refine o_app 1 (L := 2000000000) (rows2 := [rI t.vs[k].1]) (by simp; omega) rfl rfl rfl rfl rfl rfl rfl rfl rfl rfl rfl rfl rfl rfl (by simp [one1]) ?_; intro v2
    refine Qv.step (u_p rfl rfl rfl) rfl rfl ?_
    refine o_nil ?_
    refine x_go ?_
    refine w_reg ?_
    refine Qv.step (u_p rfl rfl rfl) rfl rfl ?_
    refine Qv.step (u_p rfl rfl rfl) rfl rfl ?_
    refine o_nil ?_
    exact x_rd (k + 1, v2) 4 (by show t.vs.length - (k + 1) < t.vs.length - k; omega) (by show k + 1 ≤ _; omega) (by simp only [List.take_succ_eq_append_getElem hlt, List.map_append, List.map_cons, List.map_nil]; rfl) ⟨rfl, rfl, rfl, rfl, rfl, rfl, lkS rfl (by omega), trivial⟩
  
  have hge : ¬ k < t.vs.length := by simpa using h
  clear h
  have hkk : k = t.vs.length := by have : k ≤ t.vs.length := hk; omega
  subst hkk
  refine w_exit ?_
  refine x_go ?_
  refine w_seq ?_
  refine w_seq ?_
  refine w_reg ?_
  refine Qv.step (u_p rfl rfl rfl) rfl rfl ?_
  refine Qv.step (u_ld 0 rfl rfl rfl rfl rfl rfl) rfl rfl ?_
  refine Qv.step (u_len rfl rfl rfl rfl rfl rfl) rfl rfl ?_
  refine Qv.step (u_p rfl rfl rfl) rfl rfl ?_
  refine o_nil ?_
  refine x_go ?_
  refine w_block ?_
  
  refine w_loop (fun s : Nat × Value => s.1 ≤ t.es.length) (fun s => ([(1, .v (.pointer (some ⟨b0, 0, none⟩))), (3, .os v3), (4, .os s.2), (5, .os (.slice none 0 0)), (26, .sl 13 (t.es.map rER)), (27, .i t.es.length), (28, .i s.1)],
    [cellsR b0 32 (rTab t), rowR v3 3 1 ((t.vs.take t.vs.length).map fun v => rI v.1), rowR s.2 3 1 ((t.es.take s.1).map fun e => rI e.id), rowR (.slice none 0 0) 3 1 []])) (fun s => t.es.length - s.1) (0, .slice none 0 0) (Nat.zero_le _) ⟨rfl, rfl, rfl, rfl, rfl, lenS rfl, rfl, trivial⟩ rfl ?_
  rintro ⟨k, v4⟩ hk
  refine w_seq ?_
  refine w_reg ?_
  refine Qv.step (u_p rfl rfl rfl) rfl rfl ?_
  refine o_nil ?_
  refine x_go ?_
  refine w_seq ?_
  refine w_if rfl (fun h => ?_) (fun h => ?_)
  · have hlt : k < t.es.length := by simpa using h
    clear h
    refine w_skip ?_
    refine x_go ?_
    refine w_seq ?_
    refine w_block ?_
    refine w_seq ?_
    refine w_reg ?_
    refine Qv.step (u_ix rfl rfl rfl rfl rfl rfl rfl rfl (by omega) (by simp; omega)) rfl rfl ?_
    refine Qv.step (d := .agg [_, _, _, _, _, _, _, _, _, _, _, _, _]) (.as (u_lde (r := rER t.es[k]) (by simp [hlt]) rfl rfl rfl rfl rfl) rfl) rfl rfl ?_
    refine o_alloc rfl rfl rfl rfl rfl rfl ?_; intro b4
    refine o_st 4 rfl rfl rfl rfl rfl rfl rfl rfl rfl rfl (by first | rfl | kernel_rfl) ?_
    refine o_nil ?_
    refine x_go ?_
    refine w_reg ?_
    refine Qv.step (u_p rfl rfl rfl) rfl rfl ?_
    refine Qv.step (u_p rfl rfl rfl) rfl rfl ?_
    refine Qv.step (u_ld 4 rfl rfl rfl rfl rfl rfl) rfl rfl ?_
    refine Qv.step (q_bsl rfl rfl rfl rfl rfl rfl rfl rfl rfl rfl rfl) rfl rfl ?_
    refine o_app 2 (L := 2000000000) (rows2 := [rI t.es[k].id]) (by simp; omega) rfl rfl rfl rfl rfl rfl rfl rfl rfl rfl rfl rfl rfl rfl (by simp [one1]) ?_; intro v2
    refine Qv.step (u_p rfl rfl rfl) rfl rfl ?_
    refine o_nil ?_
    refine x_go ?_
    refine w_reg ?_
    refine Qv.step (u_p rfl rfl rfl) rfl rfl ?_
    refine Qv.step (u_p rfl rfl rfl) rfl rfl ?_
    refine o_nil ?_
    exact x_rd (k + 1, v2) 4 (by show t.es.length - (k + 1) < t.es.length - k; omega) (by show k + 1 ≤ _; omega) (by simp only [List.take_succ_eq_append_getElem hlt, List.map_append, List.map_cons, List.map_nil]; rfl) ⟨rfl, rfl, rfl, rfl, rfl, rfl, lkS rfl (by omega), trivial⟩
  
  have hge : ¬ k < t.es.length := by simpa using h
  clear h
  have hkk : k = t.es.length := by have : k ≤ t.es.length := hk; omega
  subst hkk
  refine w_exit ?_
  refine x_go ?_
  refine w_seq ?_
  refine w_seq ?_
  refine w_reg ?_
  refine Qv.step (u_p rfl rfl rfl) rfl rfl ?_
  refine Qv.step (u_ld 0 rfl rfl rfl rfl rfl rfl) rfl rfl ?_
  refine Qv.step (u_len rfl rfl rfl rfl rfl rfl) rfl rfl ?_
  refine Qv.step (u_p rfl rfl rfl) rfl rfl ?_
  refine o_nil ?_
  refine x_go ?_
  refine w_block ?_
  
  refine w_loop (fun s : Nat × Value => s.1 ≤ t.fs.length ∧ aFcs t.fs s.1 (t.fs.drop s.1) = aFcs t.fs 0 t.fs) (fun s => ([(1, .v (.pointer (some ⟨b0, 0, none⟩))), (3, .os v3), (4, .os v4), (5, .os s.2), (39, .sl 2 (t.fs.map rF)), (40, .i t.fs.length), (41, .i s.1)],
    [cellsR b0 32 (rTab t), rowR v3 3 1 ((t.vs.take t.vs.length).map fun v => rI v.1), rowR v4 3 1 ((t.es.take t.es.length).map fun e => rI e.id), rowR s.2 3 1 ((t.fs.take s.1).map fun f => rI f.1)])) (fun s => t.fs.length - s.1) (0, .slice none 0 0) ⟨Nat.zero_le _, rfl⟩ ⟨rfl, rfl, rfl, rfl, rfl, lenS rfl, rfl, trivial⟩ rfl ?_
  rintro ⟨k, v5⟩ ⟨hk, hI⟩
  simp only at hk hI
  refine w_seq ?_
  refine w_reg ?_
  refine Qv.step (u_p rfl rfl rfl) rfl rfl ?_
  refine o_nil ?_
  refine x_go ?_
  refine w_seq ?_
  refine w_if rfl (fun h => ?_) (fun h => ?_)
  · have hlt : k < t.fs.length := by simpa using h
    rw [List.drop_eq_getElem_cons hlt, aFcs] at hI
    clear h
    refine w_skip ?_
    refine x_go ?_
    refine w_seq ?_
    refine w_block ?_
    refine w_seq ?_
    refine w_reg ?_
    refine Qv.step (u_p rfl rfl rfl) rfl rfl ?_
    refine Qv.step (u_ix rfl rfl rfl rfl rfl rfl rfl rfl (by omega) (by simp; omega)) rfl rfl ?_
    refine Qv.step (d := .agg [_, _]) (.as (u_lde (r := rF t.fs[k]) (by simp [hlt]) rfl rfl rfl rfl rfl) rfl) rfl rfl ?_
    refine o_alloc rfl rfl rfl rfl rfl rfl ?_; intro b4
    refine Qv.step (u_p rfl rfl rfl) rfl rfl ?_
    refine o_st 4 rfl rfl rfl rfl rfl rfl rfl rfl rfl rfl (by first | rfl | kernel_rfl) ?_
    refine o_nil ?_
    refine x_go ?_
    refine w_seq ?_
    refine w_seq ?_
    refine d_begin ?_
    refine d_q [] (by kernel_rfl) rfl (fun _ _ _ => .onk (L' := []) rfl (u_p rfl rfl rfl) rfl) ?_
    refine d_q [0] (by kernel_rfl) rfl (fun _ _ _ => .onk (L' := [(46, _)]) rfl (u_ld 4 rfl rfl rfl rfl rfl rfl) rfl) ?_
    refine d_q [1] (by kernel_rfl) rfl (fun _ _ _ => .onk (L' := [(47, _)]) rfl (u_p rfl rfl rfl) rfl) ?_
    refine d_q [] (by kernel_rfl) rfl (fun _ _ _ => .onk (L' := []) rfl (u_p rfl rfl rfl) rfl) ?_
    refine d_q [3] (by kernel_rfl) rfl (fun _ _ _ => .onk (L' := [(49, _)]) rfl (u_p rfl rfl rfl) rfl) ?_
    refine d_q [2, 4] (by kernel_rfl) rfl (fun _ _ _ => .onk (L' := [(48, _), (50, _)]) rfl (u_bb rfl rfl rfl rfl rfl rfl rfl) rfl) ?_
    refine d_q [5] (by kernel_rfl) rfl (fun _ _ _ => .onk (L' := [(51, _)]) rfl (u_p rfl rfl rfl) rfl) ?_
    refine d_q (d := .gd _ _ _) [6] (by kernel_rfl) rfl (fun _ _ _ => .onk (L' := [(52, _)]) rfl (q_p (G := [(_, false)]) rfl rfl rfl rfl) rfl) ?_
    refine d_q (d := .gd _ _ _) [6, 7] (by kernel_rfl) rfl (fun _ _ _ => .onk (L' := [(52, _), (53, _)]) rfl (q_p (G := [(_, false)]) rfl rfl rfl rfl) rfl) ?_
    refine d_q (d := .gd _ _ _) [6, 8] (by kernel_rfl) rfl (fun _ _ _ => .onk (L' := [(52, _), (54, _)]) rfl (q_p (G := [(_, false)]) rfl rfl rfl rfl) rfl) ?_
    refine d_q (d := .gd _ _ (.gd _ _ _)) [9] (by kernel_rfl) rfl (fun _ _ _ => .onk (L' := [(55, _)]) rfl (q_p (G := [(_, false), (_, true)]) rfl rfl rfl rfl) rfl) ?_
    refine d_q (d := .gd _ _ (.gd _ _ _)) [9, 10] (by kernel_rfl) rfl (fun _ _ _ => .onk (L' := [(55, _), (56, _)]) rfl (q_ld (G := [(_, false), (_, true)]) 4 rfl rfl rfl rfl rfl rfl rfl) rfl) ?_
    refine d_q (d := .gd _ _ (.gd _ _ _)) [9] (by kernel_rfl) rfl (fun _ _ _ => .onk (L' := [(55, _)]) rfl (q_p (G := [(_, false), (_, true)]) rfl rfl rfl rfl) rfl) ?_
    refine d_q (d := .gd _ _ (.gd _ _ _)) [9] (by kernel_rfl) rfl (fun _ _ _ => .onk (L' := [(55, _)]) rfl (q_p (G := [(_, false), (_, true)]) rfl rfl rfl rfl) rfl) ?_
    refine d_q (d := .gd _ _ (.gd _ _ _)) [9, 13] (by kernel_rfl) rfl (fun _ _ _ => .onk (L' := [(55, _), (59, _)]) rfl (q_p (G := [(_, false), (_, true)]) rfl rfl rfl rfl) rfl) ?_
    refine d_q (d := .gd _ _ (.gd _ _ _)) [9, 12, 14] (by kernel_rfl) rfl (fun _ _ _ => .onk (L' := [(55, _), (58, _), (60, _)]) rfl (q_ixr 3 (G := [(_, false), (_, true)]) rfl rfl rfl rfl rfl rfl rfl rfl rfl rfl (fun hT => by have := hT.2.1; simp at this; rw [wrapP (by omega) (by omega)]; omega) (fun hT => by have := hT.2.1; simp at this; rw [wrapP (by omega) (by omega)]; simp; omega)) rfl) ?_
    refine d_q (d := .gd _ _ (.gd _ _ _)) [9, 15] (by kernel_rfl) rfl (fun _ _ _ => .onk (L' := [(55, _), (61, _)]) rfl (q_ldr 3 (G := [(_, false), (_, true)]) (r := rI (t.fs.getD (k - 1) (0, 0)).1) (fun hT => by have := hT.2.1; simp at this; rw [wrapP (by omega) (by omega)]; have h3 : k - 1 < t.fs.length := (by omega); have h4 : k - 1 < k := (by omega); simp [h3, h4]) rfl rfl rfl rfl rfl rfl rfl) rfl) ?_
    refine d_q (d := .gd _ _ (.gd _ _ _)) [9, 11, 16] (by kernel_rfl) rfl (fun _ _ _ => .onk (L' := [(55, _), (57, _), (62, _)]) rfl (q_p (G := [(_, false), (_, true)]) rfl rfl rfl rfl) rfl) ?_
    refine d_q (d := .gd _ _ (.v _)) [6, 9, 17] (by kernel_rfl) rfl (fun _ _ _ => .onk (L' := [(52, _), (55, _), (63, _)]) rfl (q_pick (G := [(_, false)]) rfl rfl rfl rfl rfl rfl rfl rfl rfl rfl) rfl) ?_
    refine d_q (d := .v _) [6, 18] (by kernel_rfl) rfl (fun _ _ _ => .onk (L' := [(52, _), (64, _)]) rfl (u_pick rfl rfl rfl rfl rfl rfl rfl rfl rfl) rfl) ?_
    refine d_q [19] (by kernel_rfl) rfl (fun _ _ _ => .onk (L' := [(65, _)]) rfl (u_p rfl rfl rfl) rfl) ?_
    refine d_q (d := .gd _ _ _) [20] (by kernel_rfl) rfl (fun _ _ _ => .onk (L' := [(66, _)]) rfl (q_p (G := [(_, false)]) rfl rfl rfl rfl) rfl) ?_
    refine d_q (d := .gd _ _ _) [20, 21] (by kernel_rfl) rfl (fun _ _ _ => .onk (L' := [(66, _), (67, _)]) rfl (q_ld (G := [(_, false)]) 4 rfl rfl rfl rfl rfl rfl rfl) rfl) ?_
    refine d_q (d := .gd _ _ _) [20, 22] (by kernel_rfl) rfl (fun _ _ _ => .onk (L' := [(66, _), (68, _)]) rfl (q_p (G := [(_, false)]) rfl rfl rfl rfl) rfl) ?_
    refine d_q (d := .v _) [20, 23] (by kernel_rfl) rfl (fun _ _ _ => .onk (L' := [(66, _), (69, _)]) rfl (u_pick rfl rfl rfl rfl rfl rfl rfl rfl rfl) rfl) ?_
    refine d_q [24] (by kernel_rfl) rfl (fun _ _ _ => .onk (L' := [(70, _)]) rfl (u_p rfl rfl rfl) rfl) ?_
    refine d_q (d := .gd _ _ _) [25] (by kernel_rfl) rfl (fun _ _ _ => .onk (L' := [(71, _)]) rfl (q_p (G := [(_, false)]) rfl rfl rfl rfl) rfl) ?_
    refine d_q (d := .gd _ _ _) [25, 26] (by kernel_rfl) rfl (fun _ _ _ => .onk (L' := [(71, _), (72, _)]) rfl (q_ld (G := [(_, false)]) 4 rfl rfl rfl rfl rfl rfl rfl) rfl) ?_
    refine d_q (d := .gd _ _ _) [25, 27] (by kernel_rfl) rfl (fun _ _ _ => .onk (L' := [(71, _), (73, _)]) rfl (q_p (G := [(_, false)]) rfl rfl rfl rfl) rfl) ?_
    refine d_q (d := .v _) [25, 28] (by kernel_rfl) rfl (fun _ _ _ => .onk (L' := [(71, _), (74, _)]) rfl (u_pick rfl rfl rfl rfl rfl rfl rfl rfl rfl) rfl) ?_
    refine d_end (by kernel_rfl) (by kernel_rfl) (by kernel_rfl) (fun bs _ => so_as (L' := [(46, _), (47, _), (48, _), (49, _), (50, _), (51, _), (52, _), (53, _), (54, _), (55, _), (56, _), (57, _), (58, _), (59, _), (60, _), (61, _), (62, _), (63, _), (64, _), (65, _), (66, _), (67, _), (68, _), (69, _), (70, _), (71, _), (72, _), (73, _), (74, _), (75, _)]) (G' := []) rfl rfl ?_)
    refine o_nil ?_
    refine x_go ?_
    refine w_if rfl (fun h => ?_) (fun h => ?_)
    · refine w_seq ?_
      refine w_reg ?_
      refine Qv.step (u_p rfl rfl rfl) rfl rfl ?_
      refine o_nil ?_
      refine x_go ?_
      have h' : aFc t.fs k t.fs[k] = true := Eq.trans (by simp [aFc, bne]) h
      rw [h', if_pos rfl] at hI
      refine w_ret (x_rt rfl rfl ?_)
      simp only [aNums, ← hI, Bool.false_and]
    
    have h' : aFc t.fs k t.fs[k] = false := Eq.trans (by simp [aFc, bne]) h
    rw [h', if_neg (by simp)] at hI
    clear h
    refine w_skip ?_
    refine x_go ?_
    refine w_reg ?_
    refine Qv.step (u_p rfl rfl rfl) rfl rfl ?_
    refine Qv.step (u_p rfl rfl rfl) rfl rfl ?_
    refine Qv.step (u_ld 4 rfl rfl rfl rfl rfl rfl) rfl rfl ?_
    refine Qv.step (q_bsl rfl rfl rfl rfl rfl rfl rfl rfl rfl rfl rfl) rfl rfl ?_
    refine o_app 3 (L := 2000000000) (rows2 := [rI t.fs[k].1]) (by simp; omega) rfl rfl rfl rfl rfl rfl rfl rfl rfl rfl rfl rfl rfl rfl (by simp [one1]) ?_; intro v2
    refine Qv.step (u_p rfl rfl rfl) rfl rfl ?_
    refine o_nil ?_
    refine x_go ?_
    refine w_reg ?_
    refine Qv.step (u_p rfl rfl rfl) rfl rfl ?_
    refine Qv.step (u_p rfl rfl rfl) rfl rfl ?_
    refine o_nil ?_
    exact x_rd (k + 1, v2) 4 (by show t.fs.length - (k + 1) < t.fs.length - k; omega) ⟨by show k + 1 ≤ _; omega, hI⟩ (by simp only [List.take_succ_eq_append_getElem hlt, List.map_append, List.map_cons, List.map_nil]; rfl) ⟨rfl, rfl, rfl, rfl, rfl, rfl, lkS rfl (by omega), trivial⟩
  
  have hge : ¬ k < t.fs.length := by simpa using h
  clear h
  have hkk : k = t.fs.length := by omega
  subst hkk
  rw [List.drop_length] at hI
  refine w_frr 1 3 rfl rfl ?_
  refine w_frr 2 4 rfl rfl ?_
  refine w_frr 3 5 rfl rfl ?_
  refine w_know 3 (.sl 1 ((t.vs.map (·.1)).map rI)) rfl (fun A w u h => by simpa [List.map_map, Function.comp_def] using h) ?_
  refine w_know 4 (.sl 1 ((t.es.map (·.id)).map rI)) rfl (fun A w u h => by simpa [List.map_map, Function.comp_def] using h) ?_
  refine w_know 5 (.sl 1 ((t.fs.map (·.1)).map rI)) rfl (fun A w u h => by simpa [List.map_map, Function.comp_def] using h) ?_
  refine w_exit ?_
  refine x_go ?_
  refine w_seq ?_
  refine w_reg ?_
  refine Qv.step (u_p rfl rfl rfl) rfl rfl ?_
  refine Qv.step (u_ld 0 rfl rfl rfl rfl rfl rfl) rfl rfl ?_
  refine Qv.step (u_p rfl rfl rfl) rfl rfl ?_
  refine Qv.step (u_call (last_ok t.lv (t.vs.map (·.1)) (by show (t.vs.map (·.1)).length < _; simp; omega)) Try.call33 rfl rfl rfl) rfl rfl ?_
  refine Qv.step (u_p rfl rfl rfl) rfl rfl ?_
  refine Qv.step (d := .gd _ _ _) (.as (q_p (G := [(_, true)]) rfl rfl rfl rfl) rfl) rfl rfl ?_
  refine Qv.step (d := .gd _ _ _) (.as (q_ld (G := [(_, true)]) 0 rfl rfl rfl rfl rfl rfl rfl) rfl) rfl rfl ?_
  refine Qv.step (d := .gd _ _ _) (.as (q_p (G := [(_, true)]) rfl rfl rfl rfl) rfl) rfl rfl ?_
  refine Qv.step (d := .gd _ _ _) (.as (q_call (G := [(_, true)]) (last_ok t.le (t.es.map (·.id)) (by show (t.es.map (·.id)).length < _; simp; omega)) Try.call33 rfl rfl rfl rfl) rfl) rfl rfl ?_
  refine Qv.step (d := .v _) (.as (u_pick rfl rfl rfl rfl rfl rfl rfl rfl rfl) rfl) rfl rfl ?_
  refine Qv.step (u_p rfl rfl rfl) rfl rfl ?_
  refine Qv.step (d := .gd _ _ _) (.as (q_p (G := [(_, true)]) rfl rfl rfl rfl) rfl) rfl rfl ?_
  refine Qv.step (d := .gd _ _ _) (.as (q_ld (G := [(_, true)]) 0 rfl rfl rfl rfl rfl rfl rfl) rfl) rfl rfl ?_
  refine Qv.step (d := .gd _ _ _) (.as (q_p (G := [(_, true)]) rfl rfl rfl rfl) rfl) rfl rfl ?_
  refine Qv.step (d := .gd _ _ _) (.as (q_call (G := [(_, true)]) (last_ok t.lf (t.fs.map (·.1)) (by show (t.fs.map (·.1)).length < _; simp; omega)) Try.call33 rfl rfl rfl rfl) rfl) rfl rfl ?_
  refine Qv.step (d := .v _) (.as (u_pick rfl rfl rfl rfl rfl rfl rfl rfl rfl) rfl) rfl rfl ?_
  refine Qv.step (u_p rfl rfl rfl) rfl rfl ?_
  refine o_nil ?_
  refine x_go ?_
  refine w_ret (x_rt rfl rfl ?_)
  simp only [aNums, ← hI]
  simp [aFcs]
end Go.Proofs.Ytcdakcemcehfiaa
