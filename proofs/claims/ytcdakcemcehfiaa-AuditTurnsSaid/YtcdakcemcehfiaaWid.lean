/- wide: contracts. -/
import Derived.Test.YtcdakcemcehfiaaCtx
import Derived.Test.YtcdakcemcehfiaaSxo
import Derived.Laws.Externs
namespace Go.Proofs.Ytcdakcemcehfiaa
open Go
set_option maxRecDepth 100000

abbrev W4 := Nat × Nat × Nat × Nat
@[reducible] def dW64 (n : Nat) : DV := .v (.int .u64 (n : Int))
@[reducible] def rW (a : W4) : List DV := [dW64 a.1, dW64 a.2.1, dW64 a.2.2.1, dW64 a.2.2.2]
@[reducible] def dW (a : W4) : DV := .agg (rW a)

theorem wrap64 (n : Int) : ((IntKind.u64.wrap n).toNat : Int) = IntKind.u64.wrap n := by
  simp only [IntKind.wrap, IntKind.bits, IntKind.signed]
  simp
  omega
def wSgn (n : Int) : Nat := (IntKind.u64.wrap (n.fdiv (2 ^ 63))).toNat
def wOf (n : Int) : W4 := ((IntKind.u64.wrap n).toNat, wSgn n, wSgn n, wSgn n)
theorem Of_ok (n : Int) : FunOk cx 56 [.i n] (dW (wOf n)) := by
  refine fn_ok (c := _) _ Try.func56 rfl Try.ntmps56 rfl fun A w => ?_
  refine w_seq ?_
  refine w_reg ?_
  refine o_alloc rfl rfl rfl rfl rfl rfl ?_; intro b0
  refine o_nil ?_
  refine x_go ?_
  refine w_seq ?_
  refine w_reg ?_
  refine Qv.step (u_p rfl rfl rfl) rfl rfl ?_
  refine Qv.step (u_shr (n := 63) rfl rfl rfl rfl rfl) rfl rfl ?_
  refine Qv.step (u_p rfl rfl rfl) rfl rfl ?_
  refine Qv.step (u_p rfl rfl rfl) rfl rfl ?_
  refine o_nil ?_
  refine x_go ?_
  refine w_seq ?_
  refine w_reg ?_
  refine Qv.step (u_p rfl rfl rfl) rfl rfl ?_
  refine Qv.step (u_p rfl rfl rfl) rfl rfl ?_
  refine Qv.step (u_p rfl rfl rfl) rfl rfl ?_
  refine Qv.step (u_p rfl rfl rfl) rfl rfl ?_
  refine Qv.step (u_p rfl rfl rfl) rfl rfl ?_
  refine Qv.step (d := .agg [_, _, _, _]) (.as (u_bar rfl rfl rfl rfl rfl rfl rfl rfl) rfl) rfl rfl ?_
  refine o_st 0 rfl rfl rfl rfl rfl rfl rfl rfl rfl rfl (by first | rfl | kernel_rfl) ?_
  refine o_nil ?_
  refine x_go ?_
  refine w_ret (x_r1 rfl (rs_c 0 rfl rfl rfl rfl) ?_)
  simp only [dW, rW, dW64, wOf, wSgn, wrap64]
  rfl

def wBelow (a : W4) : Bool := a.2.2.2 / 9223372036854775808 == 1
theorem below_eq (n : Nat) : ((n : Int).fdiv (2 ^ 63) == 1) = (n / 9223372036854775808 == 1) := by
  have : (n : Int).fdiv (2 ^ 63) = ((n / 9223372036854775808 : Nat) : Int) := by
    rw [Int.fdiv_eq_ediv_of_nonneg _ (by decide)]; rfl
  rw [this, Bool.eq_iff_iff]
  simp
  omega
theorem below_ok (a : W4) : FunOk cx 58 [dW a] (.b (wBelow a)) := by
  refine fn_ok (c := _) _ Try.func58 rfl Try.ntmps58 rfl fun A w => ?_
  refine w_seq ?_
  refine w_reg ?_
  refine o_box rfl rfl rfl rfl rfl rfl ?_; intro b0
  refine Qv.step (u_p rfl rfl rfl) rfl rfl ?_
  refine o_nil ?_
  refine x_go ?_
  refine w_seq ?_
  refine w_reg ?_
  refine Qv.step (u_ixa rfl rfl rfl rfl rfl rfl rfl (by decide) (by decide)) rfl rfl ?_
  refine Qv.step (u_ld 0 rfl rfl rfl rfl rfl rfl) rfl rfl ?_
  refine Qv.step (u_shr (n := 63) rfl rfl rfl rfl rfl) rfl rfl ?_
  refine Qv.step (u_p rfl rfl rfl) rfl rfl ?_
  refine Qv.step (u_p rfl rfl rfl) rfl rfl ?_
  refine o_nil ?_
  refine x_go ?_
  refine w_ret (x_rt rfl rfl ?_)
  rw [below_eq]
  rfl

def wSign (a : W4) : Int := if wBelow a then -1 else if a == (0, 0, 0, 0) then 0 else 1
theorem w_eqV (a b : W4) : eqV [.int .u64 a.1, .int .u64 a.2.1, .int .u64 a.2.2.1, .int .u64 a.2.2.2] [.int .u64 b.1, .int .u64 b.2.1, .int .u64 b.2.2.1, .int .u64 b.2.2.2] = (a == b) := by
  have key : ∀ x y : Nat, (((x : Int)) == (y : Int)) = (x == y) := fun x y => by rw [Bool.eq_iff_iff]; simp; omega
  simp only [eqV, key, Bool.and_true]
  rfl
theorem Sign_ok (a : W4) : FunOk cx 42 [dW a] (.i (wSign a)) := by
  refine fn_ok (c := _) _ Try.func42 rfl Try.ntmps42 rfl fun A w => ?_
  refine w_seq ?_
  refine w_reg ?_
  refine o_box rfl rfl rfl rfl rfl rfl ?_; intro b0
  refine Qv.step (u_p rfl rfl rfl) rfl rfl ?_
  refine o_nil ?_
  refine x_go ?_
  refine w_seq ?_
  refine w_block ?_
  refine w_seq ?_
  refine w_reg ?_
  refine Qv.step (d := .agg [_, _, _, _]) (.as (u_ld 0 rfl rfl rfl rfl rfl rfl) rfl) rfl rfl ?_
  refine Qv.step (u_call (below_ok a) Try.call58 rfl rfl rfl) rfl rfl ?_
  refine Qv.step (u_p rfl rfl rfl) rfl rfl ?_
  refine o_nil ?_
  refine x_go ?_
  refine w_if rfl (fun h => ?_) (fun h => ?_)
  · refine w_seq ?_
    refine w_reg ?_
    refine Qv.step (u_p rfl rfl rfl) rfl rfl ?_
    refine o_nil ?_
    refine x_go ?_
    refine w_ret (x_rt rfl rfl ?_)
    simp [wSign, h]
  
  have h1 : wBelow a = false := h
  clear h
  refine w_seq ?_
  refine w_reg ?_
  refine Qv.step (d := .agg [_, _, _, _]) (.as (u_ld 0 rfl rfl rfl rfl rfl rfl) rfl) rfl rfl ?_
  refine Qv.step (d := .agg [_, _, _, _]) (.as (u_bar rfl rfl rfl rfl rfl rfl rfl rfl) rfl) rfl rfl ?_
  refine Qv.step (u_eq rfl rfl rfl rfl rfl rfl rfl rfl rfl rfl rfl rfl) rfl rfl ?_
  refine Qv.step (u_p rfl rfl rfl) rfl rfl ?_
  refine o_nil ?_
  refine x_go ?_
  refine w_if rfl (fun h => ?_) (fun h => ?_)
  · refine w_seq ?_
    refine w_reg ?_
    refine Qv.step (u_p rfl rfl rfl) rfl rfl ?_
    refine o_nil ?_
    refine x_go ?_
    have h2 : (a == (0, 0, 0, 0)) = true := Eq.trans (w_eqV a (0, 0, 0, 0)).symm h
    refine w_ret (x_rt rfl rfl ?_)
    simp only [wSign, h1, h2, Bool.false_eq_true, if_false, if_true]
  
  · refine w_skip ?_
    refine x_go ?_
    refine w_seq ?_
    refine w_reg ?_
    refine Qv.step (u_p rfl rfl rfl) rfl rfl ?_
    refine o_nil ?_
    refine x_go ?_
    have h2 : (a == (0, 0, 0, 0)) = false := Eq.trans (w_eqV a (0, 0, 0, 0)).symm h
    refine w_ret (x_rt rfl rfl ?_)
    simp only [wSign, h1, h2, Bool.false_eq_true, if_false]

theorem add64_now (x y c : Nat) (hc : c ≤ 1) (w : World) : (callFunc 67 #[.int .u64 x, .int .u64 y, .int .u64 c]).run cx.P w =
    .ok (.value (.tuple #[.int .u64 (((x + y + c) % 18446744073709551616 : Nat) : Int), .int .u64 (((x + y + c) / 18446744073709551616 : Nat) : Int)])) w := by
  show (callFunc _ _).run Try.prog w = _
  rw [run_callFunc_extern Try.func67 (by kernel_rfl) (by kernel_rfl) (by kernel_rfl) (e := add64Entry) (by kernel_rfl), run_add64 x y c (by omega) (by omega) (by omega) (by omega)]
  simp only [Result.andThen]
  congr 5 <;> omega

def WOk (a : W4) : Prop := a.1 < 18446744073709551616 ∧ a.2.1 < 18446744073709551616 ∧ a.2.2.1 < 18446744073709551616 ∧ a.2.2.2 < 18446744073709551616
def wC1 (a b : W4) : Nat := (a.1 + b.1 + 0) / 18446744073709551616
def wC2 (a b : W4) : Nat := (a.2.1 + b.2.1 + wC1 a b) / 18446744073709551616
def wC3 (a b : W4) : Nat := (a.2.2.1 + b.2.2.1 + wC2 a b) / 18446744073709551616
def wC4 (a b : W4) : Nat := (a.2.2.2 + b.2.2.2 + wC3 a b) / 18446744073709551616
/-- The carry behind so many words. -/
def wCry (a b : W4) : Nat → Nat
  | 0 => 0
  | 1 => wC1 a b
  | 2 => wC2 a b
  | 3 => wC3 a b
  | _ => wC4 a b
theorem wCry_le {a b : W4} (ha : WOk a) (hb : WOk b) : ∀ k, wCry a b k ≤ 1 := by
  obtain ⟨a1, a2, a3, a4⟩ := ha
  obtain ⟨b1, b2, b3, b4⟩ := hb
  have h1 : wC1 a b ≤ 1 := by simp only [wC1]; omega
  have h2 : wC2 a b ≤ 1 := by simp only [wC2]; omega
  have h3 : wC3 a b ≤ 1 := by simp only [wC3]; omega
  have h4 : wC4 a b ≤ 1 := by simp only [wC4]; omega
  intro k
  match k with
  | 0 => exact Nat.zero_le _
  | 1 => exact h1
  | 2 => exact h2
  | 3 => exact h3
  | k + 4 => exact h4
/-- The sum's first words. -/
def wOut (a b : W4) : Nat → W4
  | 0 => (0, 0, 0, 0)
  | 1 => ((a.1 + b.1 + wCry a b 0) % 18446744073709551616, 0, 0, 0)
  | 2 => ((a.1 + b.1 + wCry a b 0) % 18446744073709551616, (a.2.1 + b.2.1 + wCry a b 1) % 18446744073709551616, 0, 0)
  | 3 => ((a.1 + b.1 + wCry a b 0) % 18446744073709551616, (a.2.1 + b.2.1 + wCry a b 1) % 18446744073709551616, (a.2.2.1 + b.2.2.1 + wCry a b 2) % 18446744073709551616, 0)
  | _ => ((a.1 + b.1 + wCry a b 0) % 18446744073709551616, (a.2.1 + b.2.1 + wCry a b 1) % 18446744073709551616, (a.2.2.1 + b.2.2.1 + wCry a b 2) % 18446744073709551616, (a.2.2.2 + b.2.2.2 + wCry a b 3) % 18446744073709551616)
theorem wOf_ok (n : Int) : WOk (wOf n) := by
  have key : ∀ m : Int, (IntKind.u64.wrap m).toNat < 18446744073709551616 := fun m => by
    simp only [IntKind.wrap, IntKind.bits, IntKind.signed]
    simp
    omega
  exact ⟨key _, key _, key _, key _⟩
theorem wOut_ok (a b : W4) : WOk (wOut a b 4) := by
  refine ⟨?_, ?_, ?_, ?_⟩ <;> simp only [wOut] <;> exact Nat.mod_lt _ (by decide)
def wAddBad (a b : W4) : Bool := (wBelow a == wBelow b) && (wBelow (wOut a b 4) != wBelow a)
def wAdd (a b : W4) : W4 × Int := if wAddBad a b then ((0, 0, 0, 0), 3) else (wOut a b 4, 0)
theorem wAdd_ok (a b : W4) : WOk (wAdd a b).1 := by
  unfold wAdd
  split
  · exact ⟨by decide, by decide, by decide, by decide⟩
  · exact wOut_ok a b
theorem rep_tv2 (A : Nat → Prop) (w : World) (u v : Value) : Rep A w (.tuple #[u, v]) (.tup [.v u, .v v]) := by
  have := RepL.cons (.v u) (RepL.cons (.v v) (RepL.nil (A := A) (w := w)))
  exact .tup [u, v] _ this.1 this.2
theorem Add_ok (a b : W4) (ha : WOk a) (hb : WOk b) : FunOk cx 57 [dW a, dW b] (.tup [dW (wAdd a b).1, .i (wAdd a b).2]) := by
  have hC := wCry_le ha hb
  refine fn_ok (c := _) _ Try.func57 rfl Try.ntmps57 rfl fun A w => ?_
  refine w_seq ?_
  refine w_reg ?_
  refine o_box rfl rfl rfl rfl rfl rfl ?_; intro b0
  refine o_box rfl rfl rfl rfl rfl rfl ?_; intro b1
  refine o_alloc rfl rfl rfl rfl rfl rfl ?_; intro b2
  refine Qv.step (u_p rfl rfl rfl) rfl rfl ?_
  refine o_nil ?_
  refine x_go ?_
  refine w_seq ?_
  refine w_reg ?_
  refine o_alloc rfl rfl rfl rfl rfl rfl ?_; intro b3
  refine o_nil ?_
  refine x_go ?_
  refine w_seq ?_
  refine w_reg ?_
  refine Qv.step (u_p rfl rfl rfl) rfl rfl ?_
  refine o_nil ?_
  refine x_go ?_
  refine w_seq ?_
  refine w_seq ?_
  refine w_reg ?_
  refine Qv.step (u_p rfl rfl rfl) rfl rfl ?_
  refine o_nil ?_
  refine x_go ?_
  refine w_block ?_
  
  refine w_loop (fun k : Nat => k ≤ 4) (fun k => ([(2, .v (.pointer (some ⟨b0, 0, none⟩))), (3, .v (.pointer (some ⟨b1, 0, none⟩))), (4, .v (.pointer (some ⟨b2, 0, none⟩))), (6, .v (.pointer (some ⟨b3, 0, none⟩))), (7, dW64 (wCry a b k)), (9, .v (.int .i64 (k : Int)))],
    [cellsR b0 113 (rW a), cellsR b1 113 (rW b), cellsR b2 113 (rW (0, 0, 0, 0)), cellsR b3 113 (rW (wOut a b k))])) (fun k => 4 - k) 0 (Nat.zero_le _) ⟨rfl, rfl, rfl, rfl, rfl, rfl, trivial⟩ rfl ?_
  rintro k hk
  refine w_seq ?_
  refine w_reg ?_
  refine Qv.step (u_p rfl rfl rfl) rfl rfl ?_
  refine o_nil ?_
  refine x_go ?_
  refine w_seq ?_
  refine w_if rfl (fun h => ?_) (fun h => ?_)
  · have hlt : k < 4 := by have : (k : Int) < 4 := by simpa using h
                           omega
    clear h
    have h4 : k = 0 ∨ k = 1 ∨ k = 2 ∨ k = 3 := by omega
    rcases h4 with rfl | rfl | rfl | rfl
    · skip
      refine w_skip ?_
      refine x_go ?_
      refine w_seq ?_
      refine w_block ?_
      refine w_seq ?_
      refine w_reg ?_
      refine Qv.step (u_p rfl rfl rfl) rfl rfl ?_
      refine Qv.step (u_p rfl rfl rfl) rfl rfl ?_
      refine o_nil ?_
      refine x_go ?_
      refine w_asG [cellsR _ _ [_, _, _, _], cellsR _ _ [_, _, _, _], cellsR _ _ [_, _, _, _], cellsR _ _ [_, _, _, _]] rfl ?_
      apply d_begin1 3 _ _ rfl
      refine d_qE [] (by kernel_rfl) rfl (fun _ _ _ _ => .onk (L' := []) rfl (u_p rfl rfl rfl) rfl) ?_
      refine d_qE [] (by kernel_rfl) rfl (fun _ _ _ _ => .onk (L' := []) rfl (u_p rfl rfl rfl) rfl) ?_
      refine d_qE [1] (by kernel_rfl) rfl (fun _ _ _ _ => .onk (L' := [(14, _)]) rfl (u_ixa rfl rfl rfl rfl rfl rfl rfl (by decide) (by decide)) rfl) ?_
      refine d_qE [2] (by kernel_rfl) rfl (fun _ _ _ _ => .onk (L' := [(15, _)]) rfl (u_ld 0 rfl rfl rfl rfl rfl rfl) rfl) ?_
      refine d_qE [] (by kernel_rfl) rfl (fun _ _ _ _ => .onk (L' := []) rfl (u_p rfl rfl rfl) rfl) ?_
      refine d_qE [4] (by kernel_rfl) rfl (fun _ _ _ _ => .onk (L' := [(17, _)]) rfl (u_ixa rfl rfl rfl rfl rfl rfl rfl (by decide) (by decide)) rfl) ?_
      refine d_qE [5] (by kernel_rfl) rfl (fun _ _ _ _ => .onk (L' := [(18, _)]) rfl (u_ld 1 rfl rfl rfl rfl rfl rfl) rfl) ?_
      refine d_qE [] (by kernel_rfl) rfl (fun _ _ _ _ => .onk (L' := []) rfl (u_p rfl rfl rfl) rfl) ?_
      refine d_qE [3, 6, 7] (by kernel_rfl) rfl (fun _ _ _ _ => .onk (L' := [(16, _), (19, _), (20, _)]) rfl (u_now (add64_now a.1 b.1 (wCry a b 0) (hC 0)) (fun _ _ => rep_tv2 _ _ _ _) rfl rfl rfl rfl) rfl) ?_
      refine d_qE [8] (by kernel_rfl) rfl (fun _ _ _ _ => .onk (L' := [(21, _)]) rfl (u_p rfl rfl rfl) rfl) ?_
      refine d_qE [9] (by kernel_rfl) rfl (fun _ _ _ _ => .onk (L' := [(12, _)]) rfl (u_p rfl rfl rfl) rfl) ?_
      refine d_qE [9] (by kernel_rfl) rfl (fun _ _ _ _ => .onk (L' := [(12, _)]) rfl (u_p rfl rfl rfl) rfl) ?_
      refine d_qE [0] (by kernel_rfl) rfl (fun _ _ _ _ => .onk (L' := [(13, _)]) rfl (u_ixa rfl rfl rfl rfl rfl rfl rfl (by decide) (by decide)) rfl) ?_
      refine d_st 3 [10, 12] 0 (by kernel_rfl) rfl rfl rfl (by kernel_rfl) (fun _ _ => rfl) (fun _ _ => rfl) rfl rfl (fun _ _ => rfl) rfl rfl (by first | rfl | kernel_rfl) (fun _ _ => rfl) ?_
      refine d_endE (by kernel_rfl) (by kernel_rfl) (by kernel_rfl) (fun _ => rfl) (fun bs _ => so_asE (L' := [(13, _), (14, _), (15, _), (16, _), (17, _), (18, _), (19, _), (20, _), (21, _), (12, _), (22, _), (23, _), (24, _)]) (G' := []) (Γ' := [_, _, _, _]) rfl rfl rfl ?_)
      refine Qv.step (u_p rfl rfl rfl) rfl rfl ?_
      refine o_nil ?_
      refine x_go ?_
      refine w_reg ?_
      refine Qv.step (u_p rfl rfl rfl) rfl rfl ?_
      refine Qv.step (u_p rfl rfl rfl) rfl rfl ?_
      refine o_nil ?_
      exact x_rd 1 4 (by decide) (by decide) rfl ⟨rfl, rfl, rfl, rfl, rfl, rfl, trivial⟩
    · skip
      refine w_skip ?_
      refine x_go ?_
      refine w_seq ?_
      refine w_block ?_
      refine w_seq ?_
      refine w_reg ?_
      refine Qv.step (u_p rfl rfl rfl) rfl rfl ?_
      refine Qv.step (u_p rfl rfl rfl) rfl rfl ?_
      refine o_nil ?_
      refine x_go ?_
      refine w_asG [cellsR _ _ [_, _, _, _], cellsR _ _ [_, _, _, _], cellsR _ _ [_, _, _, _], cellsR _ _ [_, _, _, _]] rfl ?_
      apply d_begin1 3 _ _ rfl
      refine d_qE [] (by kernel_rfl) rfl (fun _ _ _ _ => .onk (L' := []) rfl (u_p rfl rfl rfl) rfl) ?_
      refine d_qE [] (by kernel_rfl) rfl (fun _ _ _ _ => .onk (L' := []) rfl (u_p rfl rfl rfl) rfl) ?_
      refine d_qE [1] (by kernel_rfl) rfl (fun _ _ _ _ => .onk (L' := [(14, _)]) rfl (u_ixa rfl rfl rfl rfl rfl rfl rfl (by decide) (by decide)) rfl) ?_
      refine d_qE [2] (by kernel_rfl) rfl (fun _ _ _ _ => .onk (L' := [(15, _)]) rfl (u_ld 0 rfl rfl rfl rfl rfl rfl) rfl) ?_
      refine d_qE [] (by kernel_rfl) rfl (fun _ _ _ _ => .onk (L' := []) rfl (u_p rfl rfl rfl) rfl) ?_
      refine d_qE [4] (by kernel_rfl) rfl (fun _ _ _ _ => .onk (L' := [(17, _)]) rfl (u_ixa rfl rfl rfl rfl rfl rfl rfl (by decide) (by decide)) rfl) ?_
      refine d_qE [5] (by kernel_rfl) rfl (fun _ _ _ _ => .onk (L' := [(18, _)]) rfl (u_ld 1 rfl rfl rfl rfl rfl rfl) rfl) ?_
      refine d_qE [] (by kernel_rfl) rfl (fun _ _ _ _ => .onk (L' := []) rfl (u_p rfl rfl rfl) rfl) ?_
      refine d_qE [3, 6, 7] (by kernel_rfl) rfl (fun _ _ _ _ => .onk (L' := [(16, _), (19, _), (20, _)]) rfl (u_now (add64_now a.2.1 b.2.1 (wCry a b 1) (hC 1)) (fun _ _ => rep_tv2 _ _ _ _) rfl rfl rfl rfl) rfl) ?_
      refine d_qE [8] (by kernel_rfl) rfl (fun _ _ _ _ => .onk (L' := [(21, _)]) rfl (u_p rfl rfl rfl) rfl) ?_
      refine d_qE [9] (by kernel_rfl) rfl (fun _ _ _ _ => .onk (L' := [(12, _)]) rfl (u_p rfl rfl rfl) rfl) ?_
      refine d_qE [9] (by kernel_rfl) rfl (fun _ _ _ _ => .onk (L' := [(12, _)]) rfl (u_p rfl rfl rfl) rfl) ?_
      refine d_qE [0] (by kernel_rfl) rfl (fun _ _ _ _ => .onk (L' := [(13, _)]) rfl (u_ixa rfl rfl rfl rfl rfl rfl rfl (by decide) (by decide)) rfl) ?_
      refine d_st 3 [10, 12] 0 (by kernel_rfl) rfl rfl rfl (by kernel_rfl) (fun _ _ => rfl) (fun _ _ => rfl) rfl rfl (fun _ _ => rfl) rfl rfl (by first | rfl | kernel_rfl) (fun _ _ => rfl) ?_
      refine d_endE (by kernel_rfl) (by kernel_rfl) (by kernel_rfl) (fun _ => rfl) (fun bs _ => so_asE (L' := [(13, _), (14, _), (15, _), (16, _), (17, _), (18, _), (19, _), (20, _), (21, _), (12, _), (22, _), (23, _), (24, _)]) (G' := []) (Γ' := [_, _, _, _]) rfl rfl rfl ?_)
      refine Qv.step (u_p rfl rfl rfl) rfl rfl ?_
      refine o_nil ?_
      refine x_go ?_
      refine w_reg ?_
      refine Qv.step (u_p rfl rfl rfl) rfl rfl ?_
      refine Qv.step (u_p rfl rfl rfl) rfl rfl ?_
      refine o_nil ?_
      exact x_rd 2 4 (by decide) (by decide) rfl ⟨rfl, rfl, rfl, rfl, rfl, rfl, trivial⟩
    · skip
      refine w_skip ?_
      refine x_go ?_
      refine w_seq ?_
      refine w_block ?_
      refine w_seq ?_
      refine w_reg ?_
      refine Qv.step (u_p rfl rfl rfl) rfl rfl ?_
      refine Qv.step (u_p rfl rfl rfl) rfl rfl ?_
      refine o_nil ?_
      refine x_go ?_
      refine w_asG [cellsR _ _ [_, _, _, _], cellsR _ _ [_, _, _, _], cellsR _ _ [_, _, _, _], cellsR _ _ [_, _, _, _]] rfl ?_
      apply d_begin1 3 _ _ rfl
      refine d_qE [] (by kernel_rfl) rfl (fun _ _ _ _ => .onk (L' := []) rfl (u_p rfl rfl rfl) rfl) ?_
      refine d_qE [] (by kernel_rfl) rfl (fun _ _ _ _ => .onk (L' := []) rfl (u_p rfl rfl rfl) rfl) ?_
      refine d_qE [1] (by kernel_rfl) rfl (fun _ _ _ _ => .onk (L' := [(14, _)]) rfl (u_ixa rfl rfl rfl rfl rfl rfl rfl (by decide) (by decide)) rfl) ?_
      refine d_qE [2] (by kernel_rfl) rfl (fun _ _ _ _ => .onk (L' := [(15, _)]) rfl (u_ld 0 rfl rfl rfl rfl rfl rfl) rfl) ?_
      refine d_qE [] (by kernel_rfl) rfl (fun _ _ _ _ => .onk (L' := []) rfl (u_p rfl rfl rfl) rfl) ?_
      refine d_qE [4] (by kernel_rfl) rfl (fun _ _ _ _ => .onk (L' := [(17, _)]) rfl (u_ixa rfl rfl rfl rfl rfl rfl rfl (by decide) (by decide)) rfl) ?_
      refine d_qE [5] (by kernel_rfl) rfl (fun _ _ _ _ => .onk (L' := [(18, _)]) rfl (u_ld 1 rfl rfl rfl rfl rfl rfl) rfl) ?_
      refine d_qE [] (by kernel_rfl) rfl (fun _ _ _ _ => .onk (L' := []) rfl (u_p rfl rfl rfl) rfl) ?_
      refine d_qE [3, 6, 7] (by kernel_rfl) rfl (fun _ _ _ _ => .onk (L' := [(16, _), (19, _), (20, _)]) rfl (u_now (add64_now a.2.2.1 b.2.2.1 (wCry a b 2) (hC 2)) (fun _ _ => rep_tv2 _ _ _ _) rfl rfl rfl rfl) rfl) ?_
      refine d_qE [8] (by kernel_rfl) rfl (fun _ _ _ _ => .onk (L' := [(21, _)]) rfl (u_p rfl rfl rfl) rfl) ?_
      refine d_qE [9] (by kernel_rfl) rfl (fun _ _ _ _ => .onk (L' := [(12, _)]) rfl (u_p rfl rfl rfl) rfl) ?_
      refine d_qE [9] (by kernel_rfl) rfl (fun _ _ _ _ => .onk (L' := [(12, _)]) rfl (u_p rfl rfl rfl) rfl) ?_
      refine d_qE [0] (by kernel_rfl) rfl (fun _ _ _ _ => .onk (L' := [(13, _)]) rfl (u_ixa rfl rfl rfl rfl rfl rfl rfl (by decide) (by decide)) rfl) ?_
      refine d_st 3 [10, 12] 0 (by kernel_rfl) rfl rfl rfl (by kernel_rfl) (fun _ _ => rfl) (fun _ _ => rfl) rfl rfl (fun _ _ => rfl) rfl rfl (by first | rfl | kernel_rfl) (fun _ _ => rfl) ?_
      refine d_endE (by kernel_rfl) (by kernel_rfl) (by kernel_rfl) (fun _ => rfl) (fun bs _ => so_asE (L' := [(13, _), (14, _), (15, _), (16, _), (17, _), (18, _), (19, _), (20, _), (21, _), (12, _), (22, _), (23, _), (24, _)]) (G' := []) (Γ' := [_, _, _, _]) rfl rfl rfl ?_)
      refine Qv.step (u_p rfl rfl rfl) rfl rfl ?_
      refine o_nil ?_
      refine x_go ?_
      refine w_reg ?_
      refine Qv.step (u_p rfl rfl rfl) rfl rfl ?_
      refine Qv.step (u_p rfl rfl rfl) rfl rfl ?_
      refine o_nil ?_
      exact x_rd 3 4 (by decide) (by decide) rfl ⟨rfl, rfl, rfl, rfl, rfl, rfl, trivial⟩
    · skip
      refine w_skip ?_
      refine x_go ?_
      refine w_seq ?_
      refine w_block ?_
      refine w_seq ?_
      refine w_reg ?_
      refine Qv.step (u_p rfl rfl rfl) rfl rfl ?_
      refine Qv.step (u_p rfl rfl rfl) rfl rfl ?_
      refine o_nil ?_
      refine x_go ?_
      refine w_asG [cellsR _ _ [_, _, _, _], cellsR _ _ [_, _, _, _], cellsR _ _ [_, _, _, _], cellsR _ _ [_, _, _, _]] rfl ?_
      apply d_begin1 3 _ _ rfl
      refine d_qE [] (by kernel_rfl) rfl (fun _ _ _ _ => .onk (L' := []) rfl (u_p rfl rfl rfl) rfl) ?_
      refine d_qE [] (by kernel_rfl) rfl (fun _ _ _ _ => .onk (L' := []) rfl (u_p rfl rfl rfl) rfl) ?_
      refine d_qE [1] (by kernel_rfl) rfl (fun _ _ _ _ => .onk (L' := [(14, _)]) rfl (u_ixa rfl rfl rfl rfl rfl rfl rfl (by decide) (by decide)) rfl) ?_
      refine d_qE [2] (by kernel_rfl) rfl (fun _ _ _ _ => .onk (L' := [(15, _)]) rfl (u_ld 0 rfl rfl rfl rfl rfl rfl) rfl) ?_
      refine d_qE [] (by kernel_rfl) rfl (fun _ _ _ _ => .onk (L' := []) rfl (u_p rfl rfl rfl) rfl) ?_
      refine d_qE [4] (by kernel_rfl) rfl (fun _ _ _ _ => .onk (L' := [(17, _)]) rfl (u_ixa rfl rfl rfl rfl rfl rfl rfl (by decide) (by decide)) rfl) ?_
      refine d_qE [5] (by kernel_rfl) rfl (fun _ _ _ _ => .onk (L' := [(18, _)]) rfl (u_ld 1 rfl rfl rfl rfl rfl rfl) rfl) ?_
      refine d_qE [] (by kernel_rfl) rfl (fun _ _ _ _ => .onk (L' := []) rfl (u_p rfl rfl rfl) rfl) ?_
      refine d_qE [3, 6, 7] (by kernel_rfl) rfl (fun _ _ _ _ => .onk (L' := [(16, _), (19, _), (20, _)]) rfl (u_now (add64_now a.2.2.2 b.2.2.2 (wCry a b 3) (hC 3)) (fun _ _ => rep_tv2 _ _ _ _) rfl rfl rfl rfl) rfl) ?_
      refine d_qE [8] (by kernel_rfl) rfl (fun _ _ _ _ => .onk (L' := [(21, _)]) rfl (u_p rfl rfl rfl) rfl) ?_
      refine d_qE [9] (by kernel_rfl) rfl (fun _ _ _ _ => .onk (L' := [(12, _)]) rfl (u_p rfl rfl rfl) rfl) ?_
      refine d_qE [9] (by kernel_rfl) rfl (fun _ _ _ _ => .onk (L' := [(12, _)]) rfl (u_p rfl rfl rfl) rfl) ?_
      refine d_qE [0] (by kernel_rfl) rfl (fun _ _ _ _ => .onk (L' := [(13, _)]) rfl (u_ixa rfl rfl rfl rfl rfl rfl rfl (by decide) (by decide)) rfl) ?_
      refine d_st 3 [10, 12] 0 (by kernel_rfl) rfl rfl rfl (by kernel_rfl) (fun _ _ => rfl) (fun _ _ => rfl) rfl rfl (fun _ _ => rfl) rfl rfl (by first | rfl | kernel_rfl) (fun _ _ => rfl) ?_
      refine d_endE (by kernel_rfl) (by kernel_rfl) (by kernel_rfl) (fun _ => rfl) (fun bs _ => so_asE (L' := [(13, _), (14, _), (15, _), (16, _), (17, _), (18, _), (19, _), (20, _), (21, _), (12, _), (22, _), (23, _), (24, _)]) (G' := []) (Γ' := [_, _, _, _]) rfl rfl rfl ?_)
      refine Qv.step (u_p rfl rfl rfl) rfl rfl ?_
      refine o_nil ?_
      refine x_go ?_
      refine w_reg ?_
      refine Qv.step (u_p rfl rfl rfl) rfl rfl ?_
      refine Qv.step (u_p rfl rfl rfl) rfl rfl ?_
      refine o_nil ?_
      exact x_rd 4 4 (by decide) (by decide) rfl ⟨rfl, rfl, rfl, rfl, rfl, rfl, trivial⟩
  
  have hge : k = 4 := by have : ¬ (k : Int) < 4 := by simpa using h
                         omega
  clear h
  subst hge
  refine w_exit ?_
  refine x_go ?_
  refine w_seq ?_
  refine w_seq ?_
  refine d_begin ?_
  refine d_q (d := .agg [_, _, _, _]) [] (by kernel_rfl) rfl (fun _ _ _ => .onk (L' := []) rfl (u_ld 0 rfl rfl rfl rfl rfl rfl) rfl) ?_
  refine d_q [0] (by kernel_rfl) rfl (fun _ _ _ => .onk (L' := [(26, _)]) rfl (u_call (below_ok a) Try.call58 rfl rfl rfl) rfl) ?_
  refine d_q (d := .agg [_, _, _, _]) [] (by kernel_rfl) rfl (fun _ _ _ => .onk (L' := []) rfl (u_ld 1 rfl rfl rfl rfl rfl rfl) rfl) ?_
  refine d_q [2] (by kernel_rfl) rfl (fun _ _ _ => .onk (L' := [(28, _)]) rfl (u_call (below_ok b) Try.call58 rfl rfl rfl) rfl) ?_
  refine d_q [1, 3] (by kernel_rfl) rfl (fun _ _ _ => .onk (L' := [(27, _), (29, _)]) rfl (u_bb rfl rfl rfl rfl rfl rfl rfl) rfl) ?_
  refine d_q [4] (by kernel_rfl) rfl (fun _ _ _ => .onk (L' := [(30, _)]) rfl (u_p rfl rfl rfl) rfl) ?_
  refine d_q (d := .gd _ _ (.agg [_, _, _, _])) [5] (by kernel_rfl) rfl (fun _ _ _ => .onk (L' := [(31, _)]) rfl (q_ld (G := [(_, true)]) 3 rfl rfl rfl rfl rfl rfl rfl) rfl) ?_
  refine d_q (d := .gd _ _ _) [5, 6] (by kernel_rfl) rfl (fun _ _ _ => .onk (L' := [(31, _), (32, _)]) rfl (q_call (G := [(_, true)]) (below_ok (wOut a b 4)) Try.call58 rfl rfl rfl rfl) rfl) ?_
  refine d_q (d := .gd _ _ (.agg [_, _, _, _])) [5] (by kernel_rfl) rfl (fun _ _ _ => .onk (L' := [(31, _)]) rfl (q_ld (G := [(_, true)]) 0 rfl rfl rfl rfl rfl rfl rfl) rfl) ?_
  refine d_q (d := .gd _ _ _) [5, 8] (by kernel_rfl) rfl (fun _ _ _ => .onk (L' := [(31, _), (34, _)]) rfl (q_call (G := [(_, true)]) (below_ok a) Try.call58 rfl rfl rfl rfl) rfl) ?_
  refine d_q (d := .gd _ _ _) [5, 7, 9] (by kernel_rfl) rfl (fun _ _ _ => .onk (L' := [(31, _), (33, _), (35, _)]) rfl (q_bb (G := [(_, true)]) rfl rfl rfl rfl rfl rfl rfl rfl) rfl) ?_
  refine d_q (d := .v _) [5, 10] (by kernel_rfl) rfl (fun _ _ _ => .onk (L' := [(31, _), (36, _)]) rfl (u_pick rfl rfl rfl rfl rfl rfl rfl rfl rfl) rfl) ?_
  refine d_end (by kernel_rfl) (by kernel_rfl) (by kernel_rfl) (fun bs _ => so_as (L' := [(26, _), (27, _), (28, _), (29, _), (30, _), (31, _), (32, _), (33, _), (34, _), (35, _), (36, _), (37, _)]) (G' := []) rfl rfl ?_)
  refine o_nil ?_
  refine x_go ?_
  refine w_if rfl (fun h => ?_) (fun h => ?_)
  · refine w_seq ?_
    refine w_reg ?_
    refine Qv.step (d := .agg [_, _, _, _]) (.as (u_bar rfl rfl rfl rfl rfl rfl rfl rfl) rfl) rfl rfl ?_
    refine o_st 2 rfl rfl rfl rfl rfl rfl rfl rfl rfl rfl (by first | rfl | kernel_rfl) ?_
    refine Qv.step (u_p rfl rfl rfl) rfl rfl ?_
    refine o_nil ?_
    refine x_go ?_
    refine w_ret (x_r2 rfl (rs_c 2 rfl rfl rfl rfl) (rs_t rfl) ?_)
    have h' : wAddBad a b = true := Eq.trans (by unfold wAddBad; simp [bne]) h
    simp only [wAdd, h', if_true]
    rfl
  
  · refine w_skip ?_
    refine x_go ?_
    refine w_seq ?_
    refine w_reg ?_
    refine Qv.step (d := .agg [_, _, _, _]) (.as (u_ld 3 rfl rfl rfl rfl rfl rfl) rfl) rfl rfl ?_
    refine o_st 2 rfl rfl rfl rfl rfl rfl rfl rfl rfl rfl (by first | rfl | kernel_rfl) ?_
    refine Qv.step (u_p rfl rfl rfl) rfl rfl ?_
    refine o_nil ?_
    refine x_go ?_
    refine w_ret (x_r2 rfl (rs_c 2 rfl rfl rfl rfl) (rs_t rfl) ?_)
    have h' : wAddBad a b = false := Eq.trans (by unfold wAddBad; simp [bne]) h
    simp only [wAdd, h', Bool.false_eq_true, if_false]
    rfl

def wL3 (a b : W4) : Int := if a.1 < b.1 then -1 else if b.1 < a.1 then 1 else 0
def wL2 (a b : W4) : Int := if a.2.1 < b.2.1 then -1 else if b.2.1 < a.2.1 then 1 else wL3 a b
def wL1 (a b : W4) : Int := if a.2.2.1 < b.2.2.1 then -1 else if b.2.2.1 < a.2.2.1 then 1 else wL2 a b
def wL0 (a b : W4) : Int := if a.2.2.2 < b.2.2.2 then -1 else if b.2.2.2 < a.2.2.2 then 1 else wL1 a b
/-- What is left to hold, behind so many rounds. -/
def wLx (a b : W4) : Nat → Int
  | 0 => wL0 a b
  | 1 => wL1 a b
  | 2 => wL2 a b
  | 3 => wL3 a b
  | _ => 0
def wCmp (a b : W4) : Int := if wBelow a != wBelow b then (if wBelow a then -1 else 1) else wLx a b 0
def wIx : Nat → Int
  | 0 => 3
  | 1 => 2
  | 2 => 1
  | 3 => 0
  | _ => -1
theorem lt_of_dec {m n : Nat} (h : decide ((m : Int) < (n : Int)) = true) : m < n := by simpa using h
theorem nlt_of_dec {m n : Nat} (h : decide ((m : Int) < (n : Int)) = false) : ¬ m < n := by simpa using h
theorem Cmp_ok (a b : W4) : FunOk cx 62 [dW a, dW b] (.i (wCmp a b)) := by
  refine fn_ok (c := _) _ Try.func62 rfl Try.ntmps62 rfl fun A w => ?_
  refine w_seq ?_
  refine w_reg ?_
  refine o_box rfl rfl rfl rfl rfl rfl ?_; intro b0
  refine o_box rfl rfl rfl rfl rfl rfl ?_; intro b1
  refine Qv.step (u_p rfl rfl rfl) rfl rfl ?_
  refine o_nil ?_
  refine x_go ?_
  refine w_seq ?_
  refine w_seq ?_
  refine d_begin ?_
  refine d_q (d := .agg [_, _, _, _]) [] (by kernel_rfl) rfl (fun _ _ _ => .onk (L' := []) rfl (u_ld 0 rfl rfl rfl rfl rfl rfl) rfl) ?_
  refine d_q [0] (by kernel_rfl) rfl (fun _ _ _ => .onk (L' := [(6, _)]) rfl (u_call (below_ok a) Try.call58 rfl rfl rfl) rfl) ?_
  refine d_q (d := .agg [_, _, _, _]) [] (by kernel_rfl) rfl (fun _ _ _ => .onk (L' := []) rfl (u_ld 1 rfl rfl rfl rfl rfl rfl) rfl) ?_
  refine d_q [2] (by kernel_rfl) rfl (fun _ _ _ => .onk (L' := [(8, _)]) rfl (u_call (below_ok b) Try.call58 rfl rfl rfl) rfl) ?_
  refine d_q [1, 3] (by kernel_rfl) rfl (fun _ _ _ => .onk (L' := [(7, _), (9, _)]) rfl (u_bb rfl rfl rfl rfl rfl rfl rfl) rfl) ?_
  refine d_end (by kernel_rfl) (by kernel_rfl) (by kernel_rfl) (fun bs _ => so_as (L' := [(6, _), (7, _), (8, _), (9, _), (10, _)]) (G' := []) rfl rfl ?_)
  refine o_nil ?_
  refine x_go ?_
  refine w_if rfl (fun h => ?_) (fun h => ?_)
  · have h0 : (wBelow a != wBelow b) = true := Eq.trans (by simp [bne]) h
    clear h
    refine w_seq ?_
    refine w_seq ?_
    refine w_reg ?_
    refine Qv.step (d := .agg [_, _, _, _]) (.as (u_ld 0 rfl rfl rfl rfl rfl rfl) rfl) rfl rfl ?_
    refine Qv.step (u_call (below_ok a) Try.call58 rfl rfl rfl) rfl rfl ?_
    refine o_nil ?_
    refine x_go ?_
    refine w_if rfl (fun h => ?_) (fun h => ?_)
    · refine w_seq ?_
      refine w_reg ?_
      refine Qv.step (u_p rfl rfl rfl) rfl rfl ?_
      refine o_nil ?_
      refine x_go ?_
      refine w_ret (x_rt rfl rfl ?_)
      simp only [wCmp, h0, if_true]
      simp only [h, if_true]
    
    · refine w_skip ?_
      refine x_go ?_
      refine w_seq ?_
      refine w_reg ?_
      refine Qv.step (u_p rfl rfl rfl) rfl rfl ?_
      refine o_nil ?_
      refine x_go ?_
      refine w_ret (x_rt rfl rfl ?_)
      simp only [wCmp, h0, if_true]
      simp only [h, Bool.false_eq_true, if_false]
  
  have h0 : (wBelow a != wBelow b) = false := Eq.trans (by simp [bne]) h
  clear h
  have hC : wCmp a b = wLx a b 0 := by simp only [wCmp, h0, Bool.false_eq_true, if_false]
  refine w_skip ?_
  refine x_go ?_
  refine w_seq ?_
  refine w_seq ?_
  refine w_reg ?_
  refine Qv.step (u_p rfl rfl rfl) rfl rfl ?_
  refine o_nil ?_
  refine x_go ?_
  refine w_block ?_
  
  refine w_loop (fun k : Nat => k ≤ 4 ∧ wLx a b k = wLx a b 0) (fun k => ([(2, .v (.pointer (some ⟨b0, 0, none⟩))), (3, .v (.pointer (some ⟨b1, 0, none⟩))), (5, .v (.int .i64 (wIx k)))],
    [cellsR b0 113 (rW a), cellsR b1 113 (rW b)])) (fun k => 4 - k) 0 ⟨Nat.zero_le _, rfl⟩ ⟨rfl, rfl, rfl, trivial⟩ rfl ?_
  rintro k ⟨hk, hI⟩
  refine w_seq ?_
  refine w_seq ?_
  refine w_reg ?_
  refine Qv.step (u_p rfl rfl rfl) rfl rfl ?_
  refine Qv.step (u_p rfl rfl rfl) rfl rfl ?_
  refine o_nil ?_
  refine x_go ?_
  refine w_if rfl (fun h => ?_) (fun h => ?_)
  · have h4 : k = 0 ∨ k = 1 ∨ k = 2 ∨ k = 3 := by
      rcases (by omega : k = 0 ∨ k = 1 ∨ k = 2 ∨ k = 3 ∨ k = 4) with rfl | rfl | rfl | rfl | rfl
      · exact .inl rfl
      · exact .inr (.inl rfl)
      · exact .inr (.inr (.inl rfl))
      · exact .inr (.inr (.inr rfl))
      · exact absurd h (by decide)
    clear h
    rcases h4 with rfl | rfl | rfl | rfl
    · skip
      refine w_skip ?_
      refine x_go ?_
      refine w_seq ?_
      refine w_block ?_
      refine w_block ?_
      refine w_seq ?_
      refine d_begin ?_
      refine d_q [] (by kernel_rfl) rfl (fun _ _ _ => .onk (L' := []) rfl (u_p rfl rfl rfl) rfl) ?_
      refine d_q [0] (by kernel_rfl) rfl (fun _ _ _ => .onk (L' := [(18, _)]) rfl (u_ixa rfl rfl rfl rfl rfl rfl rfl (by decide) (by decide)) rfl) ?_
      refine d_q [1] (by kernel_rfl) rfl (fun _ _ _ => .onk (L' := [(19, _)]) rfl (u_ld 0 rfl rfl rfl rfl rfl rfl) rfl) ?_
      refine d_q [] (by kernel_rfl) rfl (fun _ _ _ => .onk (L' := []) rfl (u_p rfl rfl rfl) rfl) ?_
      refine d_q [3] (by kernel_rfl) rfl (fun _ _ _ => .onk (L' := [(21, _)]) rfl (u_ixa rfl rfl rfl rfl rfl rfl rfl (by decide) (by decide)) rfl) ?_
      refine d_q [4] (by kernel_rfl) rfl (fun _ _ _ => .onk (L' := [(22, _)]) rfl (u_ld 1 rfl rfl rfl rfl rfl rfl) rfl) ?_
      refine d_q [2, 5] (by kernel_rfl) rfl (fun _ _ _ => .onk (L' := [(20, _), (23, _)]) rfl (u_p rfl rfl rfl) rfl) ?_
      refine d_end (by kernel_rfl) (by kernel_rfl) (by kernel_rfl) (fun bs _ => so_as (L' := [(18, _), (19, _), (20, _), (21, _), (22, _), (23, _), (24, _)]) (G' := []) rfl rfl ?_)
      refine Qv.step (u_p rfl rfl rfl) rfl rfl ?_
      refine o_nil ?_
      refine x_go ?_
      refine w_if rfl (fun h => ?_) (fun h => ?_)
      · refine w_seq ?_
        refine w_reg ?_
        refine Qv.step (u_p rfl rfl rfl) rfl rfl ?_
        refine o_nil ?_
        refine x_go ?_
        refine w_ret (x_rt rfl rfl ?_)
        have h' : a.2.2.2 < b.2.2.2 := lt_of_dec h
        rw [hC, ← hI]
        simp only [wLx, wL0, h', if_true]
      
      have h1 : ¬ a.2.2.2 < b.2.2.2 := nlt_of_dec h
      clear h
      refine w_seq ?_
      refine d_begin ?_
      refine d_q [] (by kernel_rfl) rfl (fun _ _ _ => .onk (L' := []) rfl (u_p rfl rfl rfl) rfl) ?_
      refine d_q [0] (by kernel_rfl) rfl (fun _ _ _ => .onk (L' := [(26, _)]) rfl (u_ixa rfl rfl rfl rfl rfl rfl rfl (by decide) (by decide)) rfl) ?_
      refine d_q [1] (by kernel_rfl) rfl (fun _ _ _ => .onk (L' := [(27, _)]) rfl (u_ld 0 rfl rfl rfl rfl rfl rfl) rfl) ?_
      refine d_q [] (by kernel_rfl) rfl (fun _ _ _ => .onk (L' := []) rfl (u_p rfl rfl rfl) rfl) ?_
      refine d_q [3] (by kernel_rfl) rfl (fun _ _ _ => .onk (L' := [(29, _)]) rfl (u_ixa rfl rfl rfl rfl rfl rfl rfl (by decide) (by decide)) rfl) ?_
      refine d_q [4] (by kernel_rfl) rfl (fun _ _ _ => .onk (L' := [(30, _)]) rfl (u_ld 1 rfl rfl rfl rfl rfl rfl) rfl) ?_
      refine d_q [2, 5] (by kernel_rfl) rfl (fun _ _ _ => .onk (L' := [(28, _), (31, _)]) rfl (u_p rfl rfl rfl) rfl) ?_
      refine d_end (by kernel_rfl) (by kernel_rfl) (by kernel_rfl) (fun bs _ => so_as (L' := [(26, _), (27, _), (28, _), (29, _), (30, _), (31, _), (32, _)]) (G' := []) rfl rfl ?_)
      refine Qv.step (u_p rfl rfl rfl) rfl rfl ?_
      refine o_nil ?_
      refine x_go ?_
      refine w_if rfl (fun h => ?_) (fun h => ?_)
      · refine w_seq ?_
        refine w_reg ?_
        refine Qv.step (u_p rfl rfl rfl) rfl rfl ?_
        refine o_nil ?_
        refine x_go ?_
        refine w_ret (x_rt rfl rfl ?_)
        have h' : b.2.2.2 < a.2.2.2 := lt_of_dec h
        rw [hC, ← hI]
        simp only [wLx, wL0, h1, h', if_true, if_false]
      
      have h2 : ¬ b.2.2.2 < a.2.2.2 := nlt_of_dec h
      clear h
      refine w_skip ?_
      refine x_go ?_
      refine w_reg ?_
      refine Qv.step (u_p rfl rfl rfl) rfl rfl ?_
      refine Qv.step (u_p rfl rfl rfl) rfl rfl ?_
      refine Qv.step (u_p rfl rfl rfl) rfl rfl ?_
      refine o_nil ?_
      refine x_rd 1 2 (by decide) ⟨by decide, ?_⟩ rfl ⟨rfl, rfl, by first | rfl | kernel_rfl, trivial⟩
      rw [← hI]
      simp only [wLx, wL0, h1, h2, if_false]
    · skip
      refine w_skip ?_
      refine x_go ?_
      refine w_seq ?_
      refine w_block ?_
      refine w_block ?_
      refine w_seq ?_
      refine d_begin ?_
      refine d_q [] (by kernel_rfl) rfl (fun _ _ _ => .onk (L' := []) rfl (u_p rfl rfl rfl) rfl) ?_
      refine d_q [0] (by kernel_rfl) rfl (fun _ _ _ => .onk (L' := [(18, _)]) rfl (u_ixa rfl rfl rfl rfl rfl rfl rfl (by decide) (by decide)) rfl) ?_
      refine d_q [1] (by kernel_rfl) rfl (fun _ _ _ => .onk (L' := [(19, _)]) rfl (u_ld 0 rfl rfl rfl rfl rfl rfl) rfl) ?_
      refine d_q [] (by kernel_rfl) rfl (fun _ _ _ => .onk (L' := []) rfl (u_p rfl rfl rfl) rfl) ?_
      refine d_q [3] (by kernel_rfl) rfl (fun _ _ _ => .onk (L' := [(21, _)]) rfl (u_ixa rfl rfl rfl rfl rfl rfl rfl (by decide) (by decide)) rfl) ?_
      refine d_q [4] (by kernel_rfl) rfl (fun _ _ _ => .onk (L' := [(22, _)]) rfl (u_ld 1 rfl rfl rfl rfl rfl rfl) rfl) ?_
      refine d_q [2, 5] (by kernel_rfl) rfl (fun _ _ _ => .onk (L' := [(20, _), (23, _)]) rfl (u_p rfl rfl rfl) rfl) ?_
      refine d_end (by kernel_rfl) (by kernel_rfl) (by kernel_rfl) (fun bs _ => so_as (L' := [(18, _), (19, _), (20, _), (21, _), (22, _), (23, _), (24, _)]) (G' := []) rfl rfl ?_)
      refine Qv.step (u_p rfl rfl rfl) rfl rfl ?_
      refine o_nil ?_
      refine x_go ?_
      refine w_if rfl (fun h => ?_) (fun h => ?_)
      · refine w_seq ?_
        refine w_reg ?_
        refine Qv.step (u_p rfl rfl rfl) rfl rfl ?_
        refine o_nil ?_
        refine x_go ?_
        refine w_ret (x_rt rfl rfl ?_)
        have h' : a.2.2.1 < b.2.2.1 := lt_of_dec h
        rw [hC, ← hI]
        simp only [wLx, wL1, h', if_true]
      
      have h1 : ¬ a.2.2.1 < b.2.2.1 := nlt_of_dec h
      clear h
      refine w_seq ?_
      refine d_begin ?_
      refine d_q [] (by kernel_rfl) rfl (fun _ _ _ => .onk (L' := []) rfl (u_p rfl rfl rfl) rfl) ?_
      refine d_q [0] (by kernel_rfl) rfl (fun _ _ _ => .onk (L' := [(26, _)]) rfl (u_ixa rfl rfl rfl rfl rfl rfl rfl (by decide) (by decide)) rfl) ?_
      refine d_q [1] (by kernel_rfl) rfl (fun _ _ _ => .onk (L' := [(27, _)]) rfl (u_ld 0 rfl rfl rfl rfl rfl rfl) rfl) ?_
      refine d_q [] (by kernel_rfl) rfl (fun _ _ _ => .onk (L' := []) rfl (u_p rfl rfl rfl) rfl) ?_
      refine d_q [3] (by kernel_rfl) rfl (fun _ _ _ => .onk (L' := [(29, _)]) rfl (u_ixa rfl rfl rfl rfl rfl rfl rfl (by decide) (by decide)) rfl) ?_
      refine d_q [4] (by kernel_rfl) rfl (fun _ _ _ => .onk (L' := [(30, _)]) rfl (u_ld 1 rfl rfl rfl rfl rfl rfl) rfl) ?_
      refine d_q [2, 5] (by kernel_rfl) rfl (fun _ _ _ => .onk (L' := [(28, _), (31, _)]) rfl (u_p rfl rfl rfl) rfl) ?_
      refine d_end (by kernel_rfl) (by kernel_rfl) (by kernel_rfl) (fun bs _ => so_as (L' := [(26, _), (27, _), (28, _), (29, _), (30, _), (31, _), (32, _)]) (G' := []) rfl rfl ?_)
      refine Qv.step (u_p rfl rfl rfl) rfl rfl ?_
      refine o_nil ?_
      refine x_go ?_
      refine w_if rfl (fun h => ?_) (fun h => ?_)
      · refine w_seq ?_
        refine w_reg ?_
        refine Qv.step (u_p rfl rfl rfl) rfl rfl ?_
        refine o_nil ?_
        refine x_go ?_
        refine w_ret (x_rt rfl rfl ?_)
        have h' : b.2.2.1 < a.2.2.1 := lt_of_dec h
        rw [hC, ← hI]
        simp only [wLx, wL1, h1, h', if_true, if_false]
      
      have h2 : ¬ b.2.2.1 < a.2.2.1 := nlt_of_dec h
      clear h
      refine w_skip ?_
      refine x_go ?_
      refine w_reg ?_
      refine Qv.step (u_p rfl rfl rfl) rfl rfl ?_
      refine Qv.step (u_p rfl rfl rfl) rfl rfl ?_
      refine Qv.step (u_p rfl rfl rfl) rfl rfl ?_
      refine o_nil ?_
      refine x_rd 2 2 (by decide) ⟨by decide, ?_⟩ rfl ⟨rfl, rfl, by first | rfl | kernel_rfl, trivial⟩
      rw [← hI]
      simp only [wLx, wL1, h1, h2, if_false]
    · skip
      refine w_skip ?_
      refine x_go ?_
      refine w_seq ?_
      refine w_block ?_
      refine w_block ?_
      refine w_seq ?_
      refine d_begin ?_
      refine d_q [] (by kernel_rfl) rfl (fun _ _ _ => .onk (L' := []) rfl (u_p rfl rfl rfl) rfl) ?_
      refine d_q [0] (by kernel_rfl) rfl (fun _ _ _ => .onk (L' := [(18, _)]) rfl (u_ixa rfl rfl rfl rfl rfl rfl rfl (by decide) (by decide)) rfl) ?_
      refine d_q [1] (by kernel_rfl) rfl (fun _ _ _ => .onk (L' := [(19, _)]) rfl (u_ld 0 rfl rfl rfl rfl rfl rfl) rfl) ?_
      refine d_q [] (by kernel_rfl) rfl (fun _ _ _ => .onk (L' := []) rfl (u_p rfl rfl rfl) rfl) ?_
      refine d_q [3] (by kernel_rfl) rfl (fun _ _ _ => .onk (L' := [(21, _)]) rfl (u_ixa rfl rfl rfl rfl rfl rfl rfl (by decide) (by decide)) rfl) ?_
      refine d_q [4] (by kernel_rfl) rfl (fun _ _ _ => .onk (L' := [(22, _)]) rfl (u_ld 1 rfl rfl rfl rfl rfl rfl) rfl) ?_
      refine d_q [2, 5] (by kernel_rfl) rfl (fun _ _ _ => .onk (L' := [(20, _), (23, _)]) rfl (u_p rfl rfl rfl) rfl) ?_
      refine d_end (by kernel_rfl) (by kernel_rfl) (by kernel_rfl) (fun bs _ => so_as (L' := [(18, _), (19, _), (20, _), (21, _), (22, _), (23, _), (24, _)]) (G' := []) rfl rfl ?_)
      refine Qv.step (u_p rfl rfl rfl) rfl rfl ?_
      refine o_nil ?_
      refine x_go ?_
      refine w_if rfl (fun h => ?_) (fun h => ?_)
      · refine w_seq ?_
        refine w_reg ?_
        refine Qv.step (u_p rfl rfl rfl) rfl rfl ?_
        refine o_nil ?_
        refine x_go ?_
        refine w_ret (x_rt rfl rfl ?_)
        have h' : a.2.1 < b.2.1 := lt_of_dec h
        rw [hC, ← hI]
        simp only [wLx, wL2, h', if_true]
      
      have h1 : ¬ a.2.1 < b.2.1 := nlt_of_dec h
      clear h
      refine w_seq ?_
      refine d_begin ?_
      refine d_q [] (by kernel_rfl) rfl (fun _ _ _ => .onk (L' := []) rfl (u_p rfl rfl rfl) rfl) ?_
      refine d_q [0] (by kernel_rfl) rfl (fun _ _ _ => .onk (L' := [(26, _)]) rfl (u_ixa rfl rfl rfl rfl rfl rfl rfl (by decide) (by decide)) rfl) ?_
      refine d_q [1] (by kernel_rfl) rfl (fun _ _ _ => .onk (L' := [(27, _)]) rfl (u_ld 0 rfl rfl rfl rfl rfl rfl) rfl) ?_
      refine d_q [] (by kernel_rfl) rfl (fun _ _ _ => .onk (L' := []) rfl (u_p rfl rfl rfl) rfl) ?_
      refine d_q [3] (by kernel_rfl) rfl (fun _ _ _ => .onk (L' := [(29, _)]) rfl (u_ixa rfl rfl rfl rfl rfl rfl rfl (by decide) (by decide)) rfl) ?_
      refine d_q [4] (by kernel_rfl) rfl (fun _ _ _ => .onk (L' := [(30, _)]) rfl (u_ld 1 rfl rfl rfl rfl rfl rfl) rfl) ?_
      refine d_q [2, 5] (by kernel_rfl) rfl (fun _ _ _ => .onk (L' := [(28, _), (31, _)]) rfl (u_p rfl rfl rfl) rfl) ?_
      refine d_end (by kernel_rfl) (by kernel_rfl) (by kernel_rfl) (fun bs _ => so_as (L' := [(26, _), (27, _), (28, _), (29, _), (30, _), (31, _), (32, _)]) (G' := []) rfl rfl ?_)
      refine Qv.step (u_p rfl rfl rfl) rfl rfl ?_
      refine o_nil ?_
      refine x_go ?_
      refine w_if rfl (fun h => ?_) (fun h => ?_)
      · refine w_seq ?_
        refine w_reg ?_
        refine Qv.step (u_p rfl rfl rfl) rfl rfl ?_
        refine o_nil ?_
        refine x_go ?_
        refine w_ret (x_rt rfl rfl ?_)
        have h' : b.2.1 < a.2.1 := lt_of_dec h
        rw [hC, ← hI]
        simp only [wLx, wL2, h1, h', if_true, if_false]
      
      have h2 : ¬ b.2.1 < a.2.1 := nlt_of_dec h
      clear h
      refine w_skip ?_
      refine x_go ?_
      refine w_reg ?_
      refine Qv.step (u_p rfl rfl rfl) rfl rfl ?_
      refine Qv.step (u_p rfl rfl rfl) rfl rfl ?_
      refine Qv.step (u_p rfl rfl rfl) rfl rfl ?_
      refine o_nil ?_
      refine x_rd 3 2 (by decide) ⟨by decide, ?_⟩ rfl ⟨rfl, rfl, by first | rfl | kernel_rfl, trivial⟩
      rw [← hI]
      simp only [wLx, wL2, h1, h2, if_false]
    · skip
      refine w_skip ?_
      refine x_go ?_
      refine w_seq ?_
      refine w_block ?_
      refine w_block ?_
      refine w_seq ?_
      refine d_begin ?_
      refine d_q [] (by kernel_rfl) rfl (fun _ _ _ => .onk (L' := []) rfl (u_p rfl rfl rfl) rfl) ?_
      refine d_q [0] (by kernel_rfl) rfl (fun _ _ _ => .onk (L' := [(18, _)]) rfl (u_ixa rfl rfl rfl rfl rfl rfl rfl (by decide) (by decide)) rfl) ?_
      refine d_q [1] (by kernel_rfl) rfl (fun _ _ _ => .onk (L' := [(19, _)]) rfl (u_ld 0 rfl rfl rfl rfl rfl rfl) rfl) ?_
      refine d_q [] (by kernel_rfl) rfl (fun _ _ _ => .onk (L' := []) rfl (u_p rfl rfl rfl) rfl) ?_
      refine d_q [3] (by kernel_rfl) rfl (fun _ _ _ => .onk (L' := [(21, _)]) rfl (u_ixa rfl rfl rfl rfl rfl rfl rfl (by decide) (by decide)) rfl) ?_
      refine d_q [4] (by kernel_rfl) rfl (fun _ _ _ => .onk (L' := [(22, _)]) rfl (u_ld 1 rfl rfl rfl rfl rfl rfl) rfl) ?_
      refine d_q [2, 5] (by kernel_rfl) rfl (fun _ _ _ => .onk (L' := [(20, _), (23, _)]) rfl (u_p rfl rfl rfl) rfl) ?_
      refine d_end (by kernel_rfl) (by kernel_rfl) (by kernel_rfl) (fun bs _ => so_as (L' := [(18, _), (19, _), (20, _), (21, _), (22, _), (23, _), (24, _)]) (G' := []) rfl rfl ?_)
      refine Qv.step (u_p rfl rfl rfl) rfl rfl ?_
      refine o_nil ?_
      refine x_go ?_
      refine w_if rfl (fun h => ?_) (fun h => ?_)
      · refine w_seq ?_
        refine w_reg ?_
        refine Qv.step (u_p rfl rfl rfl) rfl rfl ?_
        refine o_nil ?_
        refine x_go ?_
        refine w_ret (x_rt rfl rfl ?_)
        have h' : a.1 < b.1 := lt_of_dec h
        rw [hC, ← hI]
        simp only [wLx, wL3, h', if_true]
      
      have h1 : ¬ a.1 < b.1 := nlt_of_dec h
      clear h
      refine w_seq ?_
      refine d_begin ?_
      refine d_q [] (by kernel_rfl) rfl (fun _ _ _ => .onk (L' := []) rfl (u_p rfl rfl rfl) rfl) ?_
      refine d_q [0] (by kernel_rfl) rfl (fun _ _ _ => .onk (L' := [(26, _)]) rfl (u_ixa rfl rfl rfl rfl rfl rfl rfl (by decide) (by decide)) rfl) ?_
      refine d_q [1] (by kernel_rfl) rfl (fun _ _ _ => .onk (L' := [(27, _)]) rfl (u_ld 0 rfl rfl rfl rfl rfl rfl) rfl) ?_
      refine d_q [] (by kernel_rfl) rfl (fun _ _ _ => .onk (L' := []) rfl (u_p rfl rfl rfl) rfl) ?_
      refine d_q [3] (by kernel_rfl) rfl (fun _ _ _ => .onk (L' := [(29, _)]) rfl (u_ixa rfl rfl rfl rfl rfl rfl rfl (by decide) (by decide)) rfl) ?_
      refine d_q [4] (by kernel_rfl) rfl (fun _ _ _ => .onk (L' := [(30, _)]) rfl (u_ld 1 rfl rfl rfl rfl rfl rfl) rfl) ?_
      refine d_q [2, 5] (by kernel_rfl) rfl (fun _ _ _ => .onk (L' := [(28, _), (31, _)]) rfl (u_p rfl rfl rfl) rfl) ?_
      refine d_end (by kernel_rfl) (by kernel_rfl) (by kernel_rfl) (fun bs _ => so_as (L' := [(26, _), (27, _), (28, _), (29, _), (30, _), (31, _), (32, _)]) (G' := []) rfl rfl ?_)
      refine Qv.step (u_p rfl rfl rfl) rfl rfl ?_
      refine o_nil ?_
      refine x_go ?_
      refine w_if rfl (fun h => ?_) (fun h => ?_)
      · refine w_seq ?_
        refine w_reg ?_
        refine Qv.step (u_p rfl rfl rfl) rfl rfl ?_
        refine o_nil ?_
        refine x_go ?_
        refine w_ret (x_rt rfl rfl ?_)
        have h' : b.1 < a.1 := lt_of_dec h
        rw [hC, ← hI]
        simp only [wLx, wL3, h1, h', if_true, if_false]
      
      have h2 : ¬ b.1 < a.1 := nlt_of_dec h
      clear h
      refine w_skip ?_
      refine x_go ?_
      refine w_reg ?_
      refine Qv.step (u_p rfl rfl rfl) rfl rfl ?_
      refine Qv.step (u_p rfl rfl rfl) rfl rfl ?_
      refine Qv.step (u_p rfl rfl rfl) rfl rfl ?_
      refine o_nil ?_
      refine x_rd 4 2 (by decide) ⟨by decide, ?_⟩ rfl ⟨rfl, rfl, by first | rfl | kernel_rfl, trivial⟩
      rw [← hI]
      simp only [wLx, wL3, h1, h2, if_false]
  
  have h4 : k = 4 := by
    rcases (by omega : k = 0 ∨ k = 1 ∨ k = 2 ∨ k = 3 ∨ k = 4) with rfl | rfl | rfl | rfl | rfl
    · exact absurd h (by decide)
    · exact absurd h (by decide)
    · exact absurd h (by decide)
    · exact absurd h (by decide)
    · rfl
  clear h
  subst h4
  refine w_exit ?_
  refine x_go ?_
  refine w_seq ?_
  refine w_reg ?_
  refine Qv.step (u_p rfl rfl rfl) rfl rfl ?_
  refine o_nil ?_
  refine x_go ?_
  refine w_ret (x_rt rfl rfl ?_)
  rw [hC, ← hI]
  rfl
end Go.Proofs.Ytcdakcemcehfiaa
