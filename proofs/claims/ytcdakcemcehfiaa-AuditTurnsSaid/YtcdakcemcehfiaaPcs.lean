/- realm: contracts, third part: pieces, and its find. -/
import Derived.Test.YtcdakcemcehfiaaRmb
import Derived.Test.YtcdakcemcehfiaaSxs
namespace Go.Proofs.Ytcdakcemcehfiaa
open Go Go.RowKit
set_option maxRecDepth 100000

/-- m: what is above each; R: where the way ends; dep: how long it is at most. -/
def UfD (m : List (Int × Int)) (R : Int → Int) (dep : Int → Nat) : Prop :=
  ∀ id, (mget id m = none → R id = id) ∧ ∀ n, mget id m = some n → (n = id → R id = id) ∧ (n ≠ id → dep n < dep id ∧ R n = R id)
theorem UfD.root {m : List (Int × Int)} {R : Int → Int} {dep : Int → Nat} (h : UfD m R dep) : ∀ (k : Nat) (id : Int), dep id < k → R (R id) = R id ∧ dep (R id) ≤ dep id ∧ (R id ≠ id → dep (R id) < dep id)
  | 0, _, hk => absurd hk (by omega)
  | k + 1, id, hk => by
    obtain ⟨h1, h2⟩ := h id
    cases hg : mget id m with
    | none =>
      have e := h1 hg
      rw [e]
      exact ⟨e, Nat.le_refl _, fun h => absurd rfl h⟩
    | some n =>
      obtain ⟨h3, h4⟩ := h2 n hg
      by_cases hn : n = id
      · have e := h3 hn
        rw [e]
        exact ⟨e, Nat.le_refl _, fun h => absurd rfl h⟩
      · obtain ⟨h5, h6⟩ := h4 hn
        obtain ⟨i1, i2, i3⟩ := UfD.root h k n (by omega)
        rw [← h6]
        exact ⟨i1, by omega, fun _ => by omega⟩
theorem UfD.nil : UfD [] (fun x => x) (fun _ => 0) := fun id => ⟨fun _ => rfl, fun n h => by cases h⟩
/-- A way is made shorter. -/
theorem UfD.short {m : List (Int × Int)} {R : Int → Int} {dep : Int → Nat} (h : UfD m R dep) (id : Int) : UfD (mset id (R id) m) R dep := by
  intro x
  rw [mget_mset]
  obtain ⟨r1, r2, r3⟩ := h.root (dep id + 1) id (by omega)
  by_cases hx : x = id
  · subst hx
    rw [if_pos rfl]
    refine ⟨fun h => (by cases h), fun n hn => ?_⟩
    simp only [Option.some.injEq] at hn
    subst hn
    exact ⟨fun e => e, fun hne => ⟨r3 hne, r1⟩⟩
  · rw [if_neg hx]; exact h x
/-- Two are put together. -/
def ufJ (R : Int → Int) (a b : Int) (x : Int) : Int := if R x = R a then R b else R x
def ufJd (R : Int → Int) (dep : Int → Nat) (a b : Int) (x : Int) : Nat := if R a = R b then dep x else if R x = R a then dep x + dep (R b) + 1 else dep x
theorem UfD.join {m : List (Int × Int)} {R : Int → Int} {dep : Int → Nat} (h : UfD m R dep) (a b : Int) : UfD (mset (R a) (R b) m) (ufJ R a b) (ufJd R dep a b) := by
  have ra := (h.root (dep a + 1) a (by omega)).1
  have rb := (h.root (dep b + 1) b (by omega)).1
  intro x
  rw [mget_mset]
  by_cases hab : R a = R b
  · have hJ : ∀ x, ufJ R a b x = R x := fun x => by
      unfold ufJ
      split
      · rename_i e; rw [e, hab]
      · rfl
    have hD : ∀ x, ufJd R dep a b x = dep x := fun x => by unfold ufJd; rw [if_pos hab]
    simp only [hJ, hD]
    by_cases hx : x = R a
    · subst hx
      rw [if_pos rfl]
      refine ⟨fun h => (by cases h), fun n hn => ?_⟩
      simp only [Option.some.injEq] at hn
      subst hn
      exact ⟨fun _ => ra, fun hne => absurd hab.symm hne⟩
    · rw [if_neg hx]; exact h x
  · have hD : ∀ x, ufJd R dep a b x = if R x = R a then dep x + dep (R b) + 1 else dep x := fun x => by unfold ufJd; rw [if_neg hab]
    have hbb : R (R b) ≠ R a := fun e => hab (by rw [← e, rb])
    by_cases hx : x = R a
    · subst hx
      rw [if_pos rfl]
      refine ⟨fun h => (by cases h), fun n hn => ?_⟩
      simp only [Option.some.injEq] at hn
      subst hn
      refine ⟨fun e => absurd e.symm hab, fun _ => ⟨?_, ?_⟩⟩
      · rw [hD, hD, if_neg hbb, if_pos ra]; omega
      · unfold ufJ; rw [if_neg hbb, if_pos ra, rb]
    · rw [if_neg hx]
      obtain ⟨h1, h2⟩ := h x
      refine ⟨fun hn => ?_, fun n hn => ⟨fun e => ?_, fun hne => ?_⟩⟩
      · have e := h1 hn
        unfold ufJ
        rw [e, if_neg hx]
      · have e := (h2 n hn).1 e
        unfold ufJ
        rw [e, if_neg hx]
      · obtain ⟨h3, h4⟩ := (h2 n hn).2 hne
        refine ⟨?_, by unfold ufJ; rw [h4]⟩
        rw [hD, hD, h4]
        split <;> omega

def fndV (bu bf : Nat) : Value := .func (.func 55) #[] #[.pointer (some ⟨bu, 0, none⟩), .pointer (some ⟨bf, 0, none⟩)]
/-- find's own: the cell of the map, the map, the cell of find. -/
@[reducible] def ufL (bu bm bf : Nat) (m : List (Int × Int)) : List Res := [cellsR bu 69 [.v (.map (some bm))], mapR bm kI DV.i m, cellsR bf 56 [.v (fndV bu bf)]]
theorem ufL_fp {bu bm bf : Nat} {m : List (Int × Int)} (b : Nat) : (starR (ufL bu bm bf m)).fp b ↔ b = bu ∨ b = bm ∨ b = bf := by
  constructor
  · rintro ⟨r, hr, hb⟩
    simp only [List.mem_cons, List.not_mem_nil, or_false] at hr
    rcases hr with rfl | rfl | rfl
    · exact .inl hb
    · exact .inr (.inl hb)
    · exact .inr (.inr hb)
  · rintro (h | h | h)
    · exact ⟨_, .head _, h⟩
    · exact ⟨_, .tail _ (.head _), h⟩
    · exact ⟨_, .tail _ (.tail _ (.head _)), h⟩
def ufR (bu bm bf : Nat) (R : Int → Int) (dep : Int → Nat) : Res where
  fp b := b = bu ∨ b = bm ∨ b = bf
  ok A w := ∃ m, UfD m R dep ∧ (starR (ufL bu bm bf m)).ok A w
  lt := by
    rintro A w b ⟨m, _, h⟩ hb
    exact (starR (ufL bu bm bf m)).lt h ((ufL_fp b).2 hb)
  keep := by
    rintro A A' w w' ⟨m, hm, h⟩ hw hA
    exact ⟨m, hm, (starR (ufL bu bm bf m)).keep h (fun b hb hn => hw b hb (hn.imp (ufL_fp b).1 id)) hA⟩
theorem uf_up {bu bm bf : Nat} {R : Int → Int} {dep : Int → Nat} (A : Nat → Prop) (w : World) (h : (ufR bu bm bf R dep).ok A w) : (cellsR bu 69 [.v (.map (some bm))]).ok A w := by
  obtain ⟨m, _, h, _⟩ := h
  exact h _ (.head _)
theorem uf_fn {bu bm bf : Nat} {R : Int → Int} {dep : Int → Nat} (A : Nat → Prop) (w : World) (h : (ufR bu bm bf R dep).ok A w) : (cellsR bf 56 [.v (fndV bu bf)]).ok A w := by
  obtain ⟨m, _, h, _⟩ := h
  exact h _ (.tail _ (.tail _ (.head _)))
theorem uf_shut {bu bm bf : Nat} {m : List (Int × Int)} {R : Int → Int} {dep : Int → Nat} (hm : UfD m R dep) (A : Nat → Prop) (w : World) (h : (starR (ufL bu bm bf m)).ok A w) : (ufR bu bm bf R dep).ok A w := ⟨m, hm, h⟩

/-- The map in it gets a value. -/
theorem o_mux {E : En} {K : Kn} {Γ : List Res} {Q : Exit → Act → World → Prop} {ops : Array Oper} {o : Oper} {rest : List Oper} (i : Nat) {bu bm bf : Nat} {R : Int → Int} {dep : Int → Nat} {x y z : Operand} {t kt et : TypeId} {e : TyE} {a v : Int} (ho : o.op = .mapUpdate t x y z) (hg : o.guard = none) (hs : o.dst = none)
    (hx : ev K x = some (.v (.map (some bm)))) (hy : ev K y = some (.i a)) (hz : ev K z = some (.i v)) (hi : Γ[i]? = some (ufR bu bm bf R dep)) (ht : lkT cx.T t = some e) (he : e.u = .map kt et) (hkt : kt = 3)
    (k : ∀ m, UfD m R dep → SO cx E ops rest K (Γ.set i (starR (ufL bu bm bf (mset a v m)))) Q) : SO cx E ops (o :: rest) K Γ Q := by
  subst hkt
  intro a' w s f
  obtain ⟨m, hm, hstar⟩ := s.ok _ (List.mem_of_getElem? hi)
  have hr := hstar.1 _ (List.Mem.tail _ (List.Mem.head _))
  obtain ⟨hnd, es, hb, h1, h2, h3⟩ := hr
  obtain ⟨es', hrun, k1, k2, k3⟩ := upd_run KI ht he hb h1 h2 a v (.int .i64 v)
  have hs1 := s.upd (w' := w) hi (starR (ufL bu bm bf m)) rfl rfl rfl (Nat.le_refl _) (Nat.le_refl _) (fun _ _ _ => rfl) (fun b h => .inl ((ufL_fp b).1 h)) ((starR (ufL bu bm bf m)).keep hstar (fun _ _ _ => rfl) (av_set (w := w) hi fun b h => .inl ((ufL_fp b).1 h)))
  have hlen : i < Γ.length := by
    rcases Nat.lt_or_ge i Γ.length with h | h
    · exact h
    · rw [List.getElem?_eq_none h] at hi; cases hi
  have hu := hs1.1.updS (i := i) (p := 1) (L := ufL bu bm bf m) (r := mapR bm kI DV.i m) (r' := mapR bm kI DV.i (mset a v m)) (w' := { w with heap := w.heap.setIfInBounds bm (.map es' es'.size) }) (by simp [hlen]) rfl rfl rfl rfl (Nat.le_refl _) (by simp) (fun b _ hn => (heapSet hb).2 b fun e => hn e) (fun b h => .inl h)
    ⟨KI.nodup hnd a v, es', (heapSet hb).1, k1, k2, fun i e x h4 h5 => by
      rcases k3 i e x h4 h5 with ⟨e1, e2⟩ | ⟨e0, e1, e2, e3⟩
      · rw [e1, e2]; exact .v _
      · have := (h3 i e0 x e1 e3).v_inv
        rw [e2, this]; exact .v _⟩
  rw [List.set_set] at hu
  refine wpList_plain hg fun Kc hK => ?_
  have hex : (execOp a'.eval o).run cx.P w = .ok .skip { w with heap := w.heap.setIfInBounds bm (.map es' es'.size) } := by
    unfold execOp
    have e1 := (f.evl hx).v_inv
    have e2 := (f.evl hy).v_inv
    have e3 := (f.evl hz).v_inv
    have hrun' : (Instr.mapUpdate t (.map (some bm)) (.int .i64 a) (.int .i64 v)).run cx.P w = _ := hrun
    simp [ho, e1, e2, e3, hrun']
  unfold Oper.wp
  rw [hex]
  show Kc (a'.put o.dst undef) _
  rw [hs]
  exact hK _ _ (k m hm _ _ hu.1 (f.mv (hs1.2.trans hu.2)))

theorem find_ok (bu bm bf : Nat) (R : Int → Int) (dep : Int → Nat) : ∀ (k : Nat) (id : Int), dep id < k → FunKp cx 55 ([.i id] ++ [Value.pointer (some ⟨bu, 0, none⟩), Value.pointer (some ⟨bf, 0, none⟩)].map DV.v) (.i (R id)) (ufR bu bm bf R dep)
  | 0, _, hk => absurd hk (by omega)
  | k + 1, id, hk => by
    have ih := find_ok bu bm bf R dep k
    refine fnk_ok (c := _) _ Try.func55 rfl Try.ntmps55 rfl fun A w => ?_
    skip
    skip
    refine w_resE 0 (fun m => UfD m R dep) (fun m => starR (ufL bu bm bf m)) rfl (fun A w h => h) (fun m b h => (ufL_fp b).1 h) (fun m hm => ?_)
    refine w_conv (Γ' := ufL bu bm bf m) (fun w s => St.open_star (Γ := []) s) ?_
    obtain ⟨g1, g2⟩ := hm id
    refine w_seq ?_
    refine w_reg ?_
    refine Qv.step (u_p rfl rfl rfl) rfl rfl ?_
    refine o_nil ?_
    refine x_go ?_
    refine w_seq ?_
    refine w_seq ?_
    refine w_reg ?_
    refine Qv.step (u_ld 0 rfl rfl rfl rfl rfl rfl) rfl rfl ?_
    refine Qv.step (u_p rfl rfl rfl) rfl rfl ?_
    refine Qv.step (u_lo2 1 KI id 0 rfl rfl rfl rfl rfl rfl rfl rfl rfl rfl) rfl rfl ?_
    refine Qv.step (u_p rfl rfl rfl) rfl rfl ?_
    refine Qv.step (u_p rfl rfl rfl) rfl rfl ?_
    refine Qv.step (u_p rfl rfl rfl) rfl rfl ?_
    refine Qv.step (u_p rfl rfl rfl) rfl rfl ?_
    refine Qv.step (u_p rfl rfl rfl) rfl rfl ?_
    refine o_nil ?_
    refine x_go ?_
    refine w_seq ?_
    refine w_reg ?_
    refine Qv.step (u_p rfl rfl rfl) rfl rfl ?_
    refine Qv.step (u_p rfl rfl rfl) rfl rfl ?_
    refine Qv.step (d := .gd _ _ _) (.as (q_p (G := [(_, true)]) rfl rfl rfl rfl) rfl) rfl rfl ?_
    refine Qv.step (d := .gd _ _ _) (.as (q_p (G := [(_, true)]) rfl rfl rfl rfl) rfl) rfl rfl ?_
    refine Qv.step (d := .gd _ _ _) (.as (q_p (G := [(_, true)]) rfl rfl rfl rfl) rfl) rfl rfl ?_
    refine Qv.step (d := .v _) (.as (u_pick rfl rfl rfl rfl rfl rfl rfl rfl rfl) rfl) rfl rfl ?_
    refine o_nil ?_
    refine x_go ?_
    refine w_if rfl (fun h => ?_) (fun h => ?_)
    · have hge : ∃ n, mget id m = some n ∧ n ≠ id := by
        cases hg : mget id m with
        | none => rw [hg] at h; simp at h
        | some n => rw [hg] at h; exact ⟨n, rfl, by simpa using h⟩
      obtain ⟨n, hn, hne⟩ := hge
      obtain ⟨g3, g4⟩ := (g2 n hn).2 hne
      clear h
      refine w_know 5 (.i n) rfl (fun A w u h => by simpa [hn] using h) ?_
      refine w_conv (Γ' := [starR (ufL bu bm bf m)]) (fun w s => St.shut_star (Γ := []) s) ?_
      refine w_res 0 (ufR bu bm bf R dep) rfl (uf_shut hm) (fun b h => (ufL_fp b).2 h) ?_
      refine w_seq ?_
      refine d_begin ?_
      refine d_q [] (by kernel_rfl) rfl (fun _ _ _ => .onk (L' := []) rfl (u_ldx 0 uf_up rfl rfl rfl rfl rfl rfl) rfl) ?_
      refine d_q [] (by kernel_rfl) rfl (fun _ _ _ => .onk (L' := []) rfl (u_p rfl rfl rfl) rfl) ?_
      refine d_q [] (by kernel_rfl) rfl (fun _ _ _ => .onk (L' := []) rfl (u_ldx 0 uf_fn rfl rfl rfl rfl rfl rfl) rfl) ?_
      refine d_q [] (by kernel_rfl) rfl (fun _ _ _ => .onk (L' := []) rfl (u_p rfl rfl rfl) rfl) ?_
      refine d_q [2, 3] (by kernel_rfl) rfl (fun _ _ _ => .onk (L' := [(21, _), (22, _)]) rfl (u_kp 0 (ih n (by omega)) Try.call55 rfl rfl rfl rfl rfl) rfl) ?_
      refine d_end (by kernel_rfl) (by kernel_rfl) (by kernel_rfl) (fun bs _ => so_as (L' := [(19, _), (20, _), (21, _), (22, _), (23, _)]) (G' := []) rfl rfl ?_)
      refine o_mux 0 rfl rfl rfl rfl rfl rfl rfl rfl rfl rfl ?_; intro m2 hm2
      refine o_nil ?_
      refine x_go ?_
      refine w_conv (Γ' := ufL bu bm bf (mset id (R n) m2)) (fun w s => St.open_star (Γ := []) s) ?_
      refine w_seq ?_
      refine w_reg ?_
      refine Qv.step (u_ld 0 rfl rfl rfl rfl rfl rfl) rfl rfl ?_
      refine Qv.step (u_p rfl rfl rfl) rfl rfl ?_
      refine Qv.step (u_lo 1 KI id 0 rfl rfl rfl rfl rfl rfl rfl rfl rfl rfl) rfl rfl ?_
      refine Qv.step (u_p rfl rfl rfl) rfl rfl ?_
      refine o_nil ?_
      refine x_go ?_
      refine w_ret (x_conv (Γ' := [starR (ufL bu bm bf (mset id (R n) m2))]) (fun w s => St.shut_star (Γ := []) s) ?_)
      rw [g4]
      refine x_res 0 (ufR bu bm bf R dep) rfl (uf_shut (hm2.short id)) (fun b h => (ufL_fp b).2 h) ?_
      exact x_kt rfl rfl rfl (congrArg DV.i (by rw [mget_mset, if_pos rfl]; rfl))
    
    have hroot : R id = id := by
      cases hg : mget id m with
      | none => exact g1 hg
      | some n => rw [hg] at h; exact (g2 n hg).1 (by simpa using h)
    clear h
    refine w_skip ?_
    refine x_go ?_
    refine w_seq ?_
    refine w_reg ?_
    refine Qv.step (u_p rfl rfl rfl) rfl rfl ?_
    refine Qv.step (u_p rfl rfl rfl) rfl rfl ?_
    refine o_nil ?_
    refine x_go ?_
    refine w_ret (x_conv (Γ' := [starR (ufL bu bm bf m)]) (fun w s => St.shut_star (Γ := []) s) ?_)
    refine x_res 0 (ufR bu bm bf R dep) rfl (uf_shut hm) (fun b h => (ufL_fp b).2 h) ?_
    exact x_kt rfl rfl rfl (congrArg DV.i hroot.symm)

def pcF (s : (Int → Int) × (Int → Nat)) (e : Edg) : (Int → Int) × (Int → Nat) := (ufJ s.1 e.2.1 e.2.2, ufJd s.1 s.2 e.2.1 e.2.2)
def mPc (es : List Edg) : (Int → Int) × (Int → Nat) := es.foldl pcF (fun x => x, fun _ => 0)
theorem pieces_ok (p : Pln) (hp2 : Sh p.2) : FunOw cx 39 [dPl p] (ι := Nat × Nat × Nat) (fun x => .v (fndV x.1 x.2.2)) (fun x => ufR x.1 x.2.1 x.2.2 (mPc p.2).1 (mPc p.2).2) := by
  have hq : p.2.length < 4611686018427387904 := hp2
  refine fno_ok (c := _) _ Try.func39 rfl Try.ntmps39 rfl fun A w => ?_
  refine w_seq ?_
  refine w_reg ?_
  refine o_box rfl rfl rfl rfl rfl rfl ?_; intro b0
  refine Qv.step (u_p rfl rfl rfl) rfl rfl ?_
  refine o_nil ?_
  refine x_go ?_
  refine w_seq ?_
  refine w_reg ?_
  refine o_mk kI DV.i rfl rfl rfl rfl ?_; intro b1
  refine o_alloc rfl rfl rfl rfl rfl rfl ?_; intro b2
  refine o_st 2 rfl rfl rfl rfl rfl rfl rfl rfl rfl rfl (by first | rfl | kernel_rfl) ?_
  refine o_nil ?_
  refine x_go ?_
  refine w_seq ?_
  refine w_reg ?_
  refine o_alloc rfl rfl rfl rfl rfl rfl ?_; intro b3
  refine o_nil ?_
  refine x_go ?_
  refine w_seq ?_
  refine w_reg ?_
  refine Qv.step (u_p rfl rfl rfl) rfl rfl ?_
  refine o_st 3 rfl rfl rfl rfl rfl rfl rfl rfl rfl rfl (by first | rfl | kernel_rfl) ?_
  refine o_nil ?_
  refine x_go ?_
  revert b1 b2 b3
  intro bm bu bf
  refine w_conv (Γ' := [cellsR b0 36 (rPl p)] ++ ufL bu bm bf []) (fun w s => s.perm (List.Perm.cons _ (List.Perm.swap _ _ _))) ?_
  refine w_conv (Γ' := [cellsR b0 36 (rPl p)] ++ [starR (ufL bu bm bf [])]) (fun w s => St.shut_star s) ?_
  refine w_res 1 (ufR bu bm bf (fun x => x) (fun _ => 0)) rfl (uf_shut UfD.nil) (fun b h => (ufL_fp b).2 h) ?_
  skip
  refine w_seq ?_
  refine w_seq ?_
  refine w_reg ?_
  refine Qv.step (u_p rfl rfl rfl) rfl rfl ?_
  refine Qv.step (u_ld 0 rfl rfl rfl rfl rfl rfl) rfl rfl ?_
  refine Qv.step (u_len rfl rfl rfl rfl rfl rfl) rfl rfl ?_
  refine Qv.step (u_p rfl rfl rfl) rfl rfl ?_
  refine o_nil ?_
  refine x_go ?_
  refine w_block ?_
  
  refine w_loop (fun s : Nat × ((Int → Int) × (Int → Nat)) => s.1 ≤ p.2.length ∧ (p.2.drop s.1).foldl pcF s.2 = mPc p.2) (fun s => ([(1, .v (.pointer (some ⟨b0, 0, none⟩))), (3, .v (.pointer (some ⟨bu, 0, none⟩))), (4, .v (.pointer (some ⟨bf, 0, none⟩))), (10, .sl 3 (p.2.map rE)), (11, .i p.2.length), (12, .i s.1)],
    [cellsR b0 36 (rPl p), ufR bu bm bf s.2.1 s.2.2])) (fun s => p.2.length - s.1) (0, (fun x => x, fun _ => 0)) ⟨Nat.zero_le _, rfl⟩ ⟨rfl, rfl, rfl, rfl, lenS rfl, rfl, trivial⟩ rfl ?_
  rintro ⟨k, R, dep⟩ ⟨hk, hI⟩
  simp only at hk hI
  refine w_seq ?_
  refine w_reg ?_
  refine Qv.step (u_p rfl rfl rfl) rfl rfl ?_
  refine o_nil ?_
  refine x_go ?_
  refine w_seq ?_
  refine w_if rfl (fun h => ?_) (fun h => ?_)
  · have hlt : k < p.2.length := by simpa using h
    rw [List.drop_eq_getElem_cons hlt, List.foldl_cons] at hI
    clear h
    refine w_skip ?_
    refine x_go ?_
    refine w_seq ?_
    refine w_block ?_
    refine w_seq ?_
    refine w_reg ?_
    refine Qv.step (u_ix rfl rfl rfl rfl rfl rfl rfl rfl (by omega) (by simp; omega)) rfl rfl ?_
    refine Qv.step (d := .agg [_, _, _]) (.as (u_lde (r := rE p.2[k]) (by simp [hlt]) rfl rfl rfl rfl rfl) rfl) rfl rfl ?_
    refine o_alloc rfl rfl rfl rfl rfl rfl ?_; intro b2
    refine o_st 2 rfl rfl rfl rfl rfl rfl rfl rfl rfl rfl (by first | rfl | kernel_rfl) ?_
    refine o_nil ?_
    refine x_go ?_
    refine d_begin ?_
    refine d_q [] (by kernel_rfl) rfl (fun _ _ _ => .onk (L' := []) rfl (u_ldx 1 uf_up rfl rfl rfl rfl rfl rfl) rfl) ?_
    refine d_q [] (by kernel_rfl) rfl (fun _ _ _ => .onk (L' := []) rfl (u_ldx 1 uf_fn rfl rfl rfl rfl rfl rfl) rfl) ?_
    refine d_q [] (by kernel_rfl) rfl (fun _ _ _ => .onk (L' := []) rfl (u_p rfl rfl rfl) rfl) ?_
    refine d_q [2] (by kernel_rfl) rfl (fun _ _ _ => .onk (L' := [(18, _)]) rfl (u_ld 2 rfl rfl rfl rfl rfl rfl) rfl) ?_
    refine d_q [1, 3] (by kernel_rfl) rfl (fun _ _ _ => .onk (L' := [(17, _), (19, _)]) rfl (u_kp 1 (find_ok bu bm bf R dep _ p.2[k].2.1 (Nat.lt_succ_self _)) Try.call55 rfl rfl rfl rfl rfl) rfl) ?_
    refine d_q [] (by kernel_rfl) rfl (fun _ _ _ => .onk (L' := []) rfl (u_ldx 1 uf_fn rfl rfl rfl rfl rfl rfl) rfl) ?_
    refine d_q [] (by kernel_rfl) rfl (fun _ _ _ => .onk (L' := []) rfl (u_p rfl rfl rfl) rfl) ?_
    refine d_q [6] (by kernel_rfl) rfl (fun _ _ _ => .onk (L' := [(22, _)]) rfl (u_ld 2 rfl rfl rfl rfl rfl rfl) rfl) ?_
    refine d_q [5, 7] (by kernel_rfl) rfl (fun _ _ _ => .onk (L' := [(21, _), (23, _)]) rfl (u_kp 1 (find_ok bu bm bf R dep _ p.2[k].2.2 (Nat.lt_succ_self _)) Try.call55 rfl rfl rfl rfl rfl) rfl) ?_
    refine d_end (by kernel_rfl) (by kernel_rfl) (by kernel_rfl) (fun bs _ => so_as (L' := [(16, _), (17, _), (18, _), (19, _), (20, _), (21, _), (22, _), (23, _), (24, _)]) (G' := []) rfl rfl ?_)
    refine o_mux 1 rfl rfl rfl rfl rfl rfl rfl rfl rfl rfl ?_; intro m2 hm2
    refine o_nil ?_
    refine x_go ?_
    refine w_reg ?_
    refine Qv.step (u_p rfl rfl rfl) rfl rfl ?_
    refine Qv.step (u_p rfl rfl rfl) rfl rfl ?_
    refine o_nil ?_
    refine x_res 1 (ufR bu bm bf (ufJ R p.2[k].2.1 p.2[k].2.2) (ufJd R dep p.2[k].2.1 p.2[k].2.2)) rfl (uf_shut (hm2.join p.2[k].2.1 p.2[k].2.2)) (fun b h => (ufL_fp b).2 h) ?_
    exact x_rd (k + 1, pcF (R, dep) p.2[k]) 2 (by show p.2.length - (k + 1) < p.2.length - k; omega) ⟨by show k + 1 ≤ _; omega, hI⟩ rfl ⟨rfl, rfl, rfl, rfl, rfl, lkS rfl (by omega), trivial⟩
  
  have hge : ¬ k < p.2.length := by simpa using h
  clear h
  rw [List.drop_eq_nil_of_le (by omega)] at hI
  refine w_exit ?_
  refine x_go ?_
  refine w_seq ?_
  refine w_reg ?_
  refine Qv.step (u_ldx 1 uf_fn rfl rfl rfl rfl rfl rfl) rfl rfl ?_
  refine Qv.step (u_p rfl rfl rfl) rfl rfl ?_
  refine o_nil ?_
  refine x_go ?_
  have hR : R = (mPc p.2).1 := by rw [← hI]; rfl
  have hD : dep = (mPc p.2).2 := by rw [← hI]; rfl
  subst hR hD
  exact w_ret (x_ow 1 (bu, bm, bf) rfl rfl rfl)
end Go.Proofs.Ytcdakcemcehfiaa
