/- The walk library, part m: what is owned is turned into what is read; many resources as one. -/
import Derived.Test.YtcdakcemcehfiaaSxl
namespace Go.Proofs.Ytcdakcemcehfiaa
open Go Go.RowKit

section
variable {C : Cx} {E : En} {K : Kn} {Γ Γ' : List Res} {Q : Exit → Act → World → Prop} {c : Code}

/-- What is owned is told in other words. -/
theorem w_conv (h : ∀ w, St E w Γ → St E w Γ' ∧ Mv E Γ w Γ' w) (k : SW C E c K Γ' Q) : SW C E c K Γ Q := by
  intro a w s f
  obtain ⟨s', m⟩ := h w s
  exact k a w s' (f.mv m)

theorem St.cut {w : World} (s : St E w Γ) {i : Nat} {r : Res} (hi : Γ[i]? = some r) : St E w (Γ.set i unitR) ∧ Mv E Γ w (Γ.set i unitR) w :=
  s.upd hi unitR rfl rfl rfl (Nat.le_refl _) (Nat.le_refl _) (fun _ _ _ => rfl) (fun _ h => h.elim) trivial

theorem St.cut_av {w : World} (s : St E w Γ) {i : Nat} {r : Res} (hi : Γ[i]? = some r) {b : Nat} (hb : r.fp b) : ¬ av E (Γ.set i unitR) b := by
  rintro (h | ⟨x, hx, hxb⟩)
  · exact s.apt r (List.mem_of_getElem? hi) b hb h
  · obtain ⟨j, hj⟩ := List.getElem?_of_mem hx
    rcases set_get hi hj with ⟨_, rfl⟩ | ⟨hne, hj⟩
    · exact hxb.elim
    · exact s.apart i j r x hne hi hj b hb hxb

/-- A map of one's own is from now on read alone. -/
theorem w_frm (i sl : Nat) {α β : Type} {b : Nat} {fk : α → Value} {fv : β → DV} {m m0 : List (α × β)} (hp : m.Perm m0) (hk : lk K sl = some (.v (.map (some b)))) (hi : Γ[i]? = some (mapR b fk fv m))
    (k : SW C E c ((sl, mpD fk fv m0) :: K) (Γ.set i unitR) Q) : SW C E c K Γ Q := by
  intro a w s f
  obtain ⟨s', mv⟩ := s.cut hi
  refine k a w s' ⟨f.df, f.sz, fun t d ht => ?_⟩
  simp only [lk] at ht
  by_cases e : sl = t
  · subst e
    simp only [Nat.beq_refl, cond_true, Option.some.injEq] at ht
    subst ht
    obtain ⟨v, h1, h2⟩ := f.kn _ _ hk
    refine ⟨v, h1, ?_⟩
    rw [h2.v_inv]
    obtain ⟨hnd, es, hb, k1, _, k3⟩ := s.ok _ (List.mem_of_getElem? hi)
    exact Rep.mpD_mk hp ((hp.map _).nodup_iff.1 hnd) (s.cut_av hi rfl) hb k1 fun i e x h1 h2 => mv _ _ (k3 i e x h1 h2)
  · have : Nat.beq sl t = false := by
      cases hb : Nat.beq sl t with
      | false => rfl
      | true => exact absurd (Nat.eq_of_beq_eq_true hb) e
    rw [this, cond_false] at ht
    obtain ⟨u, h1, h2⟩ := f.kn t d ht
    exact ⟨u, h1, mv _ _ h2⟩
end

/-- Many resources as one. -/
def starR (L : List Res) : Res where
  fp b := ∃ r ∈ L, r.fp b
  ok A w := (∀ r ∈ L, r.ok A w) ∧ L.Pairwise Ap
  lt := by
    rintro A w b ⟨h, _⟩ ⟨r, hr, hb⟩
    exact r.lt (h r hr) hb
  keep := by
    rintro A A' w w' ⟨h, hp⟩ hw hA
    exact ⟨fun r hr => r.keep (h r hr) (fun b hb hn => hw b hb (hn.imp (fun h => ⟨r, hr, h⟩) id)) hA, hp⟩

theorem fpA_star {Γ : List Res} {L : List Res} {b : Nat} : fpA (Γ ++ [starR L]) b ↔ fpA (Γ ++ L) b := by
  simp only [fpA, List.mem_append, List.mem_singleton]
  constructor
  · rintro ⟨x, h | h, hb⟩
    · exact ⟨x, .inl h, hb⟩
    · subst h; obtain ⟨r, hr, hb⟩ := hb; exact ⟨r, .inr hr, hb⟩
  · rintro ⟨x, h | h, hb⟩
    · exact ⟨x, .inl h, hb⟩
    · exact ⟨_, .inr rfl, x, h, hb⟩

theorem St.open_star {E : En} {w : World} {Γ L : List Res} (s : St E w (Γ ++ [starR L])) : St E w (Γ ++ L) ∧ Mv E (Γ ++ [starR L]) w (Γ ++ L) w := by
  have hA : ∀ b, av E (Γ ++ L) b → av E (Γ ++ [starR L]) b := fun b h => h.imp id fpA_star.2
  obtain ⟨hL, hP⟩ := s.ok (starR L) (by simp)
  have hap := ap_iff.1 s.apart
  rw [List.pairwise_append] at hap
  refine ⟨⟨s.os, s.tape, s.output, s.drawn, s.size, s.same, fun r hr => ?_, fun r hr b hb => ?_, ap_iff.2 (List.pairwise_append.2 ⟨hap.1, hP, fun r hr x hx b h1 h2 => hap.2.2 r hr (starR L) (by simp) b h1 ⟨x, hx, h2⟩⟩), s.old, fun r hr b hb => ?_⟩,
    fun u d h => h.keep (fun _ _ _ => rfl) fun b _ h => hA b h⟩
  · rcases List.mem_append.1 hr with hr | hr
    · exact r.keep (s.ok r (by simp [hr])) (fun _ _ _ => rfl) fun b _ h => hA b h
    · exact r.keep (hL r hr) (fun _ _ _ => rfl) fun b _ h => hA b h
  · rcases List.mem_append.1 hr with hr | hr
    · exact s.own r (by simp [hr]) b hb
    · exact s.own (starR L) (by simp) b ⟨r, hr, hb⟩
  · rcases List.mem_append.1 hr with hr | hr
    · exact s.apt r (by simp [hr]) b hb
    · exact s.apt (starR L) (by simp) b ⟨r, hr, hb⟩

theorem St.shut_star {E : En} {w : World} {Γ L : List Res} (s : St E w (Γ ++ L)) : St E w (Γ ++ [starR L]) ∧ Mv E (Γ ++ L) w (Γ ++ [starR L]) w := by
  have hA : ∀ b, av E (Γ ++ [starR L]) b → av E (Γ ++ L) b := fun b h => h.imp id fpA_star.1
  have hap := ap_iff.1 s.apart
  rw [List.pairwise_append] at hap
  refine ⟨⟨s.os, s.tape, s.output, s.drawn, s.size, s.same, fun r hr => ?_, fun r hr b hb => ?_, ap_iff.2 (List.pairwise_append.2 ⟨hap.1, by simp, fun r hr x hx b h1 h2 => ?_⟩), s.old, fun r hr b hb => ?_⟩,
    fun u d h => h.keep (fun _ _ _ => rfl) fun b _ h => hA b h⟩
  · rcases List.mem_append.1 hr with hr | hr
    · exact r.keep (s.ok r (by simp [hr])) (fun _ _ _ => rfl) fun b _ h => hA b h
    · rw [List.mem_singleton.1 hr]
      exact ⟨fun x hx => x.keep (s.ok x (by simp [hx])) (fun _ _ _ => rfl) fun b _ h => hA b h, hap.2.1⟩
  · rcases List.mem_append.1 hr with hr | hr
    · exact s.own r (by simp [hr]) b hb
    · rw [List.mem_singleton.1 hr] at hb
      obtain ⟨x, hx, hxb⟩ := hb
      exact s.own x (by simp [hx]) b hxb
  · rw [List.mem_singleton.1 hx] at h2
    obtain ⟨y, hy, hyb⟩ := h2
    exact hap.2.2 r hr y hy b h1 hyb
  · rcases List.mem_append.1 hr with hr | hr
    · exact s.apt r (by simp [hr]) b hb
    · rw [List.mem_singleton.1 hr] at hb
      obtain ⟨x, hx, hxb⟩ := hb
      exact s.apt x (by simp [hx]) b hxb

theorem flat_at {α : Type} {k : Nat} : ∀ {rows : List (List α)}, (∀ r ∈ rows, r.length = k) → ∀ {i : Nat} {r : List α} {j : Nat} {d : α}, rows[i]? = some r → r[j]? = some d → rows.flatten[i * k + j]? = some d
  | [], _, i, r, j, d, h, _ => by simp at h
  | r0 :: rows, hk, 0, r, j, d, h, hj => by
    simp at h
    subst h
    have hl : j < r0.length := by
      rcases Nat.lt_or_ge j r0.length with h | h
      · exact h
      · rw [List.getElem?_eq_none h] at hj; cases hj
    rw [List.flatten_cons, Nat.zero_mul, Nat.zero_add, List.getElem?_append_left hl]
    exact hj
  | r0 :: rows, hk, i + 1, r, j, d, h, hj => by
    have hl : r0.length = k := hk r0 (by simp)
    rw [List.flatten_cons, List.getElem?_append_right (by rw [hl, Nat.add_mul]; omega), hl, show (i + 1) * k + j - k = i * k + j by rw [Nat.add_mul]; omega]
    exact flat_at (fun x hx => hk x (List.mem_cons_of_mem _ hx)) (by simpa using h) hj

theorem rowR_rep {A A' : Nat → Prop} {w : World} {v : Value} {T k : Nat} {rows : List (List DV)} (h : (rowR v T k rows).ok A w) (hA : ∀ b, b < w.heap.size → A' b → A b) (hn : ∀ b, v.ownBlock = some b → ¬ A' b) : Rep A' w v (.sl k rows) := by
  obtain ⟨h0, us, ho, hr⟩ := h
  rcases ho.2 with ⟨rfl, h1⟩ | ⟨g, cap, cur, rfl, _, hb, hnc, hcm, hcs, htk⟩
  · have : rows = [] := List.eq_nil_of_length_eq_zero h1
    subst this
    exact .slnil k
  · have hr' := hr.keep (A' := A') (w' := w) (fun _ _ _ => rfl) hA
    have key : ∀ (i : Nat) (r : List DV) (j : Nat) (d : DV), rows[i]? = some r → r[j]? = some d → ∃ c, us[i * k + j]? = some c ∧ Rep A' w c d := fun i r j d h1 h2 => hr'.get (flat_at h0 h1 h2)
    refine .sl g 0 cap k rows (fun i r j d _ _ => hn g rfl) hnc hcm h0 (fun i j => us.getD (i * k + j) undef) (fun i r j d h1 h2 => ?_) (fun i r j d h1 h2 => ?_)
    · obtain ⟨c, hc, _⟩ := key i r j d h1 h2
      have hcur : cur[i * k + j]? = some c := by
        rw [← htk, List.getElem?_take] at hc
        split at hc
        · simpa using hc
        · cases hc
      simp [World.cell?, hb, hcur, List.getD_eq_getElem?_getD, hc]
    · obtain ⟨c, hc, h3⟩ := key i r j d h1 h2
      simpa [List.getD_eq_getElem?_getD, hc] using h3

section
variable {C : Cx} {E : En} {K : Kn} {Γ Γ' : List Res} {Q : Exit → Act → World → Prop} {c : Code}
/-- Rows of one's own are from now on read alone. -/
theorem w_frr (i sl : Nat) {T k : Nat} {v : Value} {rows : List (List DV)} (hk : lk K sl = some (.os v)) (hi : Γ[i]? = some (rowR v T k rows))
    (kk : SW C E c ((sl, .sl k rows) :: K) (Γ.set i unitR) Q) : SW C E c K Γ Q := by
  intro a w s f
  obtain ⟨s', mv⟩ := s.cut hi
  refine kk a w s' ⟨f.df, f.sz, fun t d ht => ?_⟩
  simp only [lk] at ht
  by_cases e : sl = t
  · subst e
    simp only [Nat.beq_refl, cond_true, Option.some.injEq] at ht
    subst ht
    obtain ⟨u, h1, h2⟩ := f.kn _ _ hk
    refine ⟨u, h1, ?_⟩
    have hu : u = v := by cases h2; rfl
    rw [hu]
    refine rowR_rep (s.ok _ (List.mem_of_getElem? hi)) (fun b _ h => ?_) fun b hb => s.cut_av hi hb
    rcases h with h | ⟨x, hx, hxb⟩
    · exact .inl h
    · obtain ⟨j, hj⟩ := List.getElem?_of_mem hx
      rcases set_get hi hj with ⟨_, rfl⟩ | ⟨_, hj⟩
      · exact hxb.elim
      · exact .inr (fpA_mem hj hxb)
  · have : Nat.beq sl t = false := by
      cases hb : Nat.beq sl t with
      | false => rfl
      | true => exact absurd (Nat.eq_of_beq_eq_true hb) e
    rw [this, cond_false] at ht
    obtain ⟨u, h1, h2⟩ := f.kn t d ht
    exact ⟨u, h1, mv _ _ h2⟩

/-- Rows of one's own that lie in an own cell are from now on read alone. -/
theorem w_frc (i j p : Nat) {T T' k b : Nat} {v : Value} {rows : List (List DV)} {ds : List DV} (hi : Γ[i]? = some (rowR v T k rows)) (hj : Γ[j]? = some (cellsR b T' ds)) (hp : ds[p]? = some (.os v)) (hne : Nat.beq i j = false)
    (kk : SW C E c K ((Γ.set i unitR).set j (cellsR b T' (ds.set p (.sl k rows)))) Q) : SW C E c K Γ Q := by
  refine w_conv (fun w s => ?_) kk
  have hij : i ≠ j := fun e => by subst e; simp at hne
  obtain ⟨s', mv⟩ := s.cut hi
  have hj' : (Γ.set i unitR)[j]? = some (cellsR b T' ds) := by rw [List.getElem?_set_ne hij]; exact hj
  obtain ⟨cs, hb, hr⟩ := s'.ok _ (List.mem_of_getElem? hj')
  have hA1 : ∀ x, av E ((Γ.set i unitR).set j (cellsR b T' (ds.set p (.sl k rows)))) x → av E (Γ.set i unitR) x := by
    rintro x (h | ⟨r, hrm, hx⟩)
    · exact .inl h
    · obtain ⟨n, hn⟩ := List.getElem?_of_mem hrm
      rcases set_get hj' hn with ⟨_, rfl⟩ | ⟨_, hn⟩
      · exact .inr (fpA_mem hj' hx)
      · exact .inr (fpA_mem hn hx)
  have hA0 : ∀ x, av E (Γ.set i unitR) x → av E Γ x := by
    rintro x (h | ⟨r, hrm, hx⟩)
    · exact .inl h
    · obtain ⟨n, hn⟩ := List.getElem?_of_mem hrm
      rcases set_get hi hn with ⟨_, rfl⟩ | ⟨_, hn⟩
      · exact hx.elim
      · exact .inr (fpA_mem hn hx)
  have hu := s'.upd (w' := w) hj' (cellsR b T' (ds.set p (.sl k rows))) rfl rfl rfl (Nat.le_refl _) (Nat.le_refl _) (fun _ _ _ => rfl) (fun x h => .inl h)
    ⟨cs, hb, by simp [hr.1], fun n u d h1 h2 => by
      rw [List.getElem?_set] at h2
      split at h2
      · rename_i e
        subst e
        split at h2
        · simp only [Option.some.injEq] at h2
          subst h2
          have h3 := hr.2 p u _ h1 hp
          have hu : u = v := by cases h3; rfl
          rw [hu]
          exact rowR_rep (s.ok _ (List.mem_of_getElem? hi)) (fun x _ h => hA0 x (hA1 x h)) fun x hx h => s.cut_av hi hx (hA1 x h)
        · cases h2
      · exact (hr.2 n u d h1 h2).keep (fun _ _ _ => rfl) fun x _ h => hA1 x h⟩
  exact ⟨hu.1, mv.trans hu.2⟩

/-- A nil slice is rows of one's own: none. -/
theorem w_nil (T k : Nat) (kk : SW C E c K (Γ ++ [rowR (.slice none 0 0) T k []]) Q) : SW C E c K Γ Q := by
  refine w_conv (fun w s => ?_) kk
  have hA : ∀ b, av E (Γ ++ [rowR (.slice none 0 0) T k []]) b → av E Γ b := fun b h => by
    rcases h with h | h
    · exact .inl h
    · rcases fpA_snoc.1 h with h | h
      · exact .inr h
      · cases h
  refine ⟨⟨s.os, s.tape, s.output, s.drawn, s.size, s.same, fun r hr => ?_, fun r hr b hb => ?_, ap_iff.2 (List.pairwise_append.2 ⟨ap_iff.1 s.apart, by simp, fun r hr x hx b h1 h2 => ?_⟩), s.old, fun r hr b hb => ?_⟩, fun u d h => h.keep (fun _ _ _ => rfl) fun b _ h => hA b h⟩
  · rcases List.mem_append.1 hr with hr | hr
    · exact r.keep (s.ok r hr) (fun _ _ _ => rfl) fun b _ h => hA b h
    · rw [List.mem_singleton.1 hr]
      exact ⟨by simp, [], ⟨by simp, .inl ⟨rfl, rfl⟩⟩, .nil⟩
  · rcases List.mem_append.1 hr with hr | hr
    · exact s.own r hr b hb
    · rw [List.mem_singleton.1 hr] at hb
      cases hb
  · rw [List.mem_singleton.1 hx] at h2
    cases h2
  · rcases List.mem_append.1 hr with hr | hr
    · exact s.apt r hr b hb
    · rw [List.mem_singleton.1 hr] at hb
      cases hb
end
end Go.Proofs.Ytcdakcemcehfiaa
