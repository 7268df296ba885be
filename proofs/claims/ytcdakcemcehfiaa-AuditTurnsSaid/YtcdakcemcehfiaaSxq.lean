/- The walk library, part q: many own rows as one thing. -/
import Derived.Test.YtcdakcemcehfiaaSxp
namespace Go.Proofs.Ytcdakcemcehfiaa
open Go Go.RowKit

/-- One of many has been turned. -/
theorem star_upd {A A' : Nat → Prop} {w w' : World} {L : List Res} {p : Nat} {r r' : Res} (h : (starR L).ok A w) (hp : L[p]? = some r) (_hsz : w.heap.size ≤ w'.heap.size) (hsame : ∀ b, b < w.heap.size → ¬ r.fp b → w'.heap[b]? = w.heap[b]?) (hfp : ∀ b, r'.fp b → r.fp b ∨ w.heap.size ≤ b)
    (hA : ∀ b, b < w.heap.size → A' b → A b) (hrA : ∀ b, r.fp b → A b) (hok : r'.ok A' w') : (starR (L.set p r')).ok A' w' ∧ ∀ b, (starR (L.set p r')).fp b → (starR L).fp b ∨ w.heap.size ≤ b := by
  obtain ⟨hL, hP⟩ := h
  have hap := ap_iff.2 hP
  refine ⟨⟨fun x hx => ?_, ap_iff.1 fun i j x y hij hx hy b hbx hby => ?_⟩, ?_⟩
  · obtain ⟨q, hq⟩ := List.getElem?_of_mem hx
    rcases set_get hp hq with ⟨_, rfl⟩ | ⟨hne, hq⟩
    · exact hok
    · refine x.keep (hL x (List.mem_of_getElem? hq)) (fun b hb h => ?_) hA
      rcases h with h | h
      · exact hsame b hb fun h' => hap p q r x hne hp hq b h' h
      · exact hsame b hb fun h' => h (hrA b h')
  · rcases set_get hp hx with ⟨h1, e1⟩ | ⟨h1, e1⟩ <;> rcases set_get hp hy with ⟨h2, e2⟩ | ⟨h2, e2⟩
    · omega
    · subst e1
      rcases hfp b hbx with h | h
      · exact hap p j r y h2 hp e2 b h hby
      · have := y.lt (hL y (List.mem_of_getElem? e2)) hby; omega
    · subst e2
      rcases hfp b hby with h | h
      · exact hap p i r x h1 hp e1 b h hbx
      · have := x.lt (hL x (List.mem_of_getElem? e1)) hbx; omega
    · exact hap i j x y hij e1 e2 b hbx hby
  · rintro b ⟨x, hx, hb⟩
    obtain ⟨q, hq⟩ := List.getElem?_of_mem hx
    rcases set_get hp hq with ⟨_, rfl⟩ | ⟨_, hq⟩
    · exact (hfp b hb).imp (fun h => ⟨r, List.mem_of_getElem? hp, h⟩) id
    · exact .inl ⟨x, List.mem_of_getElem? hq, hb⟩

theorem av_set {E : En} {Γ : List Res} {i : Nat} {r r' : Res} {w : World} (hi : Γ[i]? = some r) (hf : ∀ b, r'.fp b → r.fp b ∨ w.heap.size ≤ b) : ∀ b, b < w.heap.size → av E (Γ.set i r') b → av E Γ b := by
  rintro b hb (h | ⟨x, hx, hxb⟩)
  · exact .inl h
  · obtain ⟨j, hj⟩ := List.getElem?_of_mem hx
    rcases set_get hi hj with ⟨_, rfl⟩ | ⟨_, hj⟩
    · rcases hf b hxb with h | h
      · exact .inr (fpA_mem hi h)
      · omega
    · exact .inr (fpA_mem hj hxb)

/-- One of many that are owned has been turned: the state. -/
theorem St.updS {E : En} {w w' : World} {Γ L : List Res} (s : St E w Γ) {i p : Nat} {r r' : Res} (hi : Γ[i]? = some (starR L)) (hp : L[p]? = some r) (ho : w'.os = w.os) (ht : w'.tape = w.tape) (hq : w'.output = w.output) (hdr : w.drawn ≤ w'.drawn) (hsz : w.heap.size ≤ w'.heap.size)
    (hsame : ∀ b, b < w.heap.size → ¬ r.fp b → w'.heap[b]? = w.heap[b]?) (hfp : ∀ b, r'.fp b → r.fp b ∨ w.heap.size ≤ b) (hok : r'.ok (av E (Γ.set i (starR (L.set p r')))) w') :
    St E w' (Γ.set i (starR (L.set p r'))) ∧ Mv E Γ w (Γ.set i (starR (L.set p r'))) w' := by
  have hst := s.ok _ (List.mem_of_getElem? hi)
  have hrm : ∀ b, r.fp b → (starR L).fp b := fun b h => ⟨r, List.mem_of_getElem? hp, h⟩
  have hfs : ∀ b, (starR (L.set p r')).fp b → (starR L).fp b ∨ w.heap.size ≤ b := by
    rintro b ⟨x, hx, hb⟩
    obtain ⟨q, hq⟩ := List.getElem?_of_mem hx
    rcases set_get hp hq with ⟨_, rfl⟩ | ⟨_, hq⟩
    · exact (hfp b hb).imp (hrm b) id
    · exact .inl ⟨x, List.mem_of_getElem? hq, hb⟩
  have hu := star_upd (A' := av E (Γ.set i (starR (L.set p r')))) hst hp hsz hsame hfp (av_set (w := w) hi hfs) (fun b h => .inr (fpA_mem hi (hrm b h))) hok
  exact s.upd hi (starR (L.set p r')) ho ht hq hdr hsz (fun b hb hn => hsame b hb fun h => hn (hrm b h)) hfs hu.1

section
variable {C : Cx} {E : En} {K : Kn} {Γ : List Res} {Q : Exit → Act → World → Prop} {c : Code} {ops : Array Oper} {o : Oper} {rest : List Oper}

/-- A thing that is owned is told in other words. -/
theorem w_res (i : Nat) {r : Res} (r' : Res) (hi : Γ[i]? = some r) (h : ∀ A w, r.ok A w → r'.ok A w) (hf : ∀ b, r'.fp b → r.fp b) (k : SW C E c K (Γ.set i r') Q) : SW C E c K Γ Q := by
  refine w_conv (fun w s => ?_) k
  exact s.upd (w' := w) hi r' rfl rfl rfl (Nat.le_refl _) (Nat.le_refl _) (fun _ _ _ => rfl) (fun b h => .inl (hf b h))
    (h _ _ (r.keep (s.ok r (List.mem_of_getElem? hi)) (fun _ _ _ => rfl) (av_set (w := w) hi fun b h => .inl (hf b h))))

/-- Nothing at all becomes many things: none. -/
theorem w_star0 (k : SW C E c K (Γ ++ [starR []]) Q) : SW C E c K Γ Q := by
  refine w_conv (fun w s => ?_) k
  have := St.shut_star (L := []) (Γ := Γ) (by simpa using s)
  simpa using this

/-- To the many one nil row is added. -/
theorem star_nil {T k : Nat} {L : List Res} (A : Nat → Prop) (w : World) (h : (starR L).ok A w) : (starR (L ++ [rowR (.slice none 0 0) T k []])).ok A w := by
  refine ⟨fun r hr => ?_, List.pairwise_append.2 ⟨h.2, by simp, fun r _ x hx b _ hb => ?_⟩⟩
  · rcases List.mem_append.1 hr with hr | hr
    · exact h.1 r hr
    · rw [List.mem_singleton.1 hr]
      exact ⟨by simp, [], ⟨by simp, .inl ⟨rfl, rfl⟩⟩, .nil⟩
  · rw [List.mem_singleton.1 hx] at hb
    cases hb
theorem star_nil_fp {T k : Nat} {L : List Res} (b : Nat) (h : (starR (L ++ [rowR (.slice none 0 0) T k []])).fp b) : (starR L).fp b := by
  obtain ⟨r, hr, hb⟩ := h
  rcases List.mem_append.1 hr with hr | hr
  · exact ⟨r, hr, hb⟩
  · rw [List.mem_singleton.1 hr] at hb
    cases hb

/-- 'append(own, read...)', the own row being one of many, as the state sees it. -/
theorem apps_sem {w : World} (s : St E w Γ) {i p T t ty kk N : Nat} {v q : Value} {L : List Res} {rows rows2 : List (List DV)} {e e2 : TyE} (hL : rows.length + rows2.length ≤ N) (hi : Γ[i]? = some (starR L)) (hp : L[p]? = some (rowR v T kk rows)) (hq : Rep (av E Γ) w q (.sl kk rows2))
    (ht : lkT C.T t = some e) (he : e.u = .slice T) (ht2 : lkT C.T T = some e2) (hk : Nat.beq e2.size kk = true) (h1 : (ones e2.zero && Nat.ble 1 kk) = true) (hb : (Nat.ble (N * e2.bytes) 140737488355328 && Nat.ble N 9223372036854775807) = true)
    (h2 : ∀ r ∈ rows2, ∀ d ∈ r, one1 d = true) : ∃ v' w', (Builtin.append_ #[t, t] ty #[v, q]).run C.P w = .ok v' w' ∧ St E w' (Γ.set i (starR (L.set p (rowR v' T kk (rows ++ rows2))))) ∧ Mv E Γ w (Γ.set i (starR (L.set p (rowR v' T kk (rows ++ rows2))))) w' ∧ ∀ A w, Rep A w v' (.os v') := by
  have hst := s.ok _ (List.mem_of_getElem? hi)
  have hrow := hst.1 _ (List.mem_of_getElem? hp)
  obtain ⟨hlen, v', w', hrun, ⟨us', hown', hr'⟩, e1, e2', e3, e4, e5, e6⟩ := app_run (ty := ty) hL hrow hq (C.get ht) he (C.get ht2) hk h1 hb h2
  have hfs : ∀ b, (starR (L.set p (rowR v' T kk (rows ++ rows2)))).fp b → (starR L).fp b ∨ w.heap.size ≤ b := by
    rintro b ⟨x, hx, hb⟩
    obtain ⟨q, hq⟩ := List.getElem?_of_mem hx
    rcases set_get hp hq with ⟨_, rfl⟩ | ⟨_, hq⟩
    · exact (e6 b hb).imp (fun h => ⟨_, List.mem_of_getElem? hp, h⟩) id
    · exact .inl ⟨x, List.mem_of_getElem? hq, hb⟩
  have hu := s.updS (r' := rowR v' T kk (rows ++ rows2)) hi hp e1 e2' e3 (sem_drawn _ hrun) e4 (fun b hb hn => e5 b hb hn) (fun b h => e6 b h)
    ⟨hlen, us', hown', hr'.keep (fun b hb hn => e5 b hb fun h => hn (.inr (fpA_mem hi ⟨_, List.mem_of_getElem? hp, h⟩))) (av_set (w := w) hi hfs)⟩
  exact ⟨v', w', hrun, hu.1, hu.2, fun A w0 => by
    rcases hown'.2 with ⟨rfl, _⟩ | ⟨g, cap, cur, rfl, _⟩
    · exact .os _ _ _
    · exact .os _ _ _⟩

/-- .. as an operation. -/
theorem o_apps (i p : Nat) {T t kk N : Nat} {x y : Operand} {ats : Array TypeId} {v : Value} {L : List Res} {rows rows2 : List (List DV)} {e e2 : TyE} {sl : Nat} (hL : rows.length + rows2.length ≤ N) (hp : L[p]? = some (rowR v T kk rows)) (ho : o.op = .call { callee := .builtin .append, args := #[x, y], argTypes := ats }) (hg : o.guard = none) (hsl : o.dst = some sl) (hN : Nat.blt sl E.N = true)
    (ha : ats = #[t, t]) (hx : ev K x = some (.os v)) (hy : ev K y = some (.sl kk rows2)) (hi : Γ[i]? = some (starR L))
    (ht : lkT C.T t = some e) (he : e.u = .slice T) (ht2 : lkT C.T T = some e2) (hk : Nat.beq e2.size kk = true) (h1 : (ones e2.zero && Nat.ble 1 kk) = true) (hb : (Nat.ble (N * e2.bytes) 140737488355328 && Nat.ble N 9223372036854775807) = true)
    (h2 : ∀ r ∈ rows2, ∀ d ∈ r, one1 d = true)
    (k : ∀ v', SO C E ops rest ((sl, .os v') :: K) (Γ.set i (starR (L.set p (rowR v' T kk (rows ++ rows2))))) Q) : SO C E ops (o :: rest) K Γ Q := by
  have hs : dstOk E.N o.dst = true := by rw [hsl]; exact hN
  have k : ∀ v', SO C E ops rest (putK o.dst (.os v') K) (Γ.set i (starR (L.set p (rowR v' T kk (rows ++ rows2))))) Q := by rw [hsl]; exact k
  intro a w s f
  have hv : a.eval x = v := (f.evl hx).os_inv
  obtain ⟨v', w', hrun, s', m', hv'⟩ := apps_sem (C := C) (ty := o.type) s hL hi hp (f.evl hy) ht he ht2 hk h1 hb h2
  refine wpList_plain hg fun Kc hK => ?_
  have hex : (execOp a.eval o).run C.P w = .ok (.value v') w' := by
    subst ha
    unfold execOp
    simp only [ho, resolve, invoke, builtin, Sem.run_bind, Sem.run_pure, Result.andThen_ok, List.map_toArray, List.map_cons, List.map_nil, hv, hrun]
  unfold Oper.wp
  rw [hex]
  exact hK _ _ (k v' _ _ s' ((f.mv m').put hs (hv' _ _)))

/-- A drawn region in which one of many own rows grows. -/
theorem d_begins {id : Nat} {l : List Oper} (i p T kk : Nat) (L : List Res) (rows' : List (List DV)) (_ : Γ[i]? = some (starR L)) (h : DG C E id l K Γ Q (fun st c => Γ.set i (match st with | 0 => starR L | _ => starR (L.set p (rowR c T kk rows')))) 0 []) : SW C E (.region id l.toArray true) K Γ Q := h rfl fun _ h => h

theorem d_apps {id : Nat} {l : List Oper} {Γs : Nat → Value → List Res} {n : Nat} {R : List Sp} {o : Oper} (i p : Nat) {T t kk N : Nat} {x y : Operand} {ats : Array TypeId} {v : Value} {L : List Res} {rows rows2 : List (List DV)} {e e2 : TyE} (js : List Nat) (hL : rows.length + rows2.length ≤ N) (hp : L[p]? = some (rowR v T kk rows)) (h2 : ∀ r ∈ rows2, ∀ d ∈ r, one1 d = true)
    (hj : subB l n js = true) (ho : l[n]? = some o) (hop : o.op = .call { callee := .builtin .append, args := #[x, y], argTypes := ats }) (hg : o.guard = none) (hst : Nat.beq (efs R.reverse (fun j => Nat.blt j n)) 0 = true) (ha : ats = #[t, t])
    (hx : ∀ bs c, ev (kq l R n bs c js ++ K) x = some (.os v)) (hy : ∀ bs c, ev (kq l R n bs c js ++ K) y = some (.sl kk rows2)) (hi : ∀ c Γx, (Γs 0 c ++ Γx)[i]? = some (starR L)) (hΓ : ∀ c c' Γx, (Γs 0 c ++ Γx).set i (starR (L.set p (rowR c' T kk (rows ++ rows2)))) = Γs 1 c' ++ Γx)
    (ht : lkT C.T t = some e) (he : e.u = .slice T) (ht2 : lkT C.T T = some e2) (hk : Nat.beq e2.size kk = true) (h1 : (ones e2.zero && Nat.ble 1 kk) = true) (hb : (Nat.ble (N * e2.bytes) 140737488355328 && Nat.ble N 9223372036854775807) = true)
    (k : DG C E id l K Γ Q Γs (n + 1) (.ef (fun c => .os c) :: R)) : DG C E id l K Γ Q Γs n R := by
  refine d_ef (f := fun c => .os c) js 0 hj ho hg hst (fun bs c Γx a w s f Kc Qx hK => ?_) k
  have hv : a.eval x = v := (f.evl (hx bs c)).os_inv
  obtain ⟨v', w', hrun, s', m', hv'⟩ := apps_sem (C := C) (ty := o.type) s hL (hi c Γx) hp (f.evl (hy bs c)) ht he ht2 hk h1 hb h2
  rw [hΓ] at s' m'
  have hex : (execOp a.eval o).run C.P w = .ok (.value v') w' := by
    subst ha
    unfold execOp
    simp only [hop, resolve, invoke, builtin, Sem.run_bind, Sem.run_pure, Result.andThen_ok, List.map_toArray, List.map_cons, List.map_nil, hv, hrun]
  unfold Oper.wp
  rw [hex]
  exact hK v' v' w' (.inl rfl) s' m' (hv' _ _)
end
end Go.Proofs.Ytcdakcemcehfiaa
