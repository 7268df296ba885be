/- The walk library, part c: what is owned; own cells. -/
import Derived.Test.YtcdakcemcehfiaaSxb
namespace Go.Proofs.Ytcdakcemcehfiaa
open Go Go.RowKit

theorem fpA_mem {Γ : List Res} {i : Nat} {r : Res} (h : Γ[i]? = some r) {b : Nat} (hb : r.fp b) : fpA Γ b := ⟨r, List.mem_of_getElem? h, hb⟩
theorem fpA_snoc {Γ : List Res} {r : Res} {b : Nat} : fpA (Γ ++ [r]) b ↔ fpA Γ b ∨ r.fp b := by
  simp only [fpA, List.mem_append, List.mem_singleton]
  constructor
  · rintro ⟨x, h | h, hb⟩
    · exact .inl ⟨x, h, hb⟩
    · subst h; exact .inr hb
  · rintro (⟨x, h, hb⟩ | hb)
    · exact ⟨x, .inl h, hb⟩
    · exact ⟨r, .inr rfl, hb⟩

theorem snoc_get {Γ : List Res} {r : Res} {i : Nat} {x : Res} (h : (Γ ++ [r])[i]? = some x) : (i < Γ.length ∧ Γ[i]? = some x) ∨ (i = Γ.length ∧ x = r) := by
  rcases Nat.lt_trichotomy i Γ.length with h1 | h1 | h1
  · rw [List.getElem?_append_left h1] at h; exact .inl ⟨h1, h⟩
  · subst h1; simp at h; exact .inr ⟨rfl, h.symm⟩
  · rw [List.getElem?_eq_none (by simp; omega)] at h; cases h

/-- A new block. -/
theorem St.new {E : En} {w : World} {Γ : List Res} (s : St E w Γ) (o : Obj) (r : Res) (hfp : ∀ b, r.fp b → b = w.heap.size) (hok : r.ok (av E (Γ ++ [r])) (w.alloc o)) :
    St E (w.alloc o) (Γ ++ [r]) ∧ Mv E Γ w (Γ ++ [r]) (w.alloc o) := by
  have hh : ∀ b, b < w.heap.size → (w.alloc o).heap[b]? = w.heap[b]? := fun b hb => Below.heap_alloc w o b hb
  have hA : ∀ b, b < w.heap.size → av E (Γ ++ [r]) b → av E Γ b := fun b hb h => by
    rcases h with h | h
    · exact .inl h
    rcases fpA_snoc.1 h with h | h
    · exact .inr h
    · have := hfp b h; omega
  refine ⟨⟨s.os, s.tape, s.output, s.drawn, ?_, fun b hb hf => (hh b (Nat.lt_of_lt_of_le hb s.size)).trans (s.same b hb hf), ?_, ?_, ?_, ?_, ?_⟩, fun u d h => h.keep (fun b hb _ => hh b hb) hA⟩
  · have := s.size; simp; omega
  · intro x hx
    rcases List.mem_append.1 hx with hx | hx
    · exact x.keep (s.ok x hx) (fun b hb _ => hh b hb) hA
    · simp at hx; subst hx; exact hok
  · intro x hx b hb
    rcases List.mem_append.1 hx with hx | hx
    · exact s.own x hx b hb
    · simp at hx; subst hx; exact .inr (by have := hfp b hb; have := s.size; omega)
  · intro i j x y hij hx hy b hbx hby
    rcases snoc_get hx with ⟨hi, h1⟩ | ⟨hi, h1⟩ <;> rcases snoc_get hy with ⟨hj, h2⟩ | ⟨hj, h2⟩
    · exact s.apart i j x y hij h1 h2 b hbx hby
    · subst h2; have := hfp b hby; have := x.lt (s.ok x (List.mem_of_getElem? h1)) hbx; omega
    · subst h1; have := hfp b hbx; have := y.lt (s.ok y (List.mem_of_getElem? h2)) hby; omega
    · omega
  · exact s.old
  · intro x hx b hb
    rcases List.mem_append.1 hx with hx | hx
    · exact s.apt x hx b hb
    · simp at hx; subst hx; intro ha; have := hfp b hb; have := s.old b ha; have := s.size; omega

theorem set_get {Γ : List Res} {r r' : Res} {i j : Nat} {x : Res} (hi : Γ[i]? = some r) (h : (Γ.set i r')[j]? = some x) : (i = j ∧ x = r') ∨ (i ≠ j ∧ Γ[j]? = some x) := by
  rw [List.getElem?_set] at h
  split at h
  · rename_i e
    have : i < Γ.length := by
      rcases Nat.lt_or_ge i Γ.length with h' | h'
      · exact h'
      · simp [List.getElem?_eq_none h'] at hi
    subst e
    simp [this] at h
    exact .inl ⟨rfl, h.symm⟩
  · rename_i e; exact .inr ⟨e, h⟩

/-- Owned thing i has become r'. -/
theorem St.upd {E : En} {w w' : World} {Γ : List Res} (s : St E w Γ) {i : Nat} {r : Res} (hi : Γ[i]? = some r) (r' : Res)
    (ho : w'.os = w.os) (ht : w'.tape = w.tape) (hp : w'.output = w.output) (hdr : w.drawn ≤ w'.drawn) (hsz : w.heap.size ≤ w'.heap.size)
    (hsame : ∀ b, b < w.heap.size → ¬ r.fp b → w'.heap[b]? = w.heap[b]?) (hfp : ∀ b, r'.fp b → r.fp b ∨ w.heap.size ≤ b) (hok : r'.ok (av E (Γ.set i r')) w') :
    St E w' (Γ.set i r') ∧ Mv E Γ w (Γ.set i r') w' := by
  have hA : ∀ b, b < w.heap.size → av E (Γ.set i r') b → av E Γ b := by
    rintro b hb (ha | ⟨x, hx, hxb⟩)
    · exact .inl ha
    obtain ⟨j, hj⟩ := List.getElem?_of_mem hx
    rcases set_get hi hj with ⟨_, rfl⟩ | ⟨_, hj⟩
    · rcases hfp b hxb with h | h
      · exact .inr (fpA_mem hi h)
      · omega
    · exact .inr (fpA_mem hj hxb)
  have hS : ∀ b, b < w.heap.size → ¬ av E Γ b → w'.heap[b]? = w.heap[b]? := fun b hb hn => hsame b hb fun h => hn (.inr (fpA_mem hi h))
  refine ⟨⟨ho.trans s.os, ht.trans s.tape, hp.trans s.output, Nat.le_trans s.drawn hdr, Nat.le_trans s.size hsz, ?_, ?_, ?_, ?_, s.old, ?_⟩, fun u d h => h.keep hS hA⟩
  · intro b hb hf
    refine (hsame b (Nat.lt_of_lt_of_le hb s.size) fun h => ?_).trans (s.same b hb hf)
    rcases s.own r (List.mem_of_getElem? hi) b h with h | h
    · exact hf h
    · omega
  · intro x hx
    obtain ⟨j, hj⟩ := List.getElem?_of_mem hx
    rcases set_get hi hj with ⟨_, rfl⟩ | ⟨hne, hj⟩
    · exact hok
    · refine x.keep (s.ok x (List.mem_of_getElem? hj)) (fun b hb h => ?_) hA
      rcases h with h | h
      · exact hsame b hb fun h' => s.apart i j r x hne hi hj b h' h
      · exact hS b hb h
  · intro x hx b hb
    obtain ⟨j, hj⟩ := List.getElem?_of_mem hx
    rcases set_get hi hj with ⟨_, rfl⟩ | ⟨_, hj⟩
    · rcases hfp b hb with h | h
      · exact s.own r (List.mem_of_getElem? hi) b h
      · exact .inr (Nat.le_trans s.size h)
    · exact s.own x (List.mem_of_getElem? hj) b hb
  · intro j k x y hjk hx hy b hbx hby
    rcases set_get hi hx with ⟨h1, e1⟩ | ⟨h1, e1⟩ <;> rcases set_get hi hy with ⟨h2, e2⟩ | ⟨h2, e2⟩
    · omega
    · subst e1
      rcases hfp b hbx with h | h
      · exact s.apart i k r y h2 hi e2 b h hby
      · have := y.lt (s.ok y (List.mem_of_getElem? e2)) hby; omega
    · subst e2
      rcases hfp b hby with h | h
      · exact s.apart i j r x h1 hi e1 b h hbx
      · have := x.lt (s.ok x (List.mem_of_getElem? e1)) hbx; omega
    · exact s.apart j k x y hjk e1 e2 b hbx hby
  · intro x hx b hb ha
    obtain ⟨j, hj⟩ := List.getElem?_of_mem hx
    rcases set_get hi hj with ⟨_, rfl⟩ | ⟨_, hj⟩
    · rcases hfp b hb with h | h
      · exact s.apt r (List.mem_of_getElem? hi) b h ha
      · have := s.old b ha; have := s.size; omega
    · exact s.apt x (List.mem_of_getElem? hj) b hb ha

/-- What is behind place n is let go. -/
theorem St.take {E : En} {w : World} {Γ : List Res} (s : St E w Γ) (n : Nat) : St E w (Γ.take n) ∧ Mv E Γ w (Γ.take n) w := by
  have hA : ∀ b, av E (Γ.take n) b → av E Γ b := fun b h => h.imp id fun ⟨x, hx, hb⟩ => ⟨x, List.mem_of_mem_take hx, hb⟩
  have hg : ∀ (i : Nat) (x : Res), (Γ.take n)[i]? = some x → Γ[i]? = some x := fun i x h => by
    rw [List.getElem?_take] at h; split at h
    · exact h
    · cases h
  exact ⟨⟨s.os, s.tape, s.output, s.drawn, s.size, s.same, fun x hx => x.keep (s.ok x (List.mem_of_mem_take hx)) (fun _ _ _ => rfl) (fun b _ h => hA b h),
    fun x hx => s.own x (List.mem_of_mem_take hx), fun i j x y hij hx hy => s.apart i j x y hij (hg i x hx) (hg j y hy), s.old, fun x hx => s.apt x (List.mem_of_mem_take hx)⟩,
    fun u d h => h.keep (fun _ _ _ => rfl) fun b _ h => hA b h⟩

/-- Nothing. -/
def unitR : Res := ⟨fun _ => False, fun _ _ => True, fun _ h => h.elim, fun _ _ _ => trivial⟩

/-- A block of known cells. -/
def cellsR (b : Nat) (T : TypeId) (ds : List DV) : Res where
  fp x := x = b
  ok A w := ∃ cs : List Value, w.heap[b]? = some (.cells cs.toArray T) ∧ RepL A w cs ds
  lt := by rintro A w x ⟨cs, h, _⟩ rfl; exact lt_of_heap h
  keep := by
    rintro A A' w w' ⟨cs, h, hr⟩ hw hA
    exact ⟨cs, (hw b (lt_of_heap h) (.inl rfl)).trans h, hr.keep (fun x hx hn => hw x hx (.inr hn)) hA⟩

/-- The cells of a value. -/
def cellsOf : DV → Option (List DV)
  | .agg ds => some ds
  | .v (.agg _) => none
  | .v (.tuple _) => none
  | .v u => some [.v u]
  | .tup _ => none
  | .gd _ _ _ => none
  | d => some [d]

theorem cellsOf_ok {A : Nat → Prop} {w : World} {v : Value} {d : DV} {ds : List DV} (h : Rep A w v d) (hd : cellsOf d = some ds) : ∃ cs : List Value, v.cells = cs.toArray ∧ RepL A w cs ds := by
  cases h with
  | v => cases v <;> simp only [cellsOf, reduceCtorEq, Option.some.injEq] at hd <;> subst hd <;> exact ⟨[_], rfl, .cons (.v _) .nil⟩
  | agg cs ds' hl h => simp only [cellsOf, Option.some.injEq] at hd; subst hd; exact ⟨cs, rfl, hl, h⟩
  | tup => simp [cellsOf] at hd
  | slnil k => simp only [cellsOf, Option.some.injEq] at hd; subst hd; exact ⟨[_], rfl, .cons (.slnil k) .nil⟩
  | slz a k => simp only [cellsOf, Option.some.injEq] at hd; subst hd; exact ⟨[_], rfl, .cons (.slz a k) .nil⟩
  | sl b off cap k rows h1 h2 h3 h4 u h5 h6 => simp only [cellsOf, Option.some.injEq] at hd; subst hd; exact ⟨[_], rfl, .cons (.sl b off cap k rows h1 h2 h3 h4 u h5 h6) .nil⟩
  | mpnil => simp only [cellsOf, Option.some.injEq] at hd; subst hd; exact ⟨[_], rfl, .cons .mpnil .nil⟩
  | mp b es clock l l' h1 h2 h3 h4 h5 h6 h7 => simp only [cellsOf, Option.some.injEq] at hd; subst hd; exact ⟨[_], rfl, .cons (.mp b es clock l l' h1 h2 h3 h4 h5 h6 h7) .nil⟩
  | el b off cap k rows i o hi h => simp only [cellsOf, Option.some.injEq] at hd; subst hd; exact ⟨[_], rfl, .cons (.el b off cap k rows i o hi h) .nil⟩
  | rp b n cap k i o => simp only [cellsOf, Option.some.injEq] at hd; subst hd; exact ⟨[_], rfl, .cons (.rp b n cap k i o) .nil⟩
  | os a n cap => simp only [cellsOf, Option.some.injEq] at hd; subst hd; exact ⟨[_], rfl, .cons (.os a n cap) .nil⟩
  | gdt => simp [cellsOf] at hd
  | gdf => simp [cellsOf] at hd
  | clo g cs ds' h1 h2 => simp only [cellsOf, Option.some.injEq] at hd; subst hd; exact ⟨[_], rfl, .cons (.clo g cs ds' h1 h2) .nil⟩
  | un _ h => simp only [cellsOf, Option.some.injEq] at hd; subst hd; exact ⟨[v], by cases v <;> first | rfl | simp [Value.oneCell'] at h, .cons (.un v h) .nil⟩

/-- A cell's value is one cell. -/
def one1 : DV → Bool
  | .v (.agg _) => false
  | .v (.tuple _) => false
  | .agg _ => false
  | .tup _ => false
  | .gd _ _ _ => false
  | _ => true

theorem one1_ok {A : Nat → Prop} {w : World} {v : Value} {d : DV} (h : Rep A w v d) (hd : one1 d = true) : v.oneCell' = true := by
  cases h with
  | v => cases v <;> first | rfl | simp [one1] at hd
  | agg => simp [one1] at hd
  | tup => simp [one1] at hd
  | gdt => simp [one1] at hd
  | gdf => simp [one1] at hd
  | un _ h => exact h
  | _ => rfl

def all1 : List DV → Bool
  | [] => true
  | d :: ds => one1 d && all1 ds

theorem all1_mem {ds : List DV} (h : all1 ds = true) : ∀ d ∈ ds, one1 d = true := by
  induction ds with
  | nil => simp
  | cons d ds ih =>
    simp only [all1, Bool.and_eq_true] at h
    intro x hx
    rcases List.mem_cons.1 hx with rfl | hx
    · exact h.1
    · exact ih h.2 x hx

theorem run_storeCells (P : Program) (b T : Nat) : ∀ (vs : List Value) (w : World) (i : Nat) (o : Nat) (cs : List Value), w.heap[b]? = some (.cells cs.toArray T) → (∀ v ∈ vs, v.oneCell' = true) → o + i + vs.length ≤ cs.length →
    ∃ w', (storeCells ⟨b, o, none⟩ vs i).run P w = .ok () w' ∧ w'.heap[b]? = some (.cells (cs.take (o + i) ++ (vs ++ cs.drop (o + i + vs.length))).toArray T) ∧ w'.os = w.os ∧ w'.tape = w.tape ∧ w'.output = w.output ∧
      w'.heap.size = w.heap.size ∧ ∀ k, k ≠ b → w'.heap[k]? = w.heap[k]?
  | [], w, i, o, cs, hb, _, hle => ⟨w, by simp [storeCells], by simpa using hb, rfl, rfl, rfl, rfl, fun _ _ => rfl⟩
  | v :: vs, w, i, o, cs, hb, h1, hle => by
    have hlt : o + i < cs.length := by simp at hle; omega
    have hbs := lt_of_heap hb
    have ha : (⟨b, o, none⟩ : Addr).add i = ⟨b, o + i, none⟩ := by unfold Addr.add; split <;> simp_all
    have hc : w.cell? ⟨b, o + i, none⟩ = some cs[o + i] := by simp [World.cell?, hb, hlt]
    have hf : w.frozen? ⟨b, o + i, none⟩ = false := by simp [World.frozen?, hb]
    have hb' : (w.setCell ⟨b, o + i, none⟩ v).heap[b]? = some (.cells (cs.set (o + i) v).toArray T) := by
      simp [World.setCell, Array.getElem?_modify, hb]
    obtain ⟨w', hr, h2, h3, h4, h5, h6, h7⟩ := run_storeCells P b T vs (w.setCell ⟨b, o + i, none⟩ v) (i + 1) o _ hb' (fun x hx => h1 x (List.mem_cons_of_mem _ hx)) (by simp at hle ⊢; omega)
    refine ⟨w', ?_, ?_, h3, h4, h5, ?_, fun k hk => (h7 k hk).trans (Below.heap_setCell _ _ _ _ hk)⟩
    · simp only [storeCells, Sem.run_bind, ha]
      rw [run_store _ _ _ _ _ (h1 v (by simp))]
      simp [hc, hf, hr]
    · rw [h2]
      congr 3
      have e1 : (cs.set (o + i) v).take (o + (i + 1)) = cs.take (o + i) ++ [v] := by
        rw [← Nat.add_assoc, List.take_succ_eq_append_getElem (by simpa using hlt), List.take_set_of_le (Nat.le_refl _)]
        simp
      rw [e1, List.append_assoc, List.singleton_append, List.cons_append, List.drop_set_of_lt (by omega)]
      congr 4
      simp; omega
    · rw [h6]; simp [World.setCell]
end Go.Proofs.Ytcdakcemcehfiaa
