/- The walk library, part a: known values, what they stand for in a world, own resources, the state of a walk. -/
import Derived.Tactics
import Derived.Below
import Derived.Laws.AppendOwn
import Derived.Laws.Cells
import Derived.KernelRfl
namespace Go.Proofs.Ytcdakcemcehfiaa
open Go Go.RowKit

/-- The tape is read onward alone. -/
theorem ask_drawn {α : Type} : ∀ (q : Ask α) (w : World), w.drawn ≤ (w.ask q).2.drawn
  | .done a, w => Nat.le_refl _
  | .ask what range k, w => by
    simp only [World.ask]
    split
    · exact ask_drawn _ w
    · exact Nat.le_trans (Nat.le_succ _) (ask_drawn _ { w with drawn := w.drawn + 1 })

theorem far_drawn {P : Program} {w w1 : World} {a : Addr} {v : Value} {c : Bool} {l : List Addr} (h : w.farStore P a v c = .ok (w1, l)) : w1.drawn = w.drawn := by
  unfold World.farStore at h
  split at h
  · split at h
    · rename_i r he
      simp only [Except.ok.injEq] at h
      subst h
      unfold World.viewStore at he
      simp only [bind, Except.bind, pure, Except.pure] at he
      repeat' split at he
      all_goals first | (cases he; done) | (simp only [Except.ok.injEq, Prod.mk.injEq] at he; rw [← he.1])
    · cases h
  · cases h

theorem sem_drawn {α : Type} {P : Program} : ∀ (x : Sem α) {w w' : World} {a : α}, x.run P w = .ok a w' → w.drawn ≤ w'.drawn := by
  intro x
  induction x with
  | pure a => intro w w' b h; simp only [Sem.run, Result.ok.injEq] at h; rw [h.2]; exact Nat.le_refl _
  | load m a k ih =>
    intro w w' b h
    simp only [Sem.run] at h
    split at h
    · exact ih _ h
    · split at h
      · exact ih _ h
      · cases h
  | store m a v k ih =>
    intro w w' b h
    have key : (match w.cell? a with
        | some _ => if w.frozen? a then .halt (.unsupported (.unsafePointer "a write to bytes that a string shares")) w else k.run P (w.setCell a v)
        | none => match w.farStore P a v (m == .atomic) with
          | .ok (w, _) => k.run P w
          | .error h => .halt h w : Result _) = .ok b w' → w.drawn ≤ w'.drawn := by
      intro h
      split at h
      · split at h
        · cases h
        · have := ih h
          exact this
      · split at h
        · rename_i w1 l he
          have := ih h
          rw [far_drawn he] at this
          exact this
        · cases h
    cases v <;> first | exact key h | (simp [Sem.run] at h; done)
  | new o k ih =>
    intro w w' b h
    simp only [Sem.run] at h
    have := ih _ h
    exact this
  | shape r k ih => intro w w' b h; simp only [Sem.run] at h; exact ih _ h
  | freeze a n k ih =>
    intro w w' b h
    simp only [Sem.run] at h
    have := ih h
    unfold World.freeze at this
    split at this <;> exact this
  | frozen a k ih => intro w w' b h; simp only [Sem.run] at h; exact ih _ h
  | getObj r k ih =>
    intro w w' b h
    simp only [Sem.run] at h
    split at h <;> first | (cases h; done) | exact ih _ h
  | setObj r o k ih =>
    intro w w' b h
    simp only [Sem.run] at h
    split at h
    · cases h
    · have := ih h
      exact this
    · cases h
  | choose q k ih =>
    intro w w' b h
    simp only [Sem.run] at h
    split at h
    · exact ih _ h
    · exact Nat.le_trans (Nat.le_succ _) (ih _ h)
  | sys c k ih =>
    intro w w' b h
    simp only [Sem.run] at h
    refine Nat.le_trans ?_ (ih _ h)
    unfold World.sys
    have := ask_drawn (Kernel.perform c w.os) w
    split
    · exact Nat.le_refl _
    · rename_i he
      rw [he] at this
      exact this
  | program k ih => intro w w' b h; simp only [Sem.run] at h; exact ih _ h
  | mark m k ih => intro w w' b h; simp only [Sem.run] at h; exact ih h
  | halt h => intro w w' b h; simp [Sem.run] at h

/-- What is known of a value. A cell's is v, sl, mp, el, rp or gd; un: a cell of which nothing is known. The entries of an mp stand in any order. -/
inductive DV where
  | v (u : Value)
  | agg (ds : List DV)
  | tup (ds : List DV)
  | sl (k : Nat) (rows : List (List DV))
  | mp (l : List (Value × DV))
  | el (k : Nat) (rows : List (List DV)) (i o : Nat)
  | rp (u : Value) (k i o : Nat)
  | gd (c want : Bool) (d : DV)
  | os (u : Value)
  | un
  | clo (g : Nat) (ds : List DV)
  deriving Inhabited

@[reducible] def DV.i (n : Int) : DV := .v (.int .i64 n)
@[reducible] def DV.b (c : Bool) : DV := .v (.bool c)

/-- 'In w, u is what d tells; nothing that is read on the way lies in A.' -/
inductive Rep (A : Nat → Prop) (w : World) : Value → DV → Prop where
  | v (u : Value) : Rep A w u (.v u)
  | agg (cs : List Value) (ds : List DV) (hl : cs.length = ds.length) (h : ∀ (i : Nat) (c : Value) (d : DV), cs[i]? = some c → ds[i]? = some d → Rep A w c d) : Rep A w (.agg cs.toArray) (.agg ds)
  | tup (cs : List Value) (ds : List DV) (hl : cs.length = ds.length) (h : ∀ (i : Nat) (c : Value) (d : DV), cs[i]? = some c → ds[i]? = some d → Rep A w c d) : Rep A w (.tuple cs.toArray) (.tup ds)
  | slnil (k : Nat) : Rep A w (.slice none 0 0) (.sl k [])
  | slz (a : Addr) (k : Nat) : Rep A w (.slice (some a) 0 0) (.sl k [])
  | sl (b off cap k : Nat) (rows : List (List DV)) (hA : ∀ (i : Nat) (r : List DV) (j : Nat) (d : DV), rows[i]? = some r → r[j]? = some d → ¬ A b) (hc : rows.length ≤ cap) (hm : cap ≤ maxLen) (hk : ∀ r ∈ rows, r.length = k) (u : Nat → Nat → Value)
      (hu : ∀ (i : Nat) (r : List DV) (j : Nat) (d : DV), rows[i]? = some r → r[j]? = some d → w.cell? ⟨b, off + (i * k + j), none⟩ = some (u i j))
      (hr : ∀ (i : Nat) (r : List DV) (j : Nat) (d : DV), rows[i]? = some r → r[j]? = some d → Rep A w (u i j) d) : Rep A w (.slice (some ⟨b, off, none⟩) rows.length cap) (.sl k rows)
  | mpnil : Rep A w (.map none) (.mp [])
  | mp (b : Nat) (es : Array MapEntry) (clock : Nat) (l l' : List (Value × DV)) (hp : l'.Perm l) (hd : (l.map (·.1)).Nodup) (hA : ¬ A b) (hb : w.heap[b]? = some (.map es clock)) (hl : es.size = l'.length)
      (hk : ∀ (i : Nat) (e : MapEntry) (x : Value × DV), es[i]? = some e → l'[i]? = some x → e.key = x.1) (he : ∀ (i : Nat) (e : MapEntry) (x : Value × DV), es[i]? = some e → l'[i]? = some x → Rep A w e.val x.2) : Rep A w (.map (some b)) (.mp l)
  | el (b off cap k : Nat) (rows : List (List DV)) (i o : Nat) (hi : i < rows.length) (h : Rep A w (.slice (some ⟨b, off, none⟩) rows.length cap) (.sl k rows)) :
      Rep A w (.pointer (some ⟨b, off + (i * k + o), none⟩)) (.el k rows i o)
  | rp (b n cap k i o : Nat) : Rep A w (.pointer (some ⟨b, i * k + o, none⟩)) (.rp (.slice (some ⟨b, 0, none⟩) n cap) k i o)
  | gdt (c want : Bool) (d : DV) (u : Value) (hc : c = want) (h : Rep A w u d) : Rep A w u (.gd c want d)
  | gdf (c want : Bool) (d : DV) (hc : c ≠ want) : Rep A w undef (.gd c want d)
  | os (a : Option Addr) (n cap : Nat) : Rep A w (.slice a n cap) (.os (.slice a n cap))
  | un (u : Value) (h : u.oneCell' = true) : Rep A w u .un
  | clo (g : Nat) (cs : List Value) (ds : List DV) (hl : cs.length = ds.length) (h : ∀ (i : Nat) (c : Value) (d : DV), cs[i]? = some c → ds[i]? = some d → Rep A w c d) : Rep A w (.func (.func g) #[] cs.toArray) (.clo g ds)

theorem lt_of_cell {w : World} {b o : Nat} {v : Value} (h : w.cell? ⟨b, o, none⟩ = some v) : b < w.heap.size := by
  rcases Nat.lt_or_ge b w.heap.size with h' | h'
  · exact h'
  · simp [World.cell?, Array.getElem?_eq_none h'] at h

theorem lt_of_heap {w : World} {b : Nat} {o : Obj} (h : w.heap[b]? = some o) : b < w.heap.size := by
  rcases Nat.lt_or_ge b w.heap.size with h' | h'
  · exact h'
  · simp [Array.getElem?_eq_none h'] at h

/-- The reading stays, where the blocks that may be read stay, and less is shut out. -/
theorem Rep.keep {A A' : Nat → Prop} {w w' : World} {v : Value} {d : DV} (h : Rep A w v d)
    (hw : ∀ b, b < w.heap.size → ¬ A b → w'.heap[b]? = w.heap[b]?) (hA : ∀ b, b < w.heap.size → A' b → A b) : Rep A' w' v d := by
  induction h with
  | v u => exact .v u
  | agg cs ds hl _ ih => exact .agg cs ds hl ih
  | tup cs ds hl _ ih => exact .tup cs ds hl ih
  | slnil k => exact .slnil k
  | slz a k => exact .slz a k
  | sl b off cap k rows hnA hc hm hk u hu _ ih =>
    refine .sl b off cap k rows (fun i r j d h1 h2 ha => hnA i r j d h1 h2 (hA b (lt_of_cell (hu i r j d h1 h2)) ha)) hc hm hk u (fun i r j d h1 h2 => ?_) ih
    exact (World.cell?_of_block (w := w) (a := ⟨b, off + (i * k + j), none⟩) (hw b (lt_of_cell (hu i r j d h1 h2)) (hnA i r j d h1 h2))).trans (hu i r j d h1 h2)
  | mpnil => exact .mpnil
  | mp b es clock l l' hp hd hnA hb hl hk _ ih => exact .mp b es clock l l' hp hd (fun ha => hnA (hA b (lt_of_heap hb) ha)) ((hw b (lt_of_heap hb) hnA).trans hb) hl hk ih
  | el b off cap k rows i o hi _ ih => exact .el b off cap k rows i o hi ih
  | rp b n cap k i o => exact .rp b n cap k i o
  | gdt c want d u hc _ ih => exact .gdt c want d u hc ih
  | gdf c want d hc => exact .gdf c want d hc
  | os a n cap => exact .os a n cap
  | un u h => exact .un u h
  | clo g cs ds hl _ ih => exact .clo g cs ds hl ih

theorem Rep.v_inv {A : Nat → Prop} {w : World} {u x : Value} (h : Rep A w u (.v x)) : u = x := by cases h; rfl

def RepL (A : Nat → Prop) (w : World) (cs : List Value) (ds : List DV) : Prop :=
  cs.length = ds.length ∧ ∀ (i : Nat) (c : Value) (d : DV), cs[i]? = some c → ds[i]? = some d → Rep A w c d

theorem Rep.agg_inv {A : Nat → Prop} {w : World} {u : Value} {ds : List DV} (h : Rep A w u (.agg ds)) : ∃ cs : List Value, u = .agg cs.toArray ∧ RepL A w cs ds := by
  cases h with | agg cs _ hl h => exact ⟨cs, rfl, hl, h⟩

theorem Rep.tup_inv {A : Nat → Prop} {w : World} {u : Value} {ds : List DV} (h : Rep A w u (.tup ds)) : ∃ cs : List Value, u = .tuple cs.toArray ∧ RepL A w cs ds := by
  cases h with | tup cs _ hl h => exact ⟨cs, rfl, hl, h⟩

theorem Rep.clo_inv {A : Nat → Prop} {w : World} {u : Value} {g : Nat} {ds : List DV} (h : Rep A w u (.clo g ds)) : ∃ cs : List Value, u = .func (.func g) #[] cs.toArray ∧ RepL A w cs ds := by
  cases h with | clo _ cs _ hl h => exact ⟨cs, rfl, hl, h⟩

theorem RepL.keep {A A' : Nat → Prop} {w w' : World} {cs : List Value} {ds : List DV} (h : RepL A w cs ds)
    (hw : ∀ b, b < w.heap.size → ¬ A b → w'.heap[b]? = w.heap[b]?) (hA : ∀ b, b < w.heap.size → A' b → A b) : RepL A' w' cs ds :=
  ⟨h.1, fun i c d h1 h2 => (h.2 i c d h1 h2).keep hw hA⟩

theorem RepL.nil {A : Nat → Prop} {w : World} : RepL A w [] [] := ⟨rfl, fun i c d h => by simp at h⟩
theorem RepL.cons {A : Nat → Prop} {w : World} {c : Value} {d : DV} {cs : List Value} {ds : List DV} (h : Rep A w c d) (hs : RepL A w cs ds) : RepL A w (c :: cs) (d :: ds) :=
  ⟨by simp [hs.1], fun i c' d' h1 h2 => by
    cases i with
    | zero => simp at h1 h2; subst h1 h2; exact h
    | succ i => exact hs.2 i c' d' (by simpa using h1) (by simpa using h2)⟩

theorem RepL.nil_inv {A : Nat → Prop} {w : World} {cs : List Value} (h : RepL A w cs []) : cs = [] := List.eq_nil_of_length_eq_zero h.1
theorem RepL.cons_inv {A : Nat → Prop} {w : World} {cs : List Value} {d : DV} {ds : List DV} (h : RepL A w cs (d :: ds)) : ∃ c cs', cs = c :: cs' ∧ Rep A w c d ∧ RepL A w cs' ds := by
  cases cs with
  | nil => exact absurd h.1 (by simp)
  | cons c cs' => exact ⟨c, cs', rfl, h.2 0 c d rfl rfl, by simpa using h.1, fun i c' d' h1 h2 => h.2 (i + 1) c' d' (by simpa using h1) (by simpa using h2)⟩

theorem RepL.get {A : Nat → Prop} {w : World} {cs : List Value} {ds : List DV} (h : RepL A w cs ds) {i : Nat} {d : DV} (hd : ds[i]? = some d) : ∃ c, cs[i]? = some c ∧ Rep A w c d := by
  have hi : i < ds.length := by
    rcases Nat.lt_or_ge i ds.length with h' | h'
    · exact h'
    · simp [List.getElem?_eq_none h'] at hd
  have hi' : i < cs.length := by rw [h.1]; exact hi
  have hc : cs[i]? = some cs[i] := List.getElem?_eq_getElem hi'
  exact ⟨_, hc, h.2 i _ d hc hd⟩

theorem RepL.append {A : Nat → Prop} {w : World} {cs cs' : List Value} {ds ds' : List DV} (h : RepL A w cs ds) (h' : RepL A w cs' ds') : RepL A w (cs ++ cs') (ds ++ ds') := by
  refine ⟨by simp [h.1, h'.1], fun i c d h1 h2 => ?_⟩
  by_cases hi : i < cs.length
  · rw [List.getElem?_append_left hi] at h1
    rw [List.getElem?_append_left (by rw [← h.1]; exact hi)] at h2
    exact h.2 i c d h1 h2
  · rw [List.getElem?_append_right (by omega)] at h1
    rw [List.getElem?_append_right (by rw [← h.1]; omega), ← h.1] at h2
    exact h'.2 _ c d h1 h2

theorem RepL.drop {A : Nat → Prop} {w : World} {cs : List Value} {ds : List DV} (h : RepL A w cs ds) (n : Nat) : RepL A w (cs.drop n) (ds.drop n) :=
  ⟨by simp [h.1], fun i c d h1 h2 => h.2 (n + i) c d (by simpa using h1) (by simpa using h2)⟩

theorem RepL.take {A : Nat → Prop} {w : World} {cs : List Value} {ds : List DV} (h : RepL A w cs ds) (n : Nat) : RepL A w (cs.take n) (ds.take n) := by
  refine ⟨by simp [h.1], fun i c d h1 h2 => h.2 i c d ?_ ?_⟩
  · rw [List.getElem?_take] at h1; split at h1
    · exact h1
    · simp at h1
  · rw [List.getElem?_take] at h2; split at h2
    · exact h2
    · simp at h2

/-- What the walk owns. fp: its blocks. ok A w: it lies in w as told; A: what no reading of a value in it may meet. -/
structure Res where
  fp : Nat → Prop
  ok : (Nat → Prop) → World → Prop
  lt : ∀ {A w b}, ok A w → fp b → b < w.heap.size
  keep : ∀ {A A' w w'}, ok A w → (∀ b, b < w.heap.size → (fp b ∨ ¬ A b) → w'.heap[b]? = w.heap[b]?) → (∀ b, b < w.heap.size → A' b → A b) → ok A' w'

def fpA (Γ : List Res) (b : Nat) : Prop := ∃ r ∈ Γ, r.fp b

/-- What a walk is about: F: the blocks that were there and may turn; A: the blocks that no reading may meet, beside what is owned; w0: the world in which it began; N: the frame's size. -/
structure En where
  F : Nat → Prop
  A : Nat → Prop
  w0 : World
  N : Nat

def av (E : En) (Γ : List Res) (b : Nat) : Prop := E.A b ∨ fpA Γ b

/-- The state of memory: outside of F nothing that was there has turned; what is owned lies in F or is new; each thing that is owned lies apart. -/
structure St (E : En) (w : World) (Γ : List Res) : Prop where
  os : w.os = E.w0.os
  tape : w.tape = E.w0.tape
  output : w.output = E.w0.output
  drawn : E.w0.drawn ≤ w.drawn
  size : E.w0.heap.size ≤ w.heap.size
  same : ∀ b, b < E.w0.heap.size → ¬ E.F b → w.heap[b]? = E.w0.heap[b]?
  ok : ∀ r ∈ Γ, r.ok (av E Γ) w
  own : ∀ r ∈ Γ, ∀ b, r.fp b → E.F b ∨ E.w0.heap.size ≤ b
  apart : ∀ (i j : Nat) (r s : Res), i ≠ j → Γ[i]? = some r → Γ[j]? = some s → ∀ b, r.fp b → ¬ s.fp b
  old : ∀ b, E.A b → b < E.w0.heap.size
  apt : ∀ r ∈ Γ, ∀ b, r.fp b → ¬ E.A b

abbrev Kn := List (Nat × DV)
def lk : Kn → Nat → Option DV
  | [], _ => none
  | p :: K, t => bif Nat.beq p.1 t then some p.2 else lk K t

structure Fr (N : Nat) (K : Kn) (A : Nat → Prop) (w : World) (a : Act) : Prop where
  df : a.defers = []
  sz : a.tmps.size = N
  kn : ∀ s d, lk K s = some d → ∃ v, a.tmps[s]? = some v ∧ Rep A w v d

/-- From (Γ, w) to (Γ', w') every reading stays. -/
def Mv (E : En) (Γ : List Res) (w : World) (Γ' : List Res) (w' : World) : Prop := ∀ u d, Rep (av E Γ) w u d → Rep (av E Γ') w' u d

theorem Mv.refl (E : En) (Γ : List Res) (w : World) : Mv E Γ w Γ w := fun _ _ h => h
theorem Mv.trans {E : En} {Γ Γ' Γ'' : List Res} {w w' w'' : World} (h : Mv E Γ w Γ' w') (h' : Mv E Γ' w' Γ'' w'') : Mv E Γ w Γ'' w'' := fun u d hr => h' u d (h u d hr)

theorem Fr.mv {E : En} {N : Nat} {K : Kn} {Γ Γ' : List Res} {w w' : World} {a : Act} (h : Fr N K (av E Γ) w a) (m : Mv E Γ w Γ' w') : Fr N K (av E Γ') w' a :=
  ⟨h.df, h.sz, fun s d hd => let ⟨v, h1, h2⟩ := h.kn s d hd; ⟨v, h1, m _ _ h2⟩⟩

def putK (dst : Option Nat) (d : DV) (K : Kn) : Kn := match dst with | some s => (s, d) :: K | none => K
def dstOk (N : Nat) : Option Nat → Bool | some s => Nat.blt s N | none => true

theorem Fr.put {N : Nat} {K : Kn} {A : Nat → Prop} {w : World} {a : Act} (h : Fr N K A w a) {dst : Option Nat} (hs : dstOk N dst = true) {v : Value} {d : DV} (hv : Rep A w v d) :
    Fr N (putK dst d K) A w (a.put dst v) := by
  cases dst with
  | none => exact h
  | some s =>
    have hs' : s < N := by simpa [dstOk, Nat.blt_eq] using hs
    refine ⟨h.df, by simp [Act.put, h.sz], fun t e ht => ?_⟩
    simp only [putK, lk] at ht
    by_cases e1 : s = t
    · subst e1
      simp at ht
      subst ht
      exact ⟨v, by simp [Act.put, h.sz, hs'], hv⟩
    · have : Nat.beq s t = false := by
        cases hb : Nat.beq s t with
        | false => rfl
        | true => exact absurd (Nat.eq_of_beq_eq_true hb) e1
      rw [this, cond_false] at ht
      obtain ⟨u, h1, h2⟩ := h.kn t e ht
      exact ⟨u, by simp [Act.put, e1, h1], h2⟩

/-- A slot of which nothing is known any more. -/
def lt_all (K K' : Kn) : Prop := ∀ s d, lk K' s = some d → lk K s = some d
theorem Fr.less {N : Nat} {K K' : Kn} {A : Nat → Prop} {w : World} {a : Act} (h : Fr N K A w a) (hk : lt_all K K') : Fr N K' A w a :=
  ⟨h.df, h.sz, fun s d hd => h.kn s d (hk s d hd)⟩

def ev (K : Kn) : Operand → Option DV
  | .tmp t => lk K t
  | .const v => some (.v v)
  | .global g => some (.v (.pointer (some ⟨g, 0, none⟩)))
  | .func f => some (.v (.func (.func f) #[] #[]))

theorem Fr.evl {N : Nat} {K : Kn} {A : Nat → Prop} {w : World} {a : Act} (h : Fr N K A w a) {x : Operand} {d : DV} (hx : ev K x = some d) : Rep A w (a.eval x) d := by
  cases x with
  | tmp t =>
    obtain ⟨v, h1, h2⟩ := h.kn t d hx
    have : a.eval (.tmp t) = v := by simp [Act.eval, Array.getD_eq_getD_getElem?, h1]
    rw [this]; exact h2
  | const v => simp only [ev, Option.some.injEq] at hx; subst hx; exact .v _
  | global g => simp only [ev, Option.some.injEq] at hx; subst hx; exact .v _
  | func f => simp only [ev, Option.some.injEq] at hx; subst hx; exact .v _

/-! ### types -/
structure TyE where
  u : TypeDesc
  size : Nat
  bytes : Nat
  zero : List Value
  agg : Bool
  deriving Inhabited

def TyE.z (e : TyE) : Value := if e.agg then .agg e.zero.toArray else e.zero.headD undef
def isAggD : TypeDesc → Bool | .struct _ => true | .array _ _ => true | _ => false
structure TyOk (P : Program) (t : TypeId) (e : TyE) : Prop where
  u : P.underlying t = some e.u
  i : (P.info? t).map (fun i => (i.size, i.bytes, i.zero)) = some (e.size, e.bytes, some e.z)
  g : e.agg = isAggD e.u
  n : e.zero.length = e.size
  o : e.agg = false → e.size = 1
  h : P.stoodInHeld t = false
  q : P.eqGuardType P.depth t = false

def lkT : List (Nat × TyE) → Nat → Option TyE
  | [], _ => none
  | p :: T, t => bif Nat.beq p.1 t then some p.2 else lkT T t

structure Cx where
  P : Program
  T : List (Nat × TyE)
  ok : ∀ p ∈ T, TyOk P p.1 p.2
  mx : P.follows .mixedOrders = true

theorem Cx.get (C : Cx) {t : Nat} {e : TyE} (h : lkT C.T t = some e) : TyOk C.P t e := by
  have key : ∀ T : List (Nat × TyE), lkT T t = some e → (t, e) ∈ T := by
    intro T
    induction T with
    | nil => intro h; simp [lkT] at h
    | cons p T ih =>
      intro h
      simp only [lkT] at h
      cases hb : Nat.beq p.1 t with
      | true =>
        rw [hb] at h
        simp at h
        have := Nat.eq_of_beq_eq_true hb
        subst h this
        simp
      | false =>
        rw [hb, cond_false] at h
        exact List.mem_cons_of_mem _ (ih h)
  exact C.ok _ (key _ h)

/-! ### walks -/
def SW (C : Cx) (E : En) (c : Code) (K : Kn) (Γ : List Res) (Q : Exit → Act → World → Prop) : Prop :=
  ∀ a w, St E w Γ → Fr E.N K (av E Γ) w a → c.wp C.P Q a w

def SO (C : Cx) (E : En) (ops : Array Oper) (l : List Oper) (K : Kn) (Γ : List Res) (Q : Exit → Act → World → Prop) : Prop :=
  ∀ a w, St E w Γ → Fr E.N K (av E Γ) w a → wpList C.P ops Q l a w

/-- The state at an exit. -/
structure SX (E : En) (K : Kn) (Γ : List Res) (Q : Act → World → Prop) : Prop where
  h : ∀ a w, St E w Γ → Fr E.N K (av E Γ) w a → Q a w

section
variable {C : Cx} {E : En} {K : Kn} {Γ : List Res} {Q : Exit → Act → World → Prop}

theorem w_seq {x y : Code} (h : SW C E x K Γ (Exit.then (fun a w => y.wp C.P Q a w) Q)) : SW C E (.seq x y) K Γ Q :=
  fun a w s f => wp_seq (h a w s f)
theorem w_reg {id : Nat} {l : List Oper} (h : SO C E l.toArray l K Γ Q) : SW C E (.region id l.toArray false) K Γ Q :=
  fun a w s f => wp_region_lit (h a w s f)
theorem w_block {id : Nat} {c : Code} (h : SW C E c K Γ (Exit.inBlock id Q)) : SW C E (.block id c) K Γ Q :=
  fun a w s f => wp_block (h a w s f)
theorem w_skip (h : SX E K Γ (fun a w => Q .normal a w)) : SW C E .skip K Γ Q := fun a w s f => wp_skip (h.h a w s f)
theorem w_exit {id : Nat} (h : SX E K Γ (fun a w => Q (.exit id) a w)) : SW C E (.exit id) K Γ Q := fun a w s f => wp_exit (h.h a w s f)
theorem w_ret (h : SX E K Γ (fun a w => Q .ret a w)) : SW C E .ret K Γ Q := fun a w s f => wp_ret (h.h a w s f)
theorem w_if {c : Operand} {x y : Code} {t : Bool} (hc : ev K c = some (.v (.bool t))) (ht : t = true → SW C E x K Γ Q) (hf : t = false → SW C E y K Γ Q) :
    SW C E (.cond c x y) K Γ Q :=
  fun a w s f => wp_cond_split (f.evl hc).v_inv (fun h => ht h a w s f) (fun h => hf h a w s f)
theorem w_ift {c : Operand} {x y : Code} (hc : ev K c = some (.v (.bool true))) (ht : SW C E x K Γ Q) : SW C E (.cond c x y) K Γ Q :=
  w_if hc (fun _ => ht) (fun h => by cases h)
theorem w_iff {c : Operand} {x y : Code} (hc : ev K c = some (.v (.bool false))) (hf : SW C E y K Γ Q) : SW C E (.cond c x y) K Γ Q :=
  w_if hc (fun h => by cases h) (fun _ => hf)
theorem o_nil {ops : Array Oper} (h : SX E K Γ (fun a w => Q .normal a w)) : SO C E ops [] K Γ Q := fun a w s f => wpList_nil (h.h a w s f)

theorem less_SW {c : Code} {K' : Kn} (hk : lt_all K K') (h : SW C E c K' Γ Q) : SW C E c K Γ Q := fun a w s f => h a w s (f.less hk)
theorem less_SX {R : Act → World → Prop} {K' : Kn} (hk : lt_all K K') (h : SX E K' Γ R) : SX E K Γ R := ⟨fun a w s f => h.h a w s (f.less hk)⟩
end
end Go.Proofs.Ytcdakcemcehfiaa
