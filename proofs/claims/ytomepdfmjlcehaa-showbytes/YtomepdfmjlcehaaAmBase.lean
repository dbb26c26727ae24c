/- The abstract values and the abstract heap of this claim, what it means that they stand for the machine's values and memory, and how they may grow. -/
import Derived.Calls
import Derived.Laws.World
set_option linter.unusedVariables false
namespace Go.Am

/-- An abstract value. -/
inductive AV where
  | bo (b : Bool)
  | it (k : IntKind) (n : Int)
  | st (s : List UInt8)
  | sc (v : Value)
  | sl (xs : List AV)
  | ag (cs : List AV)
  | row (g n : Nat)
  | nl
  | ptr (g o : Nat)
  | el (g n i o : Nat)
  | fp (xs : List AV) (i o : Nat)
  | tp (vs : List AV)
  | fn (f : FuncId) (cap : List AV)
  | un
  deriving Inhabited

/-- An entry of the abstract heap. -/
inductive Ent where
  | box (t : Nat) (cs : List AV)
  | row (e : TypeId) (sz : Nat) (xs : List AV) (f : Nat)
  | iter (s : List UInt8) (pos : Nat)
  | res
  | dead
  deriving Inhabited

def AV.cells : AV → List AV
  | .ag cs => cs
  | v => [v]

/-- The ghost state: cells that never turn again, where each entry lies, and the entries. -/
structure Gho where
  K : Nat → Nat → Option Value
  γ : Nat → Option (Nat × Nat)
  H : List Ent

def one (v : Value) : Prop := match v with | .agg _ | .tuple _ => False | _ => True

/-- v stands for a. -/
inductive Rl (G : Gho) : Value → AV → Prop
  | bo (b) : Rl G (.bool b) (.bo b)
  | it (k n) : Rl G (.int k n) (.it k n)
  | st (s) : Rl G (.string ⟨s.toArray⟩) (.st s)
  | sc (v) : one v → Rl G v (.sc v)
  | sl0 (A c) : Rl G (.slice A 0 c) (.sl [])
  | sl (b o n c sz xs) (us : Nat → Nat → Value) : n ≤ c → xs.length = n → (∀ x ∈ xs, x.cells.length = sz) →
      (∀ i j, i < n → j < sz → G.K b (o + (i * sz + j)) = some (us i j)) →
      (∀ i j x y, xs[i]? = some x → x.cells[j]? = some y → Rl G (us i j) y) → Rl G (.slice (some ⟨b, o, none⟩) n c) (.sl xs)
  | ag (vs cs) : vs.size = cs.length → (∀ (j : Nat) (v : Value) (c : AV), vs[j]? = some v → cs[j]? = some c → Rl G v c) → Rl G (.agg vs) (.ag cs)
  | tp (vs cs) : vs.size = cs.length → (∀ (j : Nat) (v : Value) (c : AV), vs[j]? = some v → cs[j]? = some c → Rl G v c) → Rl G (.tuple vs) (.tp cs)
  | row (g n A c) : g < G.H.length → G.H[g]? ≠ some .res →
      (∀ e sz xs f, G.H[g]? = some (.row e sz xs f) → n ≤ xs.length ∧ f ≤ xs.length ∧ (n = xs.length → (∃ b, G.γ g = some (b, c) ∧ A = some ⟨b, 0, none⟩) ∨ (G.γ g = none ∧ n = 0 ∧ A = none ∧ c = 0))) →
      Rl G (.slice A n c) (.row g n)
  | nl : Rl G (.slice none 0 0) .nl
  | ptr (g o b) : g < G.H.length → G.H[g]? ≠ some .res →
      (∀ t cs, G.H[g]? = some (.box t cs) → G.γ g = some (b, 0)) → (∀ s p, G.H[g]? = some (.iter s p) → G.γ g = some (b, 0)) →
      Rl G (.pointer (some ⟨b, o, none⟩)) (.ptr g o)
  | el (g n i o b p) : g < G.H.length → G.H[g]? ≠ some .res →
      (∀ e sz xs f, G.H[g]? = some (.row e sz xs f) → n ≤ xs.length ∧ (n = xs.length → (∃ c, G.γ g = some (b, c)) ∧ p = i * sz + o)) →
      Rl G (.pointer (some ⟨b, p, none⟩)) (.el g n i o)
  | fp (b q n sz xs k o) (us : Nat → Nat → Value) : xs.length = n → (∀ x ∈ xs, x.cells.length = sz) →
      (∀ i j, i < n → j < sz → G.K b (q + (i * sz + j)) = some (us i j)) →
      (∀ i j x y, xs[i]? = some x → x.cells[j]? = some y → Rl G (us i j) y) → Rl G (.pointer (some ⟨b, q + (k * sz + o), none⟩)) (.fp xs k o)
  | fn (f vs cs) : vs.size = cs.length → (∀ (j : Nat) (v : Value) (c : AV), vs[j]? = some v → cs[j]? = some c → Rl G v c) → Rl G (.func (.func f) #[] vs) (.fn f cs)
  | un (v) : Rl G v .un

/-- How an entry may turn into another one. -/
inductive Turns (γ γ' : Nat → Option (Nat × Nat)) (g : Nat) : Ent → Option Ent → Prop
  | box (t cs cs') : γ' g = γ g → Turns γ γ' g (.box t cs) (some (.box t cs'))
  | iter (s p s' p') : γ' g = γ g → Turns γ γ' g (.iter s p) (some (.iter s' p'))
  | row (e sz xs xs' f f') : xs.length ≤ xs'.length → f' ≤ max f xs'.length → (xs'.length = xs.length → γ' g = γ g) → Turns γ γ' g (.row e sz xs f) (some (.row e sz xs' f'))
  | dead (e) : e ≠ .res → Turns γ γ' g e (some .dead)
  | res (e) : Turns γ γ' g .res (some e)

structure Ext (G G' : Gho) : Prop where
  K : ∀ b o u, G.K b o = some u → G'.K b o = some u
  len : G.H.length ≤ G'.H.length
  turn : ∀ g e, G.H[g]? = some e → Turns G.γ G'.γ g e G'.H[g]?

theorem Turns.refl (γ) (g) (e) : Turns γ γ g e (some e) := by
  cases e with
  | box t cs => exact .box _ _ _ rfl
  | row e sz xs f => exact .row _ _ _ _ _ _ (Nat.le_refl _) (Nat.le_max_left _ _) fun _ => rfl
  | iter s p => exact .iter _ _ _ _ rfl
  | res => exact .res _
  | dead => exact .dead _ (by simp)

theorem Ext.refl (G : Gho) : Ext G G := ⟨fun _ _ _ h => h, Nat.le_refl _, fun g e h => h ▸ Turns.refl _ _ _⟩

theorem Ext.trans {A B C : Gho} (h : Ext A B) (k : Ext B C) : Ext A C := by
  refine ⟨fun b o u hu => k.K _ _ _ (h.K _ _ _ hu), Nat.le_trans h.len k.len, fun g e he => ?_⟩
  have t := h.turn g e he
  have lt : g < B.H.length := Nat.lt_of_lt_of_le (List.getElem?_eq_some_iff.1 he).1 h.len
  obtain ⟨e', he'⟩ : ∃ e', B.H[g]? = some e' := ⟨_, List.getElem?_eq_getElem lt⟩
  have t' := k.turn g e' he'
  have lt' : g < C.H.length := Nat.lt_of_lt_of_le lt k.len
  obtain ⟨e'', he''⟩ : ∃ e'', C.H[g]? = some e'' := ⟨_, List.getElem?_eq_getElem lt'⟩
  rw [he''] at t' ⊢
  rw [he'] at t
  cases t with
  | box _ cs cs' a => cases t' with
    | box _ _ c'' b => exact .box _ _ _ (b.trans a)
    | dead _ _ => exact .dead _ (by simp)
  | iter s p s' p' a => cases t' with
    | iter _ _ s'' p'' b => exact .iter _ _ _ _ (b.trans a)
    | dead _ _ => exact .dead _ (by simp)
  | row e sz xs xs' f f' a q b => cases t' with
    | row _ _ _ xs'' _ f'' a' q' b' => exact .row _ _ _ _ _ _ (Nat.le_trans a a') (by omega) fun hl => (b' (by omega)).trans (b (by omega))
    | dead _ _ => exact .dead _ (by simp)
  | dead _ hne => cases t' with
    | dead _ _ => exact .dead _ hne
  | res _ => exact .res _

theorem Ext.notRes {G G' : Gho} (h : Ext G G') {g : Nat} (lt : g < G.H.length) (hn : G.H[g]? ≠ some .res) : G'.H[g]? ≠ some .res := by
  have t := h.turn g _ (List.getElem?_eq_getElem lt)
  intro hr
  rw [hr] at t
  cases hc : G.H[g] with
  | res => exact hn (by rw [List.getElem?_eq_getElem lt, hc])
  | _ => rw [hc] at t; cases t

/-- What stands for an abstract value goes on doing so. -/
theorem Rl.mono {G G' : Gho} (h : Ext G G') {v : Value} {a : AV} (r : Rl G v a) : Rl G' v a := by
  induction r with
  | bo b => exact .bo b
  | it k n => exact .it k n
  | st s => exact .st s
  | sc v hv => exact .sc v hv
  | sl0 A c => exact .sl0 A c
  | sl b o n c sz xs us hnc hn hx hk _ ih => exact .sl b o n c sz xs us hnc hn hx (fun i j hi hj => h.K _ _ _ (hk i j hi hj)) ih
  | ag vs cs hs _ ih => exact .ag vs cs hs ih
  | tp vs cs hs _ ih => exact .tp vs cs hs ih
  | row g n A c lt hn hr =>
    refine .row g n A c (Nat.lt_of_lt_of_le lt h.len) (h.notRes lt hn) fun e sz xs f hh => ?_
    have t := h.turn g _ (List.getElem?_eq_getElem lt)
    rw [hh] at t
    cases hc : G.H[g] with
    | row e' sz' xs' f' =>
      rw [hc] at t
      have hg : G.H[g]? = some (.row e' sz' xs' f') := by rw [List.getElem?_eq_getElem lt, hc]
      obtain ⟨hle, hf, hb⟩ := hr _ _ _ _ hg
      cases t with
      | row _ _ _ _ _ _ ha hq hγ =>
        refine ⟨Nat.le_trans hle ha, by omega, fun e => ?_⟩
        have e1 : xs'.length = xs.length := by omega
        rcases hb (by omega) with ⟨b, h1, h2⟩ | ⟨h1, h2⟩
        · exact .inl ⟨b, (hγ e1.symm).trans h1, h2⟩
        · exact .inr ⟨(hγ e1.symm).trans h1, h2⟩
    | res => exact absurd (by rw [List.getElem?_eq_getElem lt, hc]) hn
    | _ => rw [hc] at t; cases t
  | nl => exact .nl
  | ptr g o b lt hn hb hi =>
    have t := h.turn g _ (List.getElem?_eq_getElem lt)
    refine .ptr g o b (Nat.lt_of_lt_of_le lt h.len) (h.notRes lt hn) (fun ty cs hh => ?_) (fun s p hh => ?_)
    · rw [hh] at t
      cases hc : G.H[g] with
      | box ty' cs' =>
        rw [hc] at t
        have hg : G.H[g]? = some (.box ty' cs') := by rw [List.getElem?_eq_getElem lt, hc]
        cases t with
        | box _ _ _ a => exact a.trans (hb _ _ hg)
      | res => exact absurd (by rw [List.getElem?_eq_getElem lt, hc]) hn
      | _ => rw [hc] at t; cases t
    · rw [hh] at t
      cases hc : G.H[g] with
      | iter s' p' =>
        rw [hc] at t
        have hg : G.H[g]? = some (.iter s' p') := by rw [List.getElem?_eq_getElem lt, hc]
        cases t with
        | iter _ _ _ _ a => exact a.trans (hi _ _ hg)
      | res => exact absurd (by rw [List.getElem?_eq_getElem lt, hc]) hn
      | _ => rw [hc] at t; cases t
  | el g n i o b p lt hn hr =>
    refine .el g n i o b p (Nat.lt_of_lt_of_le lt h.len) (h.notRes lt hn) fun e sz xs f hh => ?_
    have t := h.turn g _ (List.getElem?_eq_getElem lt)
    rw [hh] at t
    cases hc : G.H[g] with
    | row e' sz' xs' f' =>
      rw [hc] at t
      have hg : G.H[g]? = some (.row e' sz' xs' f') := by rw [List.getElem?_eq_getElem lt, hc]
      obtain ⟨hle, hb⟩ := hr _ _ _ _ hg
      cases t with
      | row _ _ _ _ _ _ ha hq hγ =>
        refine ⟨Nat.le_trans hle ha, fun e => ?_⟩
        have e1 : xs.length = xs'.length := by omega
        obtain ⟨⟨c, h1⟩, h2⟩ := hb (by omega)
        exact ⟨⟨c, (hγ e1).trans h1⟩, h2⟩
    | res => exact absurd (by rw [List.getElem?_eq_getElem lt, hc]) hn
    | _ => rw [hc] at t; cases t
  | fp b q n sz xs k o us hn hx hk _ ih => exact .fp b q n sz xs k o us hn hx (fun i j hi hj => h.K _ _ _ (hk i j hi hj)) ih
  | fn f vs cs hs _ ih => exact .fn f vs cs hs ih
  | un v => exact .un v

/-- How many of an entry's cells never turn again. -/
def Ent.fz : Ent → Nat
  | .row _ sz _ f => f * sz
  | _ => 0

/-- What the machine's memory holds where an entry lies. -/
inductive EntOk (G : Gho) (w : World) (b c : Nat) : Ent → Prop
  | box (t cs) (vs : Array Value) : w.heap[b]? = some (.cells vs t (0, 0)) → vs.size = cs.length → c = 0 →
      (∀ (j : Nat) (v : Value) (a : AV), vs[j]? = some v → cs[j]? = some a → Rl G v a) → EntOk G w b c (.box t cs)
  | row (e sz xs f) (vs : Array Value) : w.heap[b]? = some (.cells vs e (0, 0)) → vs.size = c * sz → xs.length ≤ c → c ≤ 9223372036854775807 → (∀ x ∈ xs, x.cells.length = sz) →
      f ≤ xs.length → (∀ o, o < f * sz → ∃ u, G.K b o = some u) →
      (∀ (i j : Nat) (v : Value) (x a : AV), xs[i]? = some x → x.cells[j]? = some a → vs[i * sz + j]? = some v → Rl G v a) → EntOk G w b c (.row e sz xs f)
  | iter (s : List UInt8) (p) : w.heap[b]? = some (.stringIter ⟨s.toArray⟩ p) → c = 0 → EntOk G w b c (.iter s p)
  | dead : EntOk G w b c .dead

/-- The machine's memory fits the abstract one. -/
structure St (G : Gho) (w : World) : Prop where
  cell : ∀ b o u, G.K b o = some u → w.cell? ⟨b, o, none⟩ = some u
  dom : ∀ g p, G.γ g = some p → ∃ e, G.H[g]? = some e ∧ e ≠ .res
  inj : ∀ g g' b c c', G.γ g = some (b, c) → G.γ g' = some (b, c') → g = g'
  ent : ∀ g b c e, G.γ g = some (b, c) → G.H[g]? = some e → EntOk G w b c e
  lt : ∀ g b c, G.γ g = some (b, c) → b < w.heap.size
  own : ∀ g b c o u e, G.γ g = some (b, c) → G.H[g]? = some e → e ≠ .dead → G.K b o = some u → o < e.fz

/-- How the world has gone on since a time. -/
structure Wf (G : Gho) (w : World) (G' : Gho) (w' : World) : Prop where
  ext : Ext G G'
  size : w.heap.size ≤ w'.heap.size
  os : w'.os = w.os
  tape : w'.tape = w.tape
  output : w'.output = w.output
  other : ∀ b, b < w.heap.size → (∀ g c, G.γ g ≠ some (b, c)) → w'.heap[b]? = w.heap[b]?
  fresh : ∀ g b c, G'.γ g = some (b, c) → b < w.heap.size → ∃ g' c', G.γ g' = some (b, c')
  old : ∀ b o u, b < w.heap.size → (∀ g c, G.γ g ≠ some (b, c)) → G'.K b o = some u → G.K b o = some u

theorem Wf.refl (G : Gho) (w : World) : Wf G w G w := ⟨Ext.refl _, Nat.le_refl _, rfl, rfl, rfl, fun _ _ _ => rfl, fun g b c h _ => ⟨g, c, h⟩, fun _ _ _ _ _ h => h⟩

theorem Wf.trans {A B C : Gho} {u v w : World} (h : Wf A u B v) (k : Wf B v C w) : Wf A u C w where
  ext := h.ext.trans k.ext
  size := Nat.le_trans h.size k.size
  os := k.os.trans h.os
  tape := k.tape.trans h.tape
  output := k.output.trans h.output
  other b hb hn := (k.other b (Nat.lt_of_lt_of_le hb h.size) fun g c hg => by
    obtain ⟨g', c', hc'⟩ := h.fresh g b c hg hb
    exact hn g' c' hc').trans (h.other b hb hn)
  fresh g b c hg hb := by
    obtain ⟨g', c', hc'⟩ := k.fresh g b c hg (Nat.lt_of_lt_of_le hb h.size)
    exact h.fresh g' b c' hc' hb
  old b o u hb hn hK := h.old b o u hb hn (k.old b o u (Nat.lt_of_lt_of_le hb h.size) (fun g c hg => by
    obtain ⟨g', c', hc'⟩ := h.fresh g b c hg hb
    exact hn g' c' hc') hK)

theorem EntOk.mono {G G' : Gho} {w w' : World} {b c : Nat} {e : Ent} (h : Ext G G') (hb : w'.heap[b]? = w.heap[b]?) (k : EntOk G w b c e) : EntOk G' w' b c e := by
  cases k with
  | box t cs vs h1 h2 h3 h4 => exact .box t cs vs (hb.trans h1) h2 h3 fun j v a hv ha => (h4 j v a hv ha).mono h
  | row e sz xs f vs h1 h2 h3 h4 h5 k1 k2 h6 => exact .row e sz xs f vs (hb.trans h1) h2 h3 h4 h5 k1 (fun o ho => by obtain ⟨u, hu⟩ := k2 o ho; exact ⟨u, h.K _ _ _ hu⟩) fun i j v x a hx ha hv => (h6 i j v x a hx ha hv).mono h
  | iter s p h1 h2 => exact .iter s p (hb.trans h1) h2
  | dead => exact .dead

/-- One entry turns; the others stay. -/
theorem St.upd {G G' : Gho} {w w' : World} (h : St G w) (x : Ext G G') (g0 : Nat)
    (hγ : ∀ g, g ≠ g0 → G'.γ g = G.γ g) (hH : ∀ g, g ≠ g0 → ∀ p, G.γ g = some p → G'.H[g]? = G.H[g]?)
    (hblk : ∀ g b c, g ≠ g0 → G.γ g = some (b, c) → w'.heap[b]? = w.heap[b]?)
    (hK : ∀ b o u, G'.K b o = some u → w'.cell? ⟨b, o, none⟩ = some u)
    (hKo : ∀ g b c o u, g ≠ g0 → G.γ g = some (b, c) → G'.K b o = some u → G.K b o = some u)
    (hsz : w.heap.size ≤ w'.heap.size)
    (h0 : ∀ b c, G'.γ g0 = some (b, c) → (∃ e, G'.H[g0]? = some e ∧ e ≠ .res ∧ EntOk G' w' b c e ∧ (∀ o u, G'.K b o = some u → o < e.fz)) ∧ b < w'.heap.size ∧ ∀ g c', g ≠ g0 → G.γ g ≠ some (b, c')) : St G' w' where
  cell := hK
  dom g p hp := by
    by_cases hg : g = g0
    · subst hg
      obtain ⟨⟨e, h1, h2, _⟩, _⟩ := h0 p.1 p.2 hp
      exact ⟨e, h1, h2⟩
    · rw [hγ g hg] at hp
      obtain ⟨e, he, hn⟩ := h.dom g p hp
      exact ⟨e, (hH g hg p hp).trans he, hn⟩
  inj g g' b c c' h1 h2 := by
    by_cases hg : g = g0
    · by_cases hg' : g' = g0
      · rw [hg, hg']
      · subst hg
        rw [hγ g' hg'] at h2
        exact absurd h2 ((h0 b c h1).2.2 g' c' hg')
    · by_cases hg' : g' = g0
      · subst hg'
        rw [hγ g hg] at h1
        exact absurd h1 ((h0 b c' h2).2.2 g c hg)
      · rw [hγ g hg] at h1
        rw [hγ g' hg'] at h2
        exact h.inj g g' b c c' h1 h2
  ent g b c e h1 h2 := by
    by_cases hg : g = g0
    · subst hg
      obtain ⟨⟨e', h3, _, h4, _⟩, _⟩ := h0 b c h1
      rw [h3] at h2
      injection h2 with h2
      exact h2 ▸ h4
    · rw [hγ g hg] at h1
      exact (h.ent g b c e h1 ((hH g hg _ h1).symm.trans h2)).mono x (hblk g b c hg h1)
  lt g b c h1 := by
    by_cases hg : g = g0
    · subst hg
      exact (h0 b c h1).2.1
    · rw [hγ g hg] at h1
      exact Nat.lt_of_lt_of_le (h.lt g b c h1) hsz
  own g b c o u e h1 h2 h3 h4 := by
    by_cases hg : g = g0
    · subst hg
      obtain ⟨⟨e', h5, _, _, h6⟩, _⟩ := h0 b c h1
      rw [h5] at h2
      injection h2 with h2
      exact h2 ▸ h6 o u h4
    · rw [hγ g hg] at h1
      exact h.own g b c o u e h1 ((hH g hg _ h1).symm.trans h2) h3 (hKo g b c o u hg h1 h4)

end Go.Am
