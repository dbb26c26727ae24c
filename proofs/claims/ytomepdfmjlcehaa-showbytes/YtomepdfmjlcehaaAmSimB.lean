/- How the abstract heap and the machine's memory turn together: a new entry, an entry that is written, one that moves, one that dies, cells that never turn again. -/
import Derived.Test.YtomepdfmjlcehaaAmSimA
set_option linter.unusedVariables false
set_option linter.unusedSimpArgs false
namespace Go.Am

def updG (γ : Nat → Option (Nat × Nat)) (g0 : Nat) (p : Option (Nat × Nat)) : Nat → Option (Nat × Nat) := fun g => if g = g0 then p else γ g

@[simp] theorem updG_same (γ g0 p) : updG γ g0 p g0 = p := by simp [updG]
theorem updG_ne (γ g0 p) {g} (h : g ≠ g0) : updG γ g0 p g = γ g := by simp [updG, h]

theorem Ext.set {K K' : Nat → Nat → Option Value} {γ γ' : Nat → Option (Nat × Nat)} {H : List Ent} {g0 : Nat} {e0 e' : Ent}
    (hK : ∀ b o u, K b o = some u → K' b o = some u) (h0 : H[g0]? = some e0) (ht : Turns γ γ' g0 e0 (some e')) (hγ : ∀ g, g ≠ g0 → γ' g = γ g) :
    Ext ⟨K, γ, H⟩ ⟨K', γ', H.set g0 e'⟩ := by
  refine ⟨hK, by simp, fun g e he => ?_⟩
  have hlt : g0 < H.length := (List.getElem?_eq_some_iff.1 h0).1
  by_cases hg : g = g0
  · subst hg
    simp only at he
    rw [h0] at he
    injection he with he
    subst he
    simpa [List.getElem?_set, hlt] using ht
  · simp only at he ⊢
    rw [List.getElem?_set, if_neg (fun e => hg e.symm), he]
    cases e with
    | box t cs => exact .box _ _ _ (hγ g hg)
    | row e sz xs f => exact .row _ _ _ _ _ _ (Nat.le_refl _) (by omega) fun _ => hγ g hg
    | iter s p => exact .iter _ _ _ _ (hγ g hg)
    | res => exact .res _
    | dead => exact .dead _ (by simp)

theorem res_none {G : Gho} {w : World} (st : St G w) {id : Nat} (hid : G.H[id]? = some .res) : G.γ id = none := by
  cases h : G.γ id with
  | none => rfl
  | some p =>
    obtain ⟨e, he, hn⟩ := st.dom id p h
    rw [hid] at he
    injection he with he
    exact absurd he.symm hn

theorem K_lt {G : Gho} {w : World} (st : St G w) {b o : Nat} {u : Value} (h : G.K b o = some u) : b < w.heap.size :=
  World.block_lt_of_cell? w ⟨b, o, none⟩ (st.cell b o u h)

/-- A block that nobody owns gets an entry. -/
theorem adopt {G : Gho} {w : World} (st : St G w) {id b c : Nat} {e : Ent} (hid : G.H[id]? = some .res) (hb : b < w.heap.size)
    (hun : ∀ g c', G.γ g ≠ some (b, c')) (hK : ∀ o, G.K b o = none) (hne : e ≠ .res)
    (hE : Ext G ⟨G.K, updG G.γ id (some (b, c)), G.H.set id e⟩ → EntOk ⟨G.K, updG G.γ id (some (b, c)), G.H.set id e⟩ w b c e) :
    Ext G ⟨G.K, updG G.γ id (some (b, c)), G.H.set id e⟩ ∧ St ⟨G.K, updG G.γ id (some (b, c)), G.H.set id e⟩ w := by
  have hlt : id < G.H.length := (List.getElem?_eq_some_iff.1 hid).1
  have x : Ext G ⟨G.K, updG G.γ id (some (b, c)), G.H.set id e⟩ :=
    Ext.set (fun _ _ _ h => h) hid (.res _) fun g hg => updG_ne _ _ _ hg
  refine ⟨x, st.upd x id (fun g hg => updG_ne _ _ _ hg) (fun g hg p hp => by simp only; rw [List.getElem?_set, if_neg (fun e => hg e.symm)])
    (fun _ _ _ _ _ => rfl) (fun b o u h => st.cell b o u h) (fun _ _ _ _ _ _ _ h => h) (Nat.le_refl _) fun b' c' h => ?_⟩
  simp only [updG_same, Option.some.injEq, Prod.mk.injEq] at h
  obtain ⟨rfl, rfl⟩ := h
  exact ⟨⟨e, by simp [List.getElem?_set, hlt], hne, hE x, fun o u h => by simp only at h; rw [hK o] at h; cases h⟩, hb, fun g c' _ => hun g c'⟩

/-- The world turns where no entry lies. -/
theorem St.world {G : Gho} {w w' : World} (st : St G w) (hK : ∀ b o u, G.K b o = some u → w'.cell? ⟨b, o, none⟩ = some u)
    (hb : ∀ g b c, G.γ g = some (b, c) → w'.heap[b]? = w.heap[b]?) (hs : w.heap.size ≤ w'.heap.size) : St G w' where
  cell := hK
  dom := st.dom
  inj := st.inj
  ent g b c e h1 h2 := (st.ent g b c e h1 h2).mono (Ext.refl _) (hb g b c h1)
  lt g b c h := Nat.lt_of_lt_of_le (st.lt g b c h) hs
  own := st.own

theorem St.alloc {G : Gho} {w : World} (st : St G w) (o : Obj) : St G (w.alloc o) :=
  st.world (fun b o' u h => by
    rw [World.cell?_alloc_lt w o _ (K_lt st h)]; exact st.cell b o' u h) (fun g b c h => Go.RowKit.Below.heap_alloc w o b (st.lt g b c h)) (by simp)

theorem St.drew {G : Gho} {w : World} (st : St G w) : St G w.drew := st.world (fun b o u h => st.cell b o u h) (fun _ _ _ _ => rfl) (Nat.le_refl _)

theorem Wf.alloc (G : Gho) (w : World) (st : St G w) (o : Obj) : Wf G w G (w.alloc o) where
  ext := Ext.refl _
  size := by simp
  os := rfl
  tape := rfl
  output := rfl
  other b hb _ := Go.RowKit.Below.heap_alloc w o b hb
  fresh g b c h _ := ⟨g, c, h⟩
  old _ _ _ _ _ h := h

theorem Wf.drew (G : Gho) (w : World) : Wf G w G w.drew where
  ext := Ext.refl _
  size := Nat.le_refl _
  os := rfl
  tape := rfl
  output := rfl
  other b hb _ := rfl
  fresh g b c h _ := ⟨g, c, h⟩
  old _ _ _ _ _ h := h

/-- A new block, with its entry. -/
theorem new_entry {G : Gho} {w : World} (st : St G w) {id c : Nat} {e : Ent} {o : Obj} (hid : G.H[id]? = some .res) (hne : e ≠ .res)
    (hE : ∀ G', Ext G G' → EntOk G' (w.alloc o) w.heap.size c e) :
    Ext G ⟨G.K, updG G.γ id (some (w.heap.size, c)), G.H.set id e⟩ ∧ St ⟨G.K, updG G.γ id (some (w.heap.size, c)), G.H.set id e⟩ (w.alloc o) ∧
      Wf G w ⟨G.K, updG G.γ id (some (w.heap.size, c)), G.H.set id e⟩ (w.alloc o) := by
  have st1 := st.alloc o
  obtain ⟨x, s⟩ := adopt (b := w.heap.size) (c := c) (e := e) st1 hid (by simp) (fun g c' h => by have := st.lt g _ _ h; omega)
    (fun o' => by
      cases h : G.K w.heap.size o' with
      | none => rfl
      | some u => have := K_lt st h; omega) hne (fun x => hE _ x)
  refine ⟨x, s, ⟨x, by simp, rfl, rfl, rfl, fun b hb _ => Go.RowKit.Below.heap_alloc w o b hb, fun g b c' h hb => ?_, fun _ _ _ _ _ h => h⟩⟩
  simp only [updG] at h
  split at h
  · injection h with h
    injection h with h1 h2
    omega
  · exact ⟨g, c', h⟩

/-- An empty row that has no block as yet. -/
theorem new_none {G : Gho} {w : World} (st : St G w) {id : Nat} {e : Ent} (hid : G.H[id]? = some .res) (hne : e ≠ .res) :
    Ext G ⟨G.K, updG G.γ id none, G.H.set id e⟩ ∧ St ⟨G.K, updG G.γ id none, G.H.set id e⟩ w ∧ Wf G w ⟨G.K, updG G.γ id none, G.H.set id e⟩ w := by
  have x : Ext G ⟨G.K, updG G.γ id none, G.H.set id e⟩ := Ext.set (fun _ _ _ h => h) hid (.res _) fun g hg => updG_ne _ _ _ hg
  refine ⟨x, st.upd x id (fun g hg => updG_ne _ _ _ hg) (fun g hg p hp => by simp only; rw [List.getElem?_set, if_neg (fun e => hg e.symm)])
    (fun _ _ _ _ _ => rfl) (fun b o u h => st.cell b o u h) (fun _ _ _ _ _ _ _ h => h) (Nat.le_refl _) (fun b' c' h => by simp at h), ?_⟩
  refine ⟨x, Nat.le_refl _, rfl, rfl, rfl, fun _ _ _ => rfl, fun g b c h _ => ?_, fun _ _ _ _ _ h => h⟩
  simp only [updG] at h
  split at h
  · cases h
  · exact ⟨g, c, h⟩

/-- An entry dies. -/
theorem kill {G : Gho} {w : World} (st : St G w) {g0 : Nat} {e0 : Ent} (h0 : G.H[g0]? = some e0) (hn : e0 ≠ .res) :
    Ext G ⟨G.K, updG G.γ g0 none, G.H.set g0 .dead⟩ ∧ St ⟨G.K, updG G.γ g0 none, G.H.set g0 .dead⟩ w ∧ Wf G w ⟨G.K, updG G.γ g0 none, G.H.set g0 .dead⟩ w := by
  have x : Ext G ⟨G.K, updG G.γ g0 none, G.H.set g0 .dead⟩ := Ext.set (fun _ _ _ h => h) h0 (.dead _ hn) fun g hg => updG_ne _ _ _ hg
  refine ⟨x, st.upd x g0 (fun g hg => updG_ne _ _ _ hg) (fun g hg p hp => by simp only; rw [List.getElem?_set, if_neg (fun e => hg e.symm)])
    (fun _ _ _ _ _ => rfl) (fun b o u h => st.cell b o u h) (fun _ _ _ _ _ _ _ h => h) (Nat.le_refl _) (fun b' c' h => by simp at h), ?_⟩
  refine ⟨x, Nat.le_refl _, rfl, rfl, rfl, fun _ _ _ => rfl, fun g b c h _ => ?_, fun _ _ _ _ _ h => h⟩
  simp only [updG] at h
  split at h
  · cases h
  · exact ⟨g, c, h⟩

/-- An entry is written where it lies. -/
theorem set_entry {G : Gho} {w w' : World} (st : St G w) {g0 b c : Nat} {e0 e' : Ent} (h0 : G.H[g0]? = some e0) (hγ : G.γ g0 = some (b, c)) (hne : e' ≠ .res) (hd : e0 ≠ .dead)
    (ht : Turns G.γ G.γ g0 e0 (some e')) (hoth : ∀ k, k ≠ b → w'.heap[k]? = w.heap[k]?) (hs : w'.heap.size = w.heap.size)
    (hos : w'.os = w.os) (htp : w'.tape = w.tape) (hout : w'.output = w.output)
    (hK : ∀ o u, G.K b o = some u → w'.cell? ⟨b, o, none⟩ = some u) (hfz : e0.fz ≤ e'.fz)
    (hE : ∀ G', Ext G G' → EntOk G' w' b c e') :
    Ext G ⟨G.K, G.γ, G.H.set g0 e'⟩ ∧ St ⟨G.K, G.γ, G.H.set g0 e'⟩ w' ∧ Wf G w ⟨G.K, G.γ, G.H.set g0 e'⟩ w' := by
  have hlt : g0 < G.H.length := (List.getElem?_eq_some_iff.1 h0).1
  have x : Ext G ⟨G.K, G.γ, G.H.set g0 e'⟩ := Ext.set (fun _ _ _ h => h) h0 ht fun g hg => rfl
  refine ⟨x, st.upd x g0 (fun g hg => rfl) (fun g hg p hp => by simp only; rw [List.getElem?_set, if_neg (fun e => hg e.symm)])
    (fun g b' c' hg h => hoth b' fun e => ?_) (fun b' o u h => ?_) (fun _ _ _ _ _ _ _ h => h) (by omega) (fun b' c' h => ?_), ?_⟩
  · subst e; exact hg (st.inj _ _ _ _ _ h hγ)
  · by_cases hb : b' = b
    · subst hb; exact hK o u h
    · have := st.cell b' o u h
      simp only [World.cell?, hoth b' hb] at this ⊢
      exact this
  · simp only at h
    rw [hγ] at h
    injection h with h
    injection h with h1 h2
    subst h1; subst h2
    refine ⟨⟨e', by simp [List.getElem?_set, hlt], hne, hE _ x, fun o u h => Nat.lt_of_lt_of_le (st.own g0 b c o u e0 hγ h0 hd h) hfz⟩,
      by have := st.lt g0 b c hγ; omega, fun g c' hg h => hg (st.inj _ _ _ _ _ h hγ)⟩
  · exact ⟨x, by omega, hos, htp, hout, fun k hk hn => hoth k fun e => hn g0 c (e ▸ hγ), fun g b c h _ => ⟨g, c, h⟩, fun _ _ _ _ _ h => h⟩

/-- A row is frozen. -/
def pinN (K : Nat → Nat → Option Value) (b n : Nat) (vs : Array Value) : Nat → Nat → Option Value := fun b' o => if b' = b ∧ o < n then vs[o]? else K b' o

/-- A row grows into a new block. -/
theorem move_entry {G : Gho} {w : World} (st : St G w) {g0 c n : Nat} {e0 e' : Ent} {vs : Array Value} {ty : TypeId} (h0 : G.H[g0]? = some e0) (hne : e' ≠ .res) (hn : n = e'.fz) (hnv : n ≤ vs.size)
    (ht : Turns G.γ (updG G.γ g0 (some (w.heap.size, c))) g0 e0 (some e'))
    (hE : ∀ G', Ext G G' → (∀ o, o < n → ∃ u, G'.K w.heap.size o = some u) → EntOk G' (w.alloc (.cells vs ty)) w.heap.size c e') :
    Ext G ⟨pinN G.K w.heap.size n vs, updG G.γ g0 (some (w.heap.size, c)), G.H.set g0 e'⟩ ∧ St ⟨pinN G.K w.heap.size n vs, updG G.γ g0 (some (w.heap.size, c)), G.H.set g0 e'⟩ (w.alloc (.cells vs ty)) ∧
      Wf G w ⟨pinN G.K w.heap.size n vs, updG G.γ g0 (some (w.heap.size, c)), G.H.set g0 e'⟩ (w.alloc (.cells vs ty)) := by
  have hlt : g0 < G.H.length := (List.getElem?_eq_some_iff.1 h0).1
  have hKn : ∀ o, G.K w.heap.size o = none := fun o => by
    cases h : G.K w.heap.size o with
    | none => rfl
    | some u => have := K_lt st h; omega
  have x : Ext G ⟨pinN G.K w.heap.size n vs, updG G.γ g0 (some (w.heap.size, c)), G.H.set g0 e'⟩ := Ext.set (fun b o u h => by
    simp only [pinN]
    split
    · rename_i e; rw [e.1, hKn o] at h; cases h
    · exact h) h0 ht fun g hg => updG_ne _ _ _ hg
  refine ⟨x, st.upd x g0 (fun g hg => updG_ne _ _ _ hg) (fun g hg p hp => by simp only; rw [List.getElem?_set, if_neg (fun e => hg e.symm)])
    (fun g b' c' hg h => Go.RowKit.Below.heap_alloc w _ b' (st.lt _ _ _ h)) (fun b' o' u h => ?_) (fun g b c o u hg h1 h2 => ?_) (by simp) (fun b' c' h => ?_), ?_⟩
  · simp only [pinN] at h
    split at h
    · rename_i e
      obtain ⟨rfl, _⟩ := e
      simpa using h
    · exact (St.alloc st _).cell b' o' u h
  · simp only [pinN] at h2
    split at h2
    · rename_i e
      have := st.lt _ _ _ h1
      omega
    · exact h2
  · simp only [updG_same, Option.some.injEq, Prod.mk.injEq] at h
    obtain ⟨rfl, rfl⟩ := h
    refine ⟨⟨e', by simp [List.getElem?_set, hlt], hne, hE _ x fun o ho => ⟨vs[o]'(by omega), ?_⟩, fun o u h => ?_⟩, by simp, fun g c' _ h => by have := st.lt g _ _ h; omega⟩
    · simp only [pinN]
      rw [if_pos ⟨trivial, ho⟩, Array.getElem?_eq_getElem]
    · simp only [pinN] at h
      split at h
      · rename_i e; rw [← hn]; exact e.2
      · rw [hKn o] at h; cases h
  · refine ⟨x, by simp, rfl, rfl, rfl, fun b hb _ => Go.RowKit.Below.heap_alloc w _ b hb, fun g b c' h hb => ?_, fun b o u hb _ h => by
      simp only [pinN] at h
      rwa [if_neg (fun e => by omega)] at h⟩
    simp only [updG] at h
    split at h
    · injection h with h
      injection h with h1 h2
      omega
    · exact ⟨g, c', h⟩

/-- Cells of a block that nobody owns never turn again. -/
def pinK (K : Nat → Nat → Option Value) (b : Nat) (vs : Array Value) : Nat → Nat → Option Value := fun b' o => if b' = b then (match vs[o]? with
  | some v => some v
  | none => K b' o) else K b' o

theorem pin {G0 : Gho} {w0 : World} {G : Gho} {w : World} (st : St G w) (wf : Wf G0 w0 G w) {b : Nat} {vs : Array Value} {t fr} (hb : w.heap[b]? = some (.cells vs t fr)) (hun : ∀ g c', G.γ g ≠ some (b, c')) (hold : w0.heap.size ≤ b ∨ ∃ g c, G0.γ g = some (b, c)) :
    Ext G ⟨pinK G.K b vs, G.γ, G.H⟩ ∧ St ⟨pinK G.K b vs, G.γ, G.H⟩ w ∧ Wf G0 w0 ⟨pinK G.K b vs, G.γ, G.H⟩ w := by
  have hc : ∀ o u, G.K b o = some u → vs[o]? = some u := fun o u h => by
    have := st.cell b o u h
    simpa [World.cell?, hb] using this
  have x : Ext G ⟨pinK G.K b vs, G.γ, G.H⟩ := by
    refine ⟨fun b' o u h => ?_, Nat.le_refl _, fun g e he => he ▸ Turns.refl _ _ _⟩
    simp only [pinK]
    split
    · rename_i e
      subst e
      rw [hc o u h]
    · exact h
  refine ⟨x, ⟨fun b' o u h => ?_, st.dom, st.inj, fun g b' c e h1 h2 => (st.ent g b' c e h1 h2).mono x rfl, st.lt, fun g b' c o u e h1 h2 h3 h4 => ?_⟩, ⟨wf.ext.trans x, wf.size, wf.os, wf.tape, wf.output, wf.other, wf.fresh, fun b' o u hb' hn h => wf.old b' o u hb' hn (by
    simp only [pinK] at h
    split at h
    · rename_i e
      subst e
      rcases hold with h1 | ⟨g, c, h1⟩
      · omega
      · exact absurd h1 (hn g c)
    · exact h)⟩⟩
  · simp only [pinK] at h
    split at h
    · rename_i e
      subst e
      split at h
      · rename_i v hv
        injection h with h
        subst h
        simp [World.cell?, hb, hv]
      · exact st.cell _ _ _ h
    · exact st.cell _ _ _ h
  · simp only [pinK] at h4
    split at h4
    · rename_i e
      subst e
      exact absurd h1 (hun _ _)
    · exact st.own g b' c o u e h1 h2 h3 h4

theorem freeze_row {G : Gho} {w : World} (st : St G w) {g0 b c e sz : Nat} {xs : List AV} {f : Nat} {vs : Array Value} (h0 : G.H[g0]? = some (.row e sz xs f)) (hγ : G.γ g0 = some (b, c))
    (hb : w.heap[b]? = some (.cells vs e (0, 0))) (hs : vs.size = c * sz) (hc : xs.length ≤ c) :
    Ext G ⟨pinN G.K b (xs.length * sz) vs, G.γ, G.H.set g0 (.row e sz xs xs.length)⟩ ∧ St ⟨pinN G.K b (xs.length * sz) vs, G.γ, G.H.set g0 (.row e sz xs xs.length)⟩ w ∧
      Wf G w ⟨pinN G.K b (xs.length * sz) vs, G.γ, G.H.set g0 (.row e sz xs xs.length)⟩ w := by
  have hlt : g0 < G.H.length := (List.getElem?_eq_some_iff.1 h0).1
  have hle : xs.length * sz ≤ vs.size := hs ▸ Nat.mul_le_mul_right _ hc
  have hcell : ∀ o u, G.K b o = some u → vs[o]? = some u := fun o u h => by
    have := st.cell b o u h
    simpa [World.cell?, hb] using this
  have x : Ext G ⟨pinN G.K b (xs.length * sz) vs, G.γ, G.H.set g0 (.row e sz xs xs.length)⟩ := by
    refine Ext.set (fun b' o u h => ?_) h0 (.row _ _ _ _ _ _ (Nat.le_refl _) (by omega) fun _ => rfl) fun g hg => rfl
    simp only [pinN]
    split
    · rename_i e
      obtain ⟨rfl, _⟩ := e
      exact hcell o u h
    · exact h
  refine ⟨x, st.upd x g0 (fun g hg => rfl) (fun g hg p hp => by simp only; rw [List.getElem?_set, if_neg (fun e => hg e.symm)]) (fun _ _ _ _ _ => rfl) (fun b' o u h => ?_) (fun g b' c' o u hg h1 h2 => ?_)
    (Nat.le_refl _) (fun b' c' h => ?_), ⟨x, Nat.le_refl _, rfl, rfl, rfl, fun _ _ _ => rfl, fun g b' c h _ => ⟨g, c, h⟩, fun b' o u _ hn h => by
      simp only [pinN] at h
      split at h
      · rename_i e
        obtain ⟨rfl, _⟩ := e
        exact absurd hγ (hn g0 c)
      · exact h⟩⟩
  · simp only [pinN] at h
    split at h
    · rename_i e
      obtain ⟨rfl, _⟩ := e
      simp [World.cell?, hb, h]
    · exact st.cell _ _ _ h
  · simp only [pinN] at h2
    split at h2
    · rename_i e
      obtain ⟨rfl, _⟩ := e
      exact absurd (st.inj _ _ _ _ _ h1 hγ) hg
    · exact h2
  · simp only at h
    rw [hγ] at h
    injection h with h
    injection h with h1 h2
    subst h1; subst h2
    have k := (st.ent g0 b c _ hγ h0).mono x rfl
    refine ⟨⟨(.row e sz xs xs.length), by simp [List.getElem?_set, hlt], by simp, ?_, fun o u h => ?_⟩, st.lt g0 b c hγ, fun g c' hg h => hg (st.inj _ _ _ _ _ h hγ)⟩
    · cases k with
      | row _ _ _ _ vs' a1 a2 a3 a4 a5 a6 a7 a8 =>
        refine .row _ _ _ _ vs' a1 a2 a3 a4 a5 (Nat.le_refl _) (fun o ho => ⟨vs[o]'(by omega), ?_⟩) a8
        simp only [pinN]
        rw [if_pos ⟨trivial, ho⟩, Array.getElem?_eq_getElem]
    · simp only [pinN] at h
      simp only [Ent.fz]
      split at h
      · rename_i e
        exact e.2
      · have hown := st.own g0 b c o u _ hγ h0 (by simp) h
        have k' := st.ent g0 b c _ hγ h0
        cases k' with
        | row _ _ _ _ vs' a1 a2 a3 a4 a5 a6 a7 a8 =>
          simp only [Ent.fz] at hown
          exact Nat.lt_of_lt_of_le hown (Nat.mul_le_mul_right _ a6)

end Go.Am
