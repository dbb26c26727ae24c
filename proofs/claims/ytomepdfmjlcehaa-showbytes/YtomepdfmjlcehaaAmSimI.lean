/- Addresses, fields, bounds, strings and their bytes: the machine does what the steps say. -/
import Derived.Test.YtomepdfmjlcehaaAmSimH
set_option linter.unusedVariables false
set_option linter.unusedSimpArgs false
namespace Go.Am

def hp (H : List Ent) (id : Nat) : Option Ent → List Ent
  | some e => H.set id e
  | none => H

/-- What a step says has come true. -/
def Out (P : Program) (G : Gho) (w : World) (id : Nat) (x : Sem Value) (a : AV) (H' : List Ent) (new : Option Ent) : Prop :=
  ∃ v w' G', x.run P w = .ok v w' ∧ St G' w' ∧ Wf G w G' w' ∧ G'.H = hp H' id new ∧ Rl G' v a

section
variable {P : Program} {G : Gho} {w : World} {id : Nat}

theorem Out.quiet (st : St G w) {x : Sem Value} {v : Value} {a : AV} (h : x.run P w = .ok v w) (hr : Rl G v a) : Out P G w id x a G.H none :=
  ⟨v, w, G, h, st, Wf.refl _ _, rfl, hr⟩

theorem Out.of {x : Sem Value} {v : Value} {w' : World} {G' : Gho} {a : AV} {H' : List Ent} {new : Option Ent} (h : x.run P w = .ok v w') (k : Ext G G' ∧ St G' w' ∧ Wf G w G' w') (hH : G'.H = hp H' id new) (hr : Rl G' v a) : Out P G w id x a H' new :=
  ⟨v, w', G', h, k.2.1, k.2.2, hH, hr⟩

theorem zeroOf_inv {t : TypeId} {z : List AV} (h : zeroOf P t = some z) : ∃ i v, P.info? t = some i ∧ i.zero = some v ∧ v.cells.size = i.size ∧ z.length = i.size ∧
    ∀ (G : Gho) (j : Nat) (u : Value) (c : AV), v.cells[j]? = some u → z[j]? = some c → Rl G u c ∧ one u ∧ c.cells = [c] := by
  unfold zeroOf at h
  split at h
  · rename_i i hi
    split at h
    · rename_i v hv
      split at h
      · rename_i hs
        obtain ⟨h1, h2⟩ := mapM'_some h
        refine ⟨i, v, hi, hv, hs, by rw [h1]; simpa using hs, fun G j u c hu hc => rl_cAV1 G (h2 j u c (by simpa using hu) hc)⟩
      · cases h
    · cases h
  · cases h

theorem rl_ptr_new {G' : Gho} {g b : Nat} {e : Ent} (hg : G'.H[g]? = some e) (hne : e ≠ .res) (hγ : G'.γ g = some (b, 0)) (o : Nat) : Rl G' (.pointer (some ⟨b, o, none⟩)) (.ptr g o) :=
  .ptr g o b (List.getElem?_eq_some_iff.1 hg).1 (by rw [hg]; simpa using hne) (fun _ _ _ => hγ) fun _ _ _ => hγ

theorem out_alloc (st : St G w) (hid : G.H[id]? = some .res) {e : TypeId} {z : List AV} (hz : zeroOf P e = some z) : Out P G w id (Instr.alloc e true (.tuple #[])) (.ptr id 0) G.H (some (.box e z)) := by
  obtain ⟨i, v, hi, hv, hs, hl, hr⟩ := zeroOf_inv hz
  have hlt : id < G.H.length := (List.getElem?_eq_some_iff.1 hid).1
  refine Out.of (v := .pointer (some ⟨w.heap.size, 0, none⟩)) (w' := w.alloc (.cells v.cells e)) ?_ (new_entry (c := 0) (e := .box e z) st hid (by simp) fun G' x' => ?_) rfl ?_
  · simp [Instr.alloc, zeroValue, typeInfo, hi, hv, newVar, newRow]
  · exact .box _ _ _ (heap_alloc_new w _) (by omega) rfl fun j u c hu hc => (hr G' j u c hu hc).1
  · exact rl_ptr_new (e := .box e z) (by simp [List.getElem?_set, hlt]) (by simp) (by simp) 0

theorem out_box (st : St G w) (hid : G.H[id]? = some .res) {e : TypeId} {v : Value} {a : AV} (hr : Rl G v a) (ha : a.cells.all AV.isOne = true) : Out P G w id (Instr.box e v) (.ptr id 0) G.H (some (.box e a.cells)) := by
  obtain ⟨hs, hc⟩ := rl_cells hr ha
  have hlt : id < G.H.length := (List.getElem?_eq_some_iff.1 hid).1
  refine Out.of (v := .pointer (some ⟨w.heap.size, 0, none⟩)) (w' := w.alloc (.cells v.cells e)) ?_ (new_entry (c := 0) (e := .box e a.cells) st hid (by simp) fun G' x' => ?_) rfl ?_
  · simp [Instr.box, newVar, newRow]
  · exact .box _ _ _ (heap_alloc_new w _) (by omega) rfl fun j u c hu hc' => ((hc j u c hu hc').1).mono x'
  · exact rl_ptr_new (e := .box e a.cells) (by simp [List.getElem?_set, hlt]) (by simp) (by simp) 0

/-- Whole numbers behind bounds. -/
theorem run_bound {v : Option Value} {a : Option AV} {n : Option Int} (hv : ∀ u, v = some u → ∃ c, a = some c ∧ Rl G u c) (hn : v = none → a = none) (h : bnd a = some n) :
    (v = none ∧ n = none) ∨ ∃ k m, v = some (.int k m) ∧ n = some m := by
  cases v with
  | none =>
    have := hn rfl
    subst this
    simp [bnd] at h
    exact .inl ⟨rfl, h.symm⟩
  | some u =>
    obtain ⟨c, rfl, r⟩ := hv u rfl
    unfold bnd at h
    split at h
    · cases ‹some c = none›
    · rename_i k m e
      injection e with e
      subst e
      injection h with h
      cases rl_it r
      exact .inr ⟨k, m, rfl, h.symm⟩
    · cases h

theorem run_sliceBound {k : IntKind} {m : Int} {y : Nat} {code : BoundsCode} (h0 : 0 ≤ m) (h1 : m ≤ y) : (Instr.sliceBound (.int k m) y code).run P w = .ok m.toNat w := by
  simp [Instr.sliceBound, asIntOf, h0, h1]

theorem run_sliceBounds {s : Bool} {len cap : Nat} {lo hi : Option Value} {a b : Option AV} {l h : Nat} (hlo : ∀ u, lo = some u → ∃ c, a = some c ∧ Rl G u c) (hlo' : lo = none → a = none)
    (hhi : ∀ u, hi = some u → ∃ c, b = some c ∧ Rl G u c) (hhi' : hi = none → b = none) (hc : cutB len a b = some (l, h)) (hcap : len ≤ cap) :
    (Instr.sliceBounds s len cap lo hi none).run P w = .ok (l, h, cap) w ∧ l ≤ h ∧ h ≤ len := by
  unfold cutB at hc
  split at hc
  · rename_i n m hn hm
    dsimp only at hc
    split at hc
    · rename_i hb
      injection hc with hc
      injection hc with h1 h2
      subst h1; subst h2
      rcases run_bound hlo hlo' hn with ⟨rfl, rfl⟩ | ⟨k, x, rfl, rfl⟩ <;> rcases run_bound hhi hhi' hm with ⟨rfl, rfl⟩ | ⟨k', y, rfl, rfl⟩ <;> simp only [Option.getD_none, Option.getD_some] at hb ⊢
      · exact ⟨by simp [Instr.sliceBounds], by omega, by omega⟩
      · refine ⟨?_, by omega, by omega⟩
        have := run_sliceBound (P := P) (w := w) (k := k') (y := cap) (code := if s then .sliceAcap else .sliceAlen) hb.2.1 (by omega)
        simp [Instr.sliceBounds, this]
      · refine ⟨?_, by omega, by omega⟩
        have := run_sliceBound (P := P) (w := w) (k := k) (y := len) (code := .sliceB) hb.1 hb.2.1
        simp [Instr.sliceBounds, this]
      · refine ⟨?_, by omega, by omega⟩
        have h1 := run_sliceBound (P := P) (w := w) (k := k') (m := y) (y := cap) (code := if s then .sliceAcap else .sliceAlen) (by omega) (by omega)
        have h2 := run_sliceBound (P := P) (w := w) (k := k) (m := x) (y := y.toNat) (code := .sliceB) hb.1 (by omega)
        simp [Instr.sliceBounds, h1, h2]
    · cases hc
  · cases hc

theorem extract_mk (s : List UInt8) (l h : Nat) : (⟨s.toArray⟩ : ByteArray).extract l h = ⟨((s.take h).drop l).toArray⟩ := by
  apply ByteArray.ext
  simp [ByteArray.data_extract, List.drop_take]

theorem sliceAt_eq {t : TypeId} {d : TypeDesc} (h : P.underlying t = some d) (hn : ∀ n e, d ≠ .array n e) (x : Value) (lo hi : Option Value) : (Instr.sliceAt t x lo hi none).run P w = (Instr.slice t x lo hi none).run P w := by
  simp only [Instr.sliceAt, Sem.run_bind, run_underlying h, Result.andThen_ok]

theorem out_slS (st : St G w) {t : TypeId} (ht : P.underlying t = some .string) {v : Value} {s : List UInt8} {lo hi : Option Value} {a b : Option AV} {l h : Nat} (hv : Rl G v (.st s)) (hlo : ∀ u, lo = some u → ∃ c, a = some c ∧ Rl G u c) (hlo' : lo = none → a = none)
    (hhi : ∀ u, hi = some u → ∃ c, b = some c ∧ Rl G u c) (hhi' : hi = none → b = none) (hc : cutB s.length a b = some (l, h)) : Out P G w id (Instr.sliceAt t v lo hi none) (.st ((s.take h).drop l)) G.H none := by
  cases rl_st hv
  obtain ⟨hb, _, _⟩ := run_sliceBounds (P := P) (w := w) (s := false) (cap := s.length) hlo hlo' hhi hhi' hc (Nat.le_refl _)
  refine Out.quiet st (v := .string ⟨((s.take h).drop l).toArray⟩) ?_ (.st _)
  rw [sliceAt_eq ht (by simp)]
  simp [Instr.slice, run_underlying ht, size_mk, hb, extract_mk]


theorem run_slice_sl {t e : TypeId} {i : TypeInfo} (ht : P.underlying t = some (.slice e)) (hi : P.info? e = some i) {A : Option Addr} {n cap : Nat} {lo hi' : Option Value} {l h m : Nat}
    (hb : (Instr.sliceBounds true n cap lo hi' none).run P w = .ok (l, h, m) w) :
    (Instr.sliceAt t (.slice A n cap) lo hi' none).run P w = .ok (.slice (if m = l then A else A.map (·.add (l * i.size))) (h - l) (m - l)) w := by
  rw [sliceAt_eq ht (by simp)]
  simp [Instr.slice, run_underlying ht, hb, sizeOf, typeInfo, hi]

/-- A piece of a slice that is read. -/
theorem rl_piece {b o n sz : Nat} {xs : List AV} {us : Nat → Nat → Value} (hn : xs.length = n) (hx : ∀ x ∈ xs, x.cells.length = sz) (hk : ∀ i j, i < n → j < sz → G.K b (o + (i * sz + j)) = some (us i j))
    (hr : ∀ i j x y, xs[i]? = some x → x.cells[j]? = some y → Rl G (us i j) y) {l h m : Nat} (hlh : l ≤ h) (hhn : h ≤ n) (hm : n ≤ m) :
    Rl G (.slice (if m = l then some ⟨b, o, none⟩ else some ⟨b, o + l * sz, none⟩) (h - l) (m - l)) (.sl ((xs.take h).drop l)) := by
  by_cases hml : m = l
  · have e1 : h - l = 0 := by omega
    have e2 : (xs.take h).drop l = [] := List.drop_eq_nil_of_le (by simp; omega)
    rw [e1, e2]
    exact .sl0 _ _
  · rw [if_neg hml]
    refine .sl b (o + l * sz) (h - l) (m - l) sz _ (fun i j => us (l + i) j) (by omega) (by simp; omega) (fun x hx' => hx x (List.mem_of_mem_take (List.mem_of_mem_drop hx'))) (fun i j hi hj => ?_) fun i j x y hxi hy => ?_
    · rw [← hk (l + i) j (by omega) hj]
      congr 1
      rw [Nat.add_mul]
      omega
    · rw [List.getElem?_drop, List.getElem?_take] at hxi
      split at hxi
      · exact hr (l + i) j x y hxi hy
      · cases hxi

theorem slice_addr {m l b o sz : Nat} : (if m = l then some (⟨b, o, none⟩ : Addr) else (some (⟨b, o, none⟩ : Addr)).map (·.add (l * sz))) = if m = l then some ⟨b, o, none⟩ else some ⟨b, o + l * sz, none⟩ := by
  simp [add_cell]

theorem out_slA_sl (st : St G w) {t e : TypeId} {i : TypeInfo} (ht : P.underlying t = some (.slice e)) (hi : P.info? e = some i) {v : Value} {xs : List AV} {lo hi' : Option Value} {a b : Option AV} {l h : Nat} (hv : Rl G v (.sl xs))
    (hlo : ∀ u, lo = some u → ∃ c, a = some c ∧ Rl G u c) (hlo' : lo = none → a = none) (hhi : ∀ u, hi' = some u → ∃ c, b = some c ∧ Rl G u c) (hhi' : hi' = none → b = none)
    (hc : cutB xs.length a b = some (l, h)) (hsz : ∀ x ∈ xs, x.cells.length = i.size) : Out P G w id (Instr.sliceAt t v lo hi' none) (.sl ((xs.take h).drop l)) G.H none := by
  cases hv with
  | sl0 A c =>
    obtain ⟨hb, h1, h2⟩ := run_sliceBounds (P := P) (w := w) (s := true) (cap := c) hlo hlo' hhi hhi' hc (by simp)
    have h3 : h = 0 := by simpa using h2
    subst h3
    have h4 : l = 0 := by omega
    subst h4
    refine Out.quiet st (run_slice_sl ht hi hb) ?_
    simpa using Rl.sl0 _ _
  | sl bb o n c sz _ us hnc hn hx hk hr =>
    subst hn
    obtain ⟨hb, h1, h2⟩ := run_sliceBounds (P := P) (w := w) (s := true) (cap := c) hlo hlo' hhi hhi' hc hnc
    refine Out.quiet st (run_slice_sl ht hi hb) ?_
    rw [slice_addr]
    have := rl_piece (o := o) rfl hx hk hr h1 h2 hnc
    by_cases h0 : xs = []
    · subst h0
      simp only [List.length_nil, Nat.le_zero_eq] at h2
      subst h2
      have : l = 0 := by omega
      subst this
      simpa using Rl.sl0 _ _
    · obtain ⟨x0, hx0⟩ := List.exists_mem_of_ne_nil _ h0
      have : sz = i.size := (hx x0 hx0).symm.trans (hsz x0 hx0)
      subst this
      exact rl_piece (o := o) rfl hx hk hr h1 h2 hnc

/-- A piece of a row that is frozen as far as that. -/
theorem out_slA_fz (st : St G w) {t e : TypeId} {i : TypeInfo} (ht : P.underlying t = some (.slice e)) (hi : P.info? e = some i) {v : Value} {g n e' : Nat} {xs : List AV} {f : Nat} {lo hi' : Option Value} {a b : Option AV} {l h : Nat} (hv : Rl G v (.row g n))
    (hg : G.H[g]? = some (.row e' i.size xs f)) (hl : xs.length = n)
    (hlo : ∀ u, lo = some u → ∃ c, a = some c ∧ Rl G u c) (hlo' : lo = none → a = none) (hhi : ∀ u, hi' = some u → ∃ c, b = some c ∧ Rl G u c) (hhi' : hi' = none → b = none)
    (hc : cutB n a b = some (l, h)) (hf : h ≤ f) : Out P G w id (Instr.sliceAt t v lo hi' none) (.sl ((xs.take h).drop l)) G.H none := by
  cases hv with
  | row _ _ A c lt hn hr =>
    rcases (hr _ _ _ _ hg).2.2 hl.symm with ⟨b', hγ, rfl⟩ | ⟨hγ, h00, rfl, rfl⟩
    · cases st.ent g b' c _ hγ hg with
      | row _ _ _ _ vs h2 h3 h4 h5 h6 q1 q2 h7 =>
        obtain ⟨hb, h1, h1'⟩ := run_sliceBounds (P := P) (w := w) (s := true) (cap := c) hlo hlo' hhi hhi' hc (by omega)
        refine Out.quiet st (run_slice_sl ht hi hb) ?_
        rw [slice_addr]
        have key := rl_piece (G := G) (b := b') (o := 0) (n := f) (sz := i.size) (xs := xs.take f) (us := fun i' j => (G.K b' (i' * i.size + j)).getD undef) (by simp; omega) (fun x hx => h6 x (List.mem_of_mem_take hx)) (fun i' j hi hj => by
            obtain ⟨u, hu⟩ := q2 (i' * i.size + j) (idx_lt hi hj)
            rw [Nat.zero_add, hu]; rfl) (fun i' j x y hx hy => by
            rw [List.getElem?_take] at hx
            split at hx
            · rename_i hif
              have hj : j < i.size := by rw [← h6 x (List.mem_of_getElem? hx)]; exact (List.getElem?_eq_some_iff.1 hy).1
              obtain ⟨u, hu⟩ := q2 (i' * i.size + j) (idx_lt hif hj)
              have hcell := st.cell _ _ _ hu
              simp only [World.cell?, h2] at hcell
              simp only [hu, Option.getD_some]
              exact h7 i' j u x y hx hy (by simpa using hcell)
            · cases hx) (l := l) (h := h) (m := c) h1 hf (by omega)
        rw [List.take_take, Nat.min_eq_left hf] at key
        exact key
    · obtain ⟨hb, h1, h1'⟩ := run_sliceBounds (P := P) (w := w) (s := true) (cap := 0) hlo hlo' hhi hhi' hc (by omega)
      refine Out.quiet st (run_slice_sl ht hi hb) ?_
      have h3 : h = 0 := by omega
      subst h3
      have h4 : l = 0 := by omega
      subst h4
      simpa using Rl.sl0 _ _

/-- A row is cut: the one that was is gone. -/
theorem out_slA_cut (st : St G w) (hid : G.H[id]? = some .res) {t e : TypeId} {i : TypeInfo} (ht : P.underlying t = some (.slice e)) (hi : P.info? e = some i) {v : Value} {g n e' : Nat} {xs : List AV} {lo hi' : Option Value} {a b : Option AV} {h : Nat} (hv : Rl G v (.row g n))
    (hg : G.H[g]? = some (.row e' i.size xs 0)) (hl : xs.length = n)
    (hlo : ∀ u, lo = some u → ∃ c, a = some c ∧ Rl G u c) (hlo' : lo = none → a = none) (hhi : ∀ u, hi' = some u → ∃ c, b = some c ∧ Rl G u c) (hhi' : hi' = none → b = none)
    (hc : cutB n a b = some (0, h)) : Out P G w id (Instr.sliceAt t v lo hi' none) (.row id h) (G.H.set g .dead) (some (.row e' i.size (xs.take h) 0)) := by
  have hne : g ≠ id := by intro e; subst e; rw [hid] at hg; cases hg
  have hltid : id < G.H.length := (List.getElem?_eq_some_iff.1 hid).1
  obtain ⟨x1, st1, wf1⟩ := kill st hg (by simp)
  have hid1 : (G.H.set g .dead)[id]? = some .res := by rw [List.getElem?_set_ne hne]; exact hid
  cases hv with
  | row _ _ A c lt hn hr =>
    rcases (hr _ _ _ _ hg).2.2 hl.symm with ⟨b', hγ, rfl⟩ | ⟨hγ, h00, rfl, rfl⟩
    · cases st.ent g b' c _ hγ hg with
      | row _ _ _ _ vs h2 h3 h4 h5 h6 q1 q2 h7 =>
        obtain ⟨hb, h1, h1'⟩ := run_sliceBounds (P := P) (w := w) (s := true) (cap := c) hlo hlo' hhi hhi' hc (by omega)
        have hrun := run_slice_sl (A := some ⟨b', 0, none⟩) ht hi hb
        obtain ⟨x2, st2⟩ := adopt (G := ⟨G.K, updG G.γ g none, G.H.set g .dead⟩) (b := b') (c := c) (e := .row e' i.size (xs.take h) 0) st1 hid1 (st.lt _ _ _ hγ) (fun g' c' h' => by
            simp only [updG] at h'
            split at h'
            · cases h'
            · rename_i hgg; exact hgg (st.inj _ _ _ _ _ h' hγ)) (fun o => by
            cases hk : G.K b' o with
            | none => rfl
            | some u => have := st.own g b' c o u _ hγ hg (by simp) hk; simp [Ent.fz] at this) (by simp)
          (fun xx => .row _ _ _ _ vs h2 h3 (by simp; omega) h5 (fun x hx => h6 x (List.mem_of_mem_take hx)) (Nat.zero_le _) (fun o ho => by simp at ho) fun i' j v x a hx ha hv => by
            rw [List.getElem?_take] at hx
            split at hx
            · exact ((h7 i' j v x a hx ha hv).mono x1).mono xx
            · cases hx)
        refine ⟨_, w, _, hrun, st2, ?_, rfl, ?_⟩
        · refine ⟨x1.trans x2, Nat.le_refl _, rfl, rfl, rfl, fun _ _ _ => rfl, fun g' b'' c'' h' _ => ?_, fun _ _ _ _ _ h => h⟩
          simp only [updG] at h'
          split at h'
          · injection h' with h'
            injection h' with e1 e2
            subst e1
            exact ⟨g, c, hγ⟩
          · split at h'
            · cases h'
            · exact ⟨_, _, h'⟩
        · have hcap : (if c = 0 then some (⟨b', 0, none⟩ : Addr) else (some (⟨b', 0, none⟩ : Addr)).map (·.add (0 * i.size))) = some ⟨b', 0, none⟩ := by simp [add_cell]
          rw [hcap]
          simp only [Nat.sub_zero]
          exact rl_new_row (e := e') (sz := i.size) (xs := xs.take h) (f := 0) (by simp [List.getElem?_set, hltid]) (by simp; omega) (Nat.zero_le _) (by simp)
    · obtain ⟨hb, h1, h1'⟩ := run_sliceBounds (P := P) (w := w) (s := true) (cap := 0) hlo hlo' hhi hhi' hc (by omega)
      have hrun := run_slice_sl (A := none) ht hi hb
      have h3 : h = 0 := by omega
      subst h3
      obtain ⟨x2, st2, wf2⟩ := new_none (G := ⟨G.K, updG G.γ g none, G.H.set g .dead⟩) (e := .row e' i.size (xs.take 0) 0) st1 hid1 (by simp)
      refine ⟨_, w, _, hrun, st2, wf1.trans wf2, rfl, ?_⟩
      simpa using rl_nil_row (G' := ⟨G.K, updG (updG G.γ g none) id none, (G.H.set g .dead).set id (.row e' i.size [] 0)⟩) (g := id) (e := e') (sz := i.size) (by simp [List.getElem?_set, hltid]) (by simp)

/-! ### Addresses -/
theorem out_fa (st : St G w) {s : TypeId} {fs : Array Field} {k : Nat} {fd : Field} {i : TypeInfo} (hs : P.underlying s = some (.struct fs)) (hk : fs[k]? = some fd) (hi : P.info? fd.type = some i) (h0 : i.size ≠ 0)
    {v : Value} {x y : AV} (hv : Rl G v x) (hy : (match x with
      | .ptr g o => some (AV.ptr g (o + fd.offset))
      | .el g n i o => some (.el g n i (o + fd.offset))
      | .fp xs i o => some (.fp xs i (o + fd.offset))
      | _ => none) = some y) : Out P G w id (Instr.fieldAt s v k) y G.H none := by
  have run : ∀ b o, (Instr.fieldAt s (.pointer (some ⟨b, o, none⟩)) k).run P w = .ok (.pointer (some ⟨b, o + fd.offset, none⟩)) w := fun b o => by
    simp [Instr.fieldAt, run_underlying hs, hk, Instr.sureAddr, fieldPlace, sizeOf, typeInfo, hi, h0, add_cell]
  cases hv <;> simp only [reduceCtorEq, Option.some.injEq] at hy
  · subst hy
    rename_i g o b lt hn hb hi'
    exact Out.quiet st (run b o) (.ptr g _ b lt hn hb hi')
  · subst hy
    rename_i g n i' o b p lt hn hr
    refine Out.quiet st (run b p) (.el g n i' _ b _ lt hn fun e sz xs f hh => ?_)
    obtain ⟨h1, h2⟩ := hr e sz xs f hh
    refine ⟨h1, fun h => ?_⟩
    obtain ⟨h3, h4⟩ := h2 h
    exact ⟨h3, by omega⟩
  · subst hy
    rename_i b q n sz xs k' o us hn hx hk' hr
    have := Rl.fp (G := G) b q n sz xs k' (o + fd.offset) us hn hx hk' hr
    exact Out.quiet st (run b _) (by rw [Nat.add_assoc, Nat.add_assoc]; exact this)

theorem out_ia_sl (st : St G w) {t e : TypeId} {i : TypeInfo} (ht : P.underlying t = some (.slice e)) (hi : P.info? e = some i) {v u : Value} {xs : List AV} {k : IntKind} {m : Int} {y : AV} (hv : Rl G v (.sl xs)) (hu : Rl G u (.it k m))
    (h0 : 0 ≤ m) (hy : xs[m.toNat]? = some y) (hsz : y.cells.length = i.size) : Out P G w id (Instr.indexAt t v u) (.fp xs m.toNat 0) G.H none := by
  cases rl_it hu
  have hlt := (List.getElem?_eq_some_iff.1 hy).1
  cases hv with
  | sl0 A c => simp at hlt
  | sl b o n c sz _ us hnc hn hx hk hr =>
    have : sz = i.size := (hx y (List.mem_of_getElem? hy)).symm.trans hsz
    subst this
    refine Out.quiet st (v := .pointer (some ⟨b, o + m.toNat * i.size, none⟩)) ?_ (by
      have := Rl.fp (G := G) b o n i.size xs m.toNat 0 us hn hx hk hr
      simpa using this)
    have h1 : m < (n : Int) := by omega
    simp [Instr.indexAt, asIntOf, run_underlying ht, h0, h1, sizeOf, typeInfo, hi, add_cell]

theorem out_ia_row (st : St G w) {t e : TypeId} {i : TypeInfo} (ht : P.underlying t = some (.slice e)) (hi : P.info? e = some i) {v u : Value} {g n e' f : Nat} {xs : List AV} {k : IntKind} {m : Int} (hv : Rl G v (.row g n)) (hu : Rl G u (.it k m))
    (hg : G.H[g]? = some (.row e' i.size xs f)) (hl : xs.length = n) (h0 : 0 ≤ m) (h1 : m < n) : Out P G w id (Instr.indexAt t v u) (.el g n m.toNat 0) G.H none := by
  cases rl_it hu
  cases hv with
  | row _ _ A c lt hn hr =>
    rcases (hr _ _ _ _ hg).2.2 hl.symm with ⟨b', hγ, rfl⟩ | ⟨hγ, h00, rfl, rfl⟩
    · refine Out.quiet st (v := .pointer (some ⟨b', m.toNat * i.size, none⟩)) ?_ (.el g n m.toNat 0 b' _ lt hn fun e2 sz xs' f' hh => ?_)
      · simp [Instr.indexAt, asIntOf, run_underlying ht, h0, h1, sizeOf, typeInfo, hi, add_cell]
      · rw [hg] at hh
        injection hh with hh
        injection hh with q1 q2 q3 q4
        subst q2; subst q3
        exact ⟨by omega, fun _ => ⟨⟨c, hγ⟩, by omega⟩⟩
    · omega

theorem out_iaa (st : St G w) {t e : TypeId} {i : TypeInfo} {N : Nat} (ht : P.underlying t = some (.array N e)) (hi : P.info? e = some i) {v u : Value} {xs : List AV} {k : IntKind} {m : Int} (hv : Rl G v (.fp xs 0 0)) (hu : Rl G u (.it k m))
    (h0 : 0 ≤ m) (h1 : m < N) (hl : xs.length = N) (hsz : ∀ x ∈ xs, x.cells.length = i.size) : Out P G w id (Instr.indexAt t v u) (.fp xs m.toNat 0) G.H none := by
  cases rl_it hu
  cases hv with
  | fp b q n sz _ k' o us hn hx hk hr =>
    have hpos : 0 < xs.length := by omega
    have : sz = i.size := (hx xs[0] (List.getElem_mem _)).symm.trans (hsz xs[0] (List.getElem_mem _))
    subst this
    refine Out.quiet st (v := .pointer (some ⟨b, q + m.toNat * i.size, none⟩)) ?_ (by
      have := Rl.fp (G := G) b q n i.size xs m.toNat 0 us hn hx hk hr
      simpa using this)
    simp [Instr.indexAt, asIntOf, run_underlying ht, h0, h1, sizeOf, typeInfo, hi, add_cell, Instr.sureAddr]
end
end Go.Am
