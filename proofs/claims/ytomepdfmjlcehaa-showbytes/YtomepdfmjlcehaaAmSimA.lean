/- Facts on what stands for what: values out of constants, cells behind addresses, new entries. -/
import Derived.Test.YtomepdfmjlcehaaAmStep
import Derived.Laws.Cells
import Derived.Below
set_option linter.unusedVariables false
set_option linter.unusedSimpArgs false
namespace Go.Am

theorem mapM'_some {α β : Type} {f : α → Option β} : ∀ {l : List α} {m : List β}, mapM' f l = some m → m.length = l.length ∧ ∀ (j : Nat) (a : α) (b : β), l[j]? = some a → m[j]? = some b → f a = some b
  | [], m, h => by
    simp [mapM'] at h
    subst h
    exact ⟨rfl, fun j a b ha => by simp at ha⟩
  | a :: l, m, h => by
    simp only [mapM'] at h
    split at h
    · cases h
    · rename_i b hb
      split at h
      · cases h
      · rename_i m' hm
        injection h with h
        subst h
        obtain ⟨h1, h2⟩ := mapM'_some hm
        refine ⟨by simp [h1], fun j x y hx hy => ?_⟩
        cases j with
        | zero => simp at hx hy; subst hx; subst hy; exact hb
        | succ j => exact h2 j x y (by simpa using hx) (by simpa using hy)

theorem rl_cAV1 (G : Gho) {v : Value} {a : AV} (h : cAV1 v = some a) : Rl G v a ∧ one v ∧ a.cells = [a] := by
  unfold cAV1 at h
  split at h <;> first | (injection h with h; subst h) | cases h
  · exact ⟨.bo _, trivial, rfl⟩
  · exact ⟨.it _ _, trivial, rfl⟩
  · rename_i s
    have : s = ⟨s.data.toList.toArray⟩ := by simp
    rw [this]
    exact ⟨by simpa using Rl.st (G := G) s.data.toList, trivial, rfl⟩
  · exact ⟨.nl, trivial, rfl⟩
  · exact ⟨.sc _ trivial, trivial, rfl⟩
  · exact ⟨.sc _ trivial, trivial, rfl⟩
  · exact ⟨.sc _ trivial, trivial, rfl⟩

theorem rl_cAV (G : Gho) {v : Value} {a : AV} (h : cAV v = some a) : Rl G v a := by
  unfold cAV at h
  split at h
  · rename_i cs
    cases hm : mapM' cAV1 cs.toList with
    | none => rw [hm] at h; cases h
    | some m =>
      rw [hm] at h
      injection h with h
      subst h
      obtain ⟨h1, h2⟩ := mapM'_some hm
      refine .ag _ _ (by simp [h1]) fun j v c hv hc => ?_
      exact (rl_cAV1 G (h2 j v c (by simpa using hv) hc)).1
  · exact (rl_cAV1 G h).1

/-- The registers stand for the machine's. -/
def RegsOk (G : Gho) (tmps : Array Value) (r : Regs) : Prop := ∀ t, Rl G (tmps.getD t undef) (look r t)

def GlOk (G : Gho) (Gl : Nat → AV) : Prop := ∀ n, Rl G (.pointer (some ⟨n, 0, none⟩)) (Gl n)

theorem RegsOk.mono {G G' : Gho} (h : Ext G G') {tmps : Array Value} {r : Regs} (k : RegsOk G tmps r) : RegsOk G' tmps r := fun t => (k t).mono h
theorem GlOk.mono {G G' : Gho} (h : Ext G G') {Gl : Nat → AV} (k : GlOk G Gl) : GlOk G' Gl := fun t => (k t).mono h

section
variable {P : Program} {G : Gho} {w : World} {act : Act} {r : Regs} {Gl : Nat → AV}

theorem rl_O (hr : RegsOk G act.tmps r) (hg : GlOk G Gl) {o : Operand} {x : O} (h : cO o = some x) : Rl G (act.eval o) (ov Gl r x) := by
  cases o with
  | tmp t => simp [cO] at h; subst h; exact hr t
  | const v =>
    simp only [cO] at h
    cases hv : cAV v with
    | none => rw [hv] at h; cases h
    | some a => rw [hv] at h; injection h with h; subst h; exact rl_cAV G hv
  | global g => simp [cO] at h; subst h; exact hg g
  | func f => simp [cO] at h; subst h; exact .fn f _ _ rfl fun j v c hv => by simp at hv

theorem rl_Os (hr : RegsOk G act.tmps r) (hg : GlOk G Gl) {l : List Operand} {m : List O} (h : mapM' cO l = some m) :
    (l.map act.eval).length = (m.map (ov Gl r)).length ∧ ∀ (j : Nat) (v : Value) (c : AV), (l.map act.eval)[j]? = some v → (m.map (ov Gl r))[j]? = some c → Rl G v c := by
  obtain ⟨h1, h2⟩ := mapM'_some h
  refine ⟨by simp [h1], fun j v c hv hc => ?_⟩
  simp only [List.getElem?_map, Option.map_eq_some_iff] at hv hc
  obtain ⟨a, ha, rfl⟩ := hv
  obtain ⟨b, hb, rfl⟩ := hc
  exact rl_O hr hg (h2 j a b ha hb)
end

theorem rl_one {G : Gho} {v : Value} {a : AV} (h : Rl G v a) (ha : a.isOne = true) : one v := by
  cases h <;> first | trivial | assumption | (simp [AV.isOne] at ha)

theorem cells_one {v : Value} (h : one v) : v.cells = #[v] := by
  cases v <;> first | rfl | exact h.elim

/-- The cells of a value that may be stored. -/
theorem rl_cells {G : Gho} {v : Value} {a : AV} (h : Rl G v a) (ha : a.cells.all AV.isOne = true) :
    v.cells.size = a.cells.length ∧ ∀ (j : Nat) (u : Value) (c : AV), v.cells[j]? = some u → a.cells[j]? = some c → Rl G u c ∧ one u := by
  by_cases hag : ∃ cs, a = .ag cs
  · obtain ⟨cs, rfl⟩ := hag
    cases h with
    | ag vs _ hs hj =>
      refine ⟨hs, fun j u c hu hc => ?_⟩
      have h1 := hj j u c hu hc
      exact ⟨h1, rl_one h1 (List.all_eq_true.1 ha c (List.mem_of_getElem? hc))⟩
  · have hc : a.cells = [a] := by cases a <;> first | rfl | exact absurd ⟨_, rfl⟩ hag
    rw [hc] at ha ⊢
    have ho := rl_one h (by simpa using ha)
    rw [cells_one ho]
    refine ⟨rfl, fun j u c hu hc => ?_⟩
    cases j with
    | zero => simp at hu hc; subst hu; subst hc; exact ⟨h, ho⟩
    | succ j => simp at hu

theorem add_cell (b o j : Nat) : (⟨b, o, none⟩ : Addr).add j = ⟨b, o + j, none⟩ := by
  unfold Addr.add
  split
  · rename_i h; subst h; rfl
  · rfl

/-- Cells behind an address. -/
theorem rl_addr {G : Gho} {w : World} (st : St G w) {v : Value} {a : AV} (h : Rl G v a) {cs : List AV} {o : Nat} (hc : cellsAt G.H a = some (cs, o)) :
    ∃ b p, v = .pointer (some ⟨b, p, none⟩) ∧ ∀ (j : Nat) (c : AV), cs[o + j]? = some c → ∃ u, w.cell? ⟨b, p + j, none⟩ = some u ∧ Rl G u c := by
  cases h with
  | ptr g o' b lt hn hb hi =>
    simp only [cellsAt] at hc
    split at hc
    · rename_i cs' hg
      injection hc with hc
      injection hc with h1 h2
      subst h1; subst h2
      refine ⟨b, _, rfl, fun j c hj => ?_⟩
      have hγ := hb _ _ hg
      cases st.ent g b 0 _ hγ hg with
      | box _ _ vs h1 h2 h3 h4 =>
        have hl : o' + j < vs.size := by rw [h2]; exact (List.getElem?_eq_some_iff.1 hj).1
        refine ⟨vs[o' + j], ?_, h4 _ _ _ (Array.getElem?_eq_getElem hl) hj⟩
        simp [World.cell?, h1, hl]
    · cases hc
  | el g n i o' b p lt hn hr =>
    simp only [cellsAt] at hc
    split at hc
    · rename_i e sz xs f hg
      split at hc
      · rename_i hl
        split at hc
        · rename_i x hx
          injection hc with hc
          injection hc with h1 h2
          subst h1; subst h2
          obtain ⟨⟨c, hγ⟩, hp⟩ := (hr _ _ _ _ hg).2 hl.symm
          refine ⟨b, _, rfl, fun j c' hj => ?_⟩
          cases st.ent g b c _ hγ hg with
          | row _ _ _ _ vs h1 h2 h3 h4 h5 _ _ h6 =>
            have hi := (List.getElem?_eq_some_iff.1 hx).1
            have hj' : o' + j < sz := by rw [← h5 x (List.mem_of_getElem? hx)]; exact (List.getElem?_eq_some_iff.1 hj).1
            have hlt : i * sz + (o' + j) < vs.size := by
              rw [h2]
              have : (i + 1) * sz ≤ c * sz := Nat.mul_le_mul_right _ (by omega)
              rw [Nat.add_mul] at this
              omega
            have hv : vs[i * sz + (o' + j)]? = some vs[i * sz + (o' + j)] := Array.getElem?_eq_getElem hlt
            refine ⟨_, ?_, h6 i (o' + j) _ x c' hx hj hv⟩
            subst hp
            rw [Nat.add_assoc]
            simp [World.cell?, h1, hv]
        · cases hc
      · cases hc
    · cases hc
  | fp b q n sz xs i o' us hn hx hk hy =>
    simp only [cellsAt] at hc
    split at hc
    · rename_i x hxi
      injection hc with hc
      injection hc with h1 h2
      subst h1; subst h2
      refine ⟨b, _, rfl, fun j c hj => ?_⟩
      have hi : i < n := hn ▸ (List.getElem?_eq_some_iff.1 hxi).1
      have hj' : o' + j < sz := by rw [← hx x (List.mem_of_getElem? hxi)]; exact (List.getElem?_eq_some_iff.1 hj).1
      refine ⟨us i (o' + j), ?_, hy i (o' + j) x c hxi hj⟩
      have := st.cell _ _ _ (hk i (o' + j) hi hj')
      rw [← this]
      congr 2
      omega
    · cases hc
  | _ => simp [cellsAt] at hc

end Go.Am
