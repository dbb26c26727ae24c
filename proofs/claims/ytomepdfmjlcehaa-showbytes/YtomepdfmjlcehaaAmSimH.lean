/- Appends to rows of one's own: the machine does what the step says. -/
import Derived.Test.YtomepdfmjlcehaaAmSimG
set_option linter.unusedVariables false
set_option linter.unusedSimpArgs false
namespace Go.Am
section
variable {P : Program} {G : Gho} {w : World}

theorem elemOk_len {sz : Nat} {ys : List AV} (h : ys.all (elemOk sz) = true) : ∀ y ∈ ys, y.cells.length = sz := fun y hy => by
  have := List.all_eq_true.1 h y hy
  simp only [elemOk, Bool.and_eq_true, decide_eq_true_eq] at this
  exact this.1

/-- The cells behind an append, one by one. -/
theorem app_cells {G' : Gho} (x' : Ext G G') {sz n : Nat} {xs ys : List AV} {olds news rest : List Value} (hl : xs.length = n) (ho : olds.length = n * sz)
    (hold : ∀ (i j : Nat) (v : Value) (x c : AV), xs[i]? = some x → x.cells[j]? = some c → olds[i * sz + j]? = some v → Rl G v c) (hsz : ∀ x ∈ xs, x.cells.length = sz) (hsy : ∀ x ∈ ys, x.cells.length = sz)
    (hm : news.length = ys.length * sz) (hnew : ∀ (i j : Nat) (v : Value) (x c : AV), ys[i]? = some x → x.cells[j]? = some c → news[i * sz + j]? = some v → Rl G v c) :
    ∀ (i j : Nat) (v : Value) (x c : AV), (xs ++ ys)[i]? = some x → x.cells[j]? = some c → (olds ++ news ++ rest)[i * sz + j]? = some v → Rl G' v c := by
  intro i j v x c hx hc hv
  by_cases hi : i < n
  · rw [List.getElem?_append_left (by omega)] at hx
    have hj : j < sz := by rw [← hsz x (List.mem_of_getElem? hx)]; exact (List.getElem?_eq_some_iff.1 hc).1
    have := idx_lt hi hj
    rw [List.append_assoc, List.getElem?_append_left (by omega)] at hv
    exact (hold i j v x c hx hc hv).mono x'
  · rw [List.getElem?_append_right (by omega)] at hx
    have hj : j < sz := by rw [← hsy x (List.mem_of_getElem? hx)]; exact (List.getElem?_eq_some_iff.1 hc).1
    have hi' : i - n < ys.length := by have := (List.getElem?_eq_some_iff.1 hx).1; omega
    have h1 := idx_lt hi' hj
    have h2 : i * sz = n * sz + (i - n) * sz := by rw [← Nat.add_mul]; congr 1; omega
    rw [List.getElem?_append_left (by simp only [List.length_append]; omega), List.getElem?_append_right (by omega)] at hv
    rw [hl] at hx
    exact (hnew (i - n) j v x c hx hc (by rw [← hv]; congr 1; omega)).mono x'

theorem rl_new_row {G' : Gho} {g n b c : Nat} {e sz : Nat} {xs : List AV} {f : Nat} (hg : G'.H[g]? = some (.row e sz xs f)) (hl : xs.length = n) (hf : f ≤ n) (hγ : G'.γ g = some (b, c)) :
    Rl G' (.slice (some ⟨b, 0, none⟩) n c) (.row g n) := by
  refine .row g n _ c (List.getElem?_eq_some_iff.1 hg).1 (by rw [hg]; simp) fun e' sz' xs' f' h => ?_
  rw [hg] at h
  injection h with h
  injection h with _ _ h h'
  subst h
  subst h'
  exact ⟨by omega, by omega, fun _ => .inl ⟨b, hγ, rfl⟩⟩

theorem rl_nil_row {G' : Gho} {g : Nat} {e sz : Nat} (hg : G'.H[g]? = some (.row e sz [] 0)) (hγ : G'.γ g = none) : Rl G' (.slice none 0 0) (.row g 0) := by
  refine .row g 0 _ 0 (List.getElem?_eq_some_iff.1 hg).1 (by rw [hg]; simp) fun e' sz' xs' f' h => ?_
  rw [hg] at h
  injection h with h
  injection h with _ _ h h'
  subst h
  subst h'
  exact ⟨by simp, by simp, fun _ => .inr ⟨hγ, rfl, rfl, rfl⟩⟩

/-- Growing into a new block. -/
theorem grow_cells {G' : Gho} {n m c' e sz : Nat} {xs ys : List AV} {f : Nat} {olds news : List Value} {z : Value} (x' : Ext G G') (hl : xs.length = n) (hm : ys.length = m) (ho : olds.length = n * sz) (hz : z.cells.size = sz)
    (hold : ∀ (i j : Nat) (v : Value) (x c : AV), xs[i]? = some x → x.cells[j]? = some c → olds[i * sz + j]? = some v → Rl G v c) (hsz : ∀ x ∈ xs, x.cells.length = sz) (hsy : ∀ x ∈ ys, x.cells.length = sz)
    (hnl : news.length = ys.length * sz) (hnew : ∀ (i j : Nat) (v : Value) (x c : AV), ys[i]? = some x → x.cells[j]? = some c → news[i * sz + j]? = some v → Rl G v c)
    (hc : n + m ≤ c') (hmax : c' ≤ 9223372036854775807) (hf : f ≤ n) (hfk : ∀ o, o < f * sz → ∃ u, G'.K w.heap.size o = some u) :
    EntOk G' (w.drew.alloc (.cells (olds.toArray ++ news.toArray ++ Builtin.zeroCells z.cells (c' - (n + m))) e)) w.heap.size c' (.row e sz (xs ++ ys) f) := by
  refine .row _ _ _ _ _ (heap_alloc_new w.drew _) ?_ (by simp; omega) hmax (fun x hx => ?_) (by simp; omega) hfk fun i j v x a hx ha hv => ?_
  · simp only [Array.size_append, List.size_toArray, size_zeroCells, hz, ho, hnl, hm, ← Nat.add_mul]
    congr 1
    omega
  · rcases List.mem_append.1 hx with h | h
    · exact hsz x h
    · exact hsy x h
  · refine app_cells (rest := (Builtin.zeroCells z.cells (c' - (n + m))).toList) x' hl ho hold hsz hsy hnl hnew i j v x a hx ha ?_
    rw [← hv, ← Array.getElem?_toList]
    simp

theorem run_appS (st : St G w) {t u ty e : TypeId} {du : TypeDesc} {i : TypeInfo} {z : Value} {ats : Array TypeId} (h0 : ats[0]? = some t) (h1 : ats[1]? = some u) (ht : P.underlying t = some (.slice e)) (hu : P.underlying u = some du) (hdu : ∀ k, du ≠ .int k)
    (hi : P.info? e = some i) (hz : i.zero = some z) (hzs : z.cells.size = i.size) {v x : Value} {g n : Nat} {xs ys : List AV} {f : Nat} {news : List Value}
    (hv : Rl G v (.row g n)) (hg : G.H[g]? = some (.row e i.size xs f)) (hl : xs.length = n) (hok : ys.all (elemOk i.size) = true) (src : Src P G w i.size x ys news)
    (h63 : n + ys.length ≤ 9223372036854775807) (hby : (n + ys.length) * i.bytes ≤ 140737488355328) :
    ∃ v' w' G', (Builtin.append_ ats ty #[v, x]).run P w = .ok v' w' ∧ St G' w' ∧ Wf G w G' w' ∧ G'.H = G.H.set g (.row e i.size (xs ++ ys) f) ∧ Rl G' v' (.row g (n + ys.length)) := by
  have hsy := elemOk_len hok
  have hlt : g < G.H.length := (List.getElem?_eq_some_iff.1 hg).1
  have hc0 : (Builtin.firstCells i.size ys.length x).run P w = .ok news.toArray w := src.cells 0
  have hc1 : (Builtin.firstCells i.size ys.length x).run P w.drew = .ok news.toArray w.drew := src.cells 1
  cases hv with
  | row _ _ A c lt hn hr =>
    rcases (hr _ _ _ _ hg).2.2 hl.symm with ⟨b, hγ, rfl⟩ | ⟨hγ, h00, rfl, rfl⟩
    · cases st.ent g b c _ hγ hg with
      | row _ _ _ _ vs h2 h3 h4 h5 h6 q1 q2 h7 =>
        have holen : (vs.toList.take (n * i.size)).length = n * i.size := by
          rw [List.length_take]
          have : n * i.size ≤ c * i.size := Nat.mul_le_mul_right _ (by omega)
          simp only [Array.length_toList]
          omega
        have hold : ∀ (i' j : Nat) (v : Value) (x c : AV), xs[i']? = some x → x.cells[j]? = some c → (vs.toList.take (n * i.size))[i' * i.size + j]? = some v → Rl G v c := by
          intro i' j v x c' hx hc hv
          rw [List.getElem?_take] at hv
          split at hv
          · exact h7 i' j v x c' hx hc (by simpa using hv)
          · cases hv
        by_cases hroom : n + ys.length ≤ c
        · have hfit : n * i.size + news.length ≤ vs.size := by
            rw [src.many, ← Nat.add_mul, h3]
            exact Nat.mul_le_mul_right _ hroom
          have hrun := run_app_room (P := P) (ty := ty) h0 h1 ht hu hdu hi src.len h2 hc0 hroom hfit src.one
          have := set_entry (w' := w.setRow b (vs.toList.take (n * i.size) ++ news ++ vs.toList.drop (n * i.size + news.length)).toArray) (e' := .row e i.size (xs ++ ys) f) st hg hγ (by simp) (by simp)
            (.row _ _ _ _ _ _ (by simp) (by omega) fun _ => rfl) (fun k hk => setRow_other w b k _ hk) (by simp [World.setRow]) rfl rfl rfl (fun o' u hK => ?_) ?_
            (fun G' x' => .row _ _ _ _ _ (setRow_heap w b vs _ e _ h2) ?_ (by simp; omega) h5 (fun z hz => ?_) (by simp; omega) (fun o ho => by obtain ⟨u, hu⟩ := q2 o ho; exact ⟨u, x'.K _ _ _ hu⟩) fun i2 j2 z xx cc hxx hcc hz => ?_)
          · refine ⟨_, _, _, hrun, this.2.1, this.2.2, rfl, rl_new_row (e := e) (sz := i.size) (xs := xs ++ ys) (f := f) (by simp [List.getElem?_set, hlt]) (by simp [hl]) (by omega) hγ⟩
          · have hlt' := st.own g b c o' u _ hγ hg (by simp) hK
            have ho : o' < n * i.size := by
              simp only [Ent.fz] at hlt'
              exact Nat.lt_of_lt_of_le hlt' (Nat.mul_le_mul_right _ (by omega))
            have hcell := st.cell _ _ _ hK
            simp only [World.cell?, h2] at hcell
            simp only [World.cell?, setRow_heap w b vs _ e _ h2]
            rw [← hcell]
            simp only [Option.isSome_none, Bool.false_eq_true, if_false, List.getElem?_toArray]
            rw [splice_get _ _ _ _ (by simpa using hfit), if_neg (by omega)]
            simp
          · simp [Ent.fz]
          · simp only [List.size_toArray]
            rw [splice_length _ _ _ (by simpa using hfit)]
            simp [h3]
          · rcases List.mem_append.1 hz with h | h
            · exact h6 z h
            · exact hsy z h
          · rw [List.getElem?_toArray] at hz
            exact app_cells x' hl holen hold h6 hsy src.many src.rl i2 j2 z xx cc hxx hcc hz
        · have hfo : (Builtin.firstCells i.size n (.slice (some ⟨b, 0, none⟩) n c)).run P w.drew = .ok (vs.toList.take (n * i.size)).toArray w.drew := by
            have := run_loadCells_list (P := P) w.drew ⟨b, 0, none⟩ (vs.toList.take (n * i.size)) fun j v hj => by
              rw [add_cell]
              have hj' : vs[j]? = some v := by
                rw [List.getElem?_take] at hj
                split at hj
                · simpa using hj
                · cases hj
              show w.cell? _ = _
              simp [World.cell?, h2, hj']
            rw [holen] at this
            simpa [Builtin.firstCells] using this
          have hrun := run_app_grow (P := P) (w := w) (ty := ty) h0 h1 ht hu hdu hi hz src.len hfo hc1 (by omega) h63 hby
          have hfl : f * i.size ≤ n * i.size := Nat.mul_le_mul_right _ (by omega)
          have := move_entry (e' := .row e i.size (xs ++ ys) f) (c := grownCap w (n + ys.length) c e) (n := f * i.size) (ty := e)
            (vs := (vs.toList.take (n * i.size)).toArray ++ news.toArray ++ Builtin.zeroCells z.cells (grownCap w (n + ys.length) c e - (n + ys.length))) st.drew hg (by simp) rfl (by simp only [Array.size_append, List.size_toArray, holen]; omega)
            (.row _ _ _ _ _ _ (by simp) (by omega) fun hh => by simp at hh; exfalso; rw [hh] at hroom; simp at hroom; omega)
            (fun G' x' hk => grow_cells x' hl rfl holen hzs hold h6 hsy src.many src.rl (grownCap_ge _ _ _ _) (grownCap_le_maxLen _ _ _ _ (by simpa [maxLen] using h63)) (by omega) hk)
          refine ⟨_, _, _, hrun, this.2.1, (Wf.drew G w).trans this.2.2, rfl, ?_⟩
          exact rl_new_row (e := e) (sz := i.size) (xs := xs ++ ys) (f := f) (by simp [List.getElem?_set, hlt]) (by simp [hl]) (by omega) (by simp)
    · subst h00
      have hf0 : f = 0 := by have := (hr _ _ _ _ hg).2.1; omega
      subst hf0
      have hxs : xs = [] := List.eq_nil_of_length_eq_zero hl
      subst hxs
      by_cases hys : ys.length = 0
      · have : ys = [] := List.eq_nil_of_length_eq_zero hys
        subst this
        have hrun := run_app_none (P := P) (w := w) (ty := ty) h0 h1 ht hu hdu hi src.len hc0
        refine ⟨_, _, G, hrun, st, Wf.refl _ _, ?_, rl_nil_row hg hγ⟩
        simp only [List.append_nil]
        apply List.ext_getElem?
        intro k
        rw [List.getElem?_set]
        by_cases hk : g = k
        · subst hk
          rw [if_pos rfl, if_pos hlt, hg]
        · rw [if_neg hk]
      · have hrun := run_app_grow (P := P) (w := w) (ty := ty) (A := none) (cap := 0) (olds := []) h0 h1 ht hu hdu hi hz src.len (by simp [Builtin.firstCells]) hc1 (by omega) h63 hby
        have := move_entry (e' := .row e i.size ([] ++ ys) 0) (c := grownCap w (0 + ys.length) 0 e) (n := 0) (ty := e)
          (vs := ([] : List Value).toArray ++ news.toArray ++ Builtin.zeroCells z.cells (grownCap w (0 + ys.length) 0 e - (0 + ys.length))) st.drew hg (by simp) (by simp [Ent.fz]) (Nat.zero_le _)
          (.row _ _ _ _ _ _ (by simp) (by omega) fun hh => by exfalso; simp at hh; exact hys (by simp [hh]))
          (fun G' x' hk => grow_cells x' rfl rfl (by simp) hzs (by simp) (by simp) hsy src.many src.rl (grownCap_ge _ _ _ _) (grownCap_le_maxLen _ _ _ _ (by simpa [maxLen] using h63)) (Nat.zero_le _) (by simp))
        refine ⟨_, _, _, hrun, this.2.1, (Wf.drew G w).trans this.2.2, rfl, ?_⟩
        exact rl_new_row (e := e) (sz := i.size) (xs := [] ++ ys) (f := 0) (by simp [List.getElem?_set, hlt]) (by simp) (by omega) (by simp)

theorem run_appN (st : St G w) {t u ty e : TypeId} {du : TypeDesc} {i : TypeInfo} {z : Value} {ats : Array TypeId} (h0 : ats[0]? = some t) (h1 : ats[1]? = some u) (ht : P.underlying t = some (.slice e)) (hu : P.underlying u = some du) (hdu : ∀ k, du ≠ .int k)
    (hi : P.info? e = some i) (hz : i.zero = some z) (hzs : z.cells.size = i.size) {x : Value} {id : Nat} {ys : List AV} {news : List Value}
    (hid : G.H[id]? = some .res) (hok : ys.all (elemOk i.size) = true) (src : Src P G w i.size x ys news)
    (h63 : ys.length ≤ 9223372036854775807) (hby : ys.length * i.bytes ≤ 140737488355328) :
    ∃ v' w' G', (Builtin.append_ ats ty #[.slice none 0 0, x]).run P w = .ok v' w' ∧ St G' w' ∧ Wf G w G' w' ∧ G'.H = G.H.set id (.row e i.size ys 0) ∧ Rl G' v' (.row id ys.length) := by
  have hsy := elemOk_len hok
  have hlt : id < G.H.length := (List.getElem?_eq_some_iff.1 hid).1
  have hc0 : (Builtin.firstCells i.size ys.length x).run P w = .ok news.toArray w := src.cells 0
  have hc1 : (Builtin.firstCells i.size ys.length x).run P w.drew = .ok news.toArray w.drew := src.cells 1
  by_cases hys : ys.length = 0
  · have : ys = [] := List.eq_nil_of_length_eq_zero hys
    subst this
    have hrun := run_app_none (P := P) (w := w) (ty := ty) h0 h1 ht hu hdu hi src.len hc0
    have := new_none (e := .row e i.size [] 0) st hid (by simp)
    exact ⟨_, _, _, hrun, this.2.1, this.2.2, rfl, rl_nil_row (e := e) (sz := i.size) (by simp [List.getElem?_set, hlt]) (by simp)⟩
  · have hrun := run_app_grow (P := P) (w := w) (ty := ty) (A := none) (n := 0) (cap := 0) (olds := []) h0 h1 ht hu hdu hi hz src.len (by simp [Builtin.firstCells]) hc1 (by omega) (by omega) (by simpa using hby)
    have := new_entry (e := .row e i.size ([] ++ ys) 0) (c := grownCap w (0 + ys.length) 0 e)
      (o := .cells (([] : List Value).toArray ++ news.toArray ++ Builtin.zeroCells z.cells (grownCap w (0 + ys.length) 0 e - (0 + ys.length))) e) st.drew hid (by simp)
      (fun G' x' => grow_cells x' rfl rfl (by simp) hzs (by simp) (by simp) hsy src.many src.rl (grownCap_ge _ _ _ _) (grownCap_le_maxLen _ _ _ _ (by simpa [maxLen] using h63)) (Nat.zero_le _) (by simp))
    refine ⟨_, _, _, hrun, this.2.1, (Wf.drew G w).trans this.2.2, rfl, ?_⟩
    have h := rl_new_row (G' := ⟨G.K, updG G.γ id (some (w.drew.heap.size, grownCap w (0 + ys.length) 0 e)), G.H.set id (.row e i.size ([] ++ ys) 0)⟩) (g := id) (n := ys.length) (b := w.heap.size) (c := grownCap w (0 + ys.length) 0 e) (e := e) (sz := i.size) (xs := [] ++ ys) (f := 0) (by simp [List.getElem?_set, hlt]) (by simp) (by omega) (by simp)
    simpa using h
end
end Go.Am
