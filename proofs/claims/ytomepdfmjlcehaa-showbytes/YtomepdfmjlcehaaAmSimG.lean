/- Appends: the machine does what the step says. -/
import Derived.Test.YtomepdfmjlcehaaAmSimF
import Derived.Deep.Draws
set_option linter.unusedVariables false
set_option linter.unusedSimpArgs false
namespace Go.Am
section
variable {P : Program} {G : Gho} {w : World}

theorem run_app_room {t u ty e : TypeId} {du : TypeDesc} {i : TypeInfo} {ats : Array TypeId} (h0 : ats[0]? = some t) (h1 : ats[1]? = some u) (ht : P.underlying t = some (.slice e)) (hu : P.underlying u = some du) (hdu : ∀ k, du ≠ .int k)
    (hi : P.info? e = some i) {b n cap : Nat} {x : Value} {m : Nat} {news : List Value} {vs : Array Value} {ty' : TypeId} (hlen : Builtin.lenOf x = pure m) (hb : w.heap[b]? = some (.cells vs ty' (0, 0)))
    (hfc : (Builtin.firstCells i.size m x).run P w = .ok news.toArray w) (hroom : n + m ≤ cap) (hfit : n * i.size + news.length ≤ vs.size) (hone : ∀ v ∈ news, v.oneCell' = true) :
    (Builtin.append_ ats ty #[.slice (some ⟨b, 0, none⟩) n cap, x]).run P w =
      .ok (.slice (some ⟨b, 0, none⟩) (n + m) cap) (w.setRow b (vs.toList.take (n * i.size) ++ news ++ vs.toList.drop (n * i.size + news.length)).toArray) := by
  have hst := run_storeCells_at P b (n * i.size) ty' news 0 vs w hb (by simpa using hfit) hone
  simp only [Nat.add_zero] at hst
  have hz : (match du with | .int _ => true | _ => false) = false := by cases du <;> first | rfl | exact absurd rfl (hdu _)
  simp [Builtin.append_, h0, h1, run_underlying ht, run_underlying hu, sizeOf, typeInfo, hi, hlen, hroom, hfc, Addr.add_lit, hst, hz]

theorem run_app_none {t u ty e : TypeId} {du : TypeDesc} {i : TypeInfo} {ats : Array TypeId} (h0 : ats[0]? = some t) (h1 : ats[1]? = some u) (ht : P.underlying t = some (.slice e)) (hu : P.underlying u = some du) (hdu : ∀ k, du ≠ .int k)
    (hi : P.info? e = some i) {x : Value} (hlen : Builtin.lenOf x = pure 0) {news : Array Value} (hfc : (Builtin.firstCells i.size 0 x).run P w = .ok news w) :
    (Builtin.append_ ats ty #[.slice none 0 0, x]).run P w = .ok (.slice none 0 0) w := by
  have hz : (match du with | .int _ => true | _ => false) = false := by cases du <;> first | rfl | exact absurd rfl (hdu _)
  simp [Builtin.append_, h0, h1, run_underlying ht, run_underlying hu, sizeOf, typeInfo, hi, hlen, hfc, hz]

theorem run_app_grow {t u ty e : TypeId} {du : TypeDesc} {i : TypeInfo} {z : Value} {ats : Array TypeId} (h0 : ats[0]? = some t) (h1 : ats[1]? = some u) (ht : P.underlying t = some (.slice e)) (hu : P.underlying u = some du) (hdu : ∀ k, du ≠ .int k)
    (hi : P.info? e = some i) (hz : i.zero = some z) {A : Option Addr} {n cap : Nat} {x : Value} {m : Nat} {news olds : List Value} (hlen : Builtin.lenOf x = pure m)
    (hfo : (Builtin.firstCells i.size n (.slice A n cap)).run P w.drew = .ok olds.toArray w.drew)
    (hfc : (Builtin.firstCells i.size m x).run P w.drew = .ok news.toArray w.drew) (hg : cap < n + m) (h63 : n + m ≤ 9223372036854775807) (hby : (n + m) * i.bytes ≤ 140737488355328) :
    (Builtin.append_ ats ty #[.slice A n cap, x]).run P w =
      .ok (.slice (some ⟨w.heap.size, 0, none⟩) (n + m) (grownCap w (n + m) cap e))
        (w.drew.alloc (.cells (olds.toArray ++ news.toArray ++ Builtin.zeroCells z.cells (grownCap w (n + m) cap e - (n + m))) e)) := by
  have hfit := growslice_fits hg hby
  have hn : ¬ (n + m ≤ cap) := by omega
  have h63' : ¬ (9223372036854775807 < ((n : Int) + (m : Int))) := by omega
  have h48' : ¬ (281474976710656 < Builtin.nextslicecap (n + m) cap * i.bytes) := by omega
  have hzz : (match du with | .int _ => true | _ => false) = false := by cases du <;> first | rfl | exact absurd rfl (hdu _)
  simp [Builtin.append_, h0, h1, run_underlying ht, run_underlying hu, sizeOf, typeInfo, zeroValue, hi, hz, hlen, hn, h63', h48', Question.forced, hfc, hfo, newRow, grownCap, hzz]
  congr 2
  apply Array.ext'
  simp [List.append_assoc]

/-- The cells of a slice, or of a string, that is appended. -/
structure Src (P : Program) (G : Gho) (w : World) (size : Nat) (u : Value) (ys : List AV) (news : List Value) : Prop where
  len : Builtin.lenOf u = pure ys.length
  cells : ∀ k, (Builtin.firstCells size ys.length u).run P (w.drewN k) = .ok news.toArray (w.drewN k)
  many : news.length = ys.length * size
  rl : ∀ (i j : Nat) (v : Value) (x c : AV), ys[i]? = some x → x.cells[j]? = some c → news[i * size + j]? = some v → Rl G v c
  one : ∀ v ∈ news, v.oneCell' = true

theorem idx_split {n sz k : Nat} (h : k < n * sz) : k / sz < n ∧ k % sz < sz ∧ k / sz * sz + k % sz = k := by
  have hsz : 0 < sz := by
    rcases Nat.eq_zero_or_pos sz with e | e
    · subst e; simp at h
    · exact e
  exact ⟨(Nat.div_lt_iff_lt_mul hsz).2 h, Nat.mod_lt _ hsz, by rw [Nat.mul_comm]; exact Nat.div_add_mod _ _⟩

theorem idx_lt {n sz i j : Nat} (hi : i < n) (hj : j < sz) : i * sz + j < n * sz := by
  have : (i + 1) * sz ≤ n * sz := Nat.mul_le_mul_right _ hi
  rw [Nat.add_mul] at this
  omega

/-- Cells that are known one by one, as a list. -/
theorem src_of {size b p n c : Nat} {ys : List AV} (hn : ys.length = n) (hok : ys.all (elemOk size) = true)
    (hc : ∀ (i j : Nat) (x y : AV), ys[i]? = some x → x.cells[j]? = some y → j < size → ∃ u, w.cell? ⟨b, p + (i * size + j), none⟩ = some u ∧ Rl G u y) :
    ∃ news, Src P G w size (.slice (some ⟨b, p, none⟩) n c) ys news := by
  subst hn
  let f : Nat → Value := fun k => (w.cell? ⟨b, p + k, none⟩).getD undef
  have hcell : ∀ k, k < ys.length * size → ∃ x y, ys[k / size]? = some x ∧ x.cells[k % size]? = some y ∧ w.cell? ⟨b, p + k, none⟩ = some (f k) ∧ Rl G (f k) y ∧ y.isOne = true := fun k hk => by
    obtain ⟨h1, h2, h3⟩ := idx_split hk
    have hx := List.getElem?_eq_getElem h1
    have hm := List.all_eq_true.1 hok _ (List.mem_of_getElem? hx)
    simp only [elemOk, Bool.and_eq_true, decide_eq_true_eq] at hm
    have hy : k % size < (ys[k / size]).cells.length := by omega
    obtain ⟨u, e1, e2⟩ := hc _ _ _ _ hx (List.getElem?_eq_getElem hy) h2
    rw [h3] at e1
    refine ⟨_, _, hx, List.getElem?_eq_getElem hy, ?_, ?_, List.all_eq_true.1 hm.2 _ (List.getElem_mem _)⟩
    · simp [f, e1]
    · simpa [f, e1] using e2
  refine ⟨(List.range (ys.length * size)).map f, ⟨rfl, fun k => ?_, by simp, fun i j v x y hx hy hv => ?_, fun v hv => ?_⟩⟩
  · have := run_loadCells (P := P) (w.drewN k) ⟨b, p, none⟩ (ys.length * size) f (fun j hj => by
      obtain ⟨_, _, _, _, h, _⟩ := hcell j hj
      rw [add_cell]; exact h)
    simpa [Builtin.firstCells] using this
  · have hi := (List.getElem?_eq_some_iff.1 hx).1
    have hm := List.all_eq_true.1 hok _ (List.mem_of_getElem? hx)
    simp only [elemOk, Bool.and_eq_true, decide_eq_true_eq] at hm
    have hj : j < size := by have := (List.getElem?_eq_some_iff.1 hy).1; omega
    obtain ⟨u, e1, e2⟩ := hc i j x y hx hy hj
    have hlt := idx_lt hi hj
    rw [List.getElem?_map, List.getElem?_range hlt] at hv
    simp only [Option.map_some, Option.some.injEq] at hv
    subst hv
    simpa [f, e1] using e2
  · obtain ⟨k, hk, rfl⟩ := List.mem_map.1 hv
    obtain ⟨_, _, _, _, _, h1, h2⟩ := hcell k (List.mem_range.1 hk)
    exact one_cell' (rl_one h1 h2)

theorem src_nil (size : Nat) {A c} : Src P G w size (.slice A 0 c) [] [] :=
  ⟨rfl, fun k => by cases A <;> simp [Builtin.firstCells, loadCells, loadCellsFrom], by simp, fun i j v x y hx => by simp at hx, by simp⟩

theorem src_elems (st : St G w) {size : Nat} {u : Value} {y : AV} {ys : List AV} (hy : Rl G u y) (h : elems G.H y = some ys) (hok : ys.all (elemOk size) = true) : ∃ news, Src P G w size u ys news := by
  unfold elems at h
  split at h
  · rename_i xs
    injection h with h
    subst h
    cases hy with
    | sl0 A c => exact ⟨[], src_nil size⟩
    | sl b o n c sz xs us hnc hn hx hk hr =>
      cases xs with
      | nil =>
        simp at hn
        subst hn
        exact ⟨[], src_nil size⟩
      | cons y0 ys =>
        have hm := List.all_eq_true.1 hok y0 (by simp)
        simp only [elemOk, Bool.and_eq_true, decide_eq_true_eq] at hm
        have hsz : sz = size := by rw [← hx y0 (by simp)]; exact hm.1
        subst hsz
        exact src_of hn hok fun i j x z hxi hz hj => by
          have hi : i < n := hn ▸ (List.getElem?_eq_some_iff.1 hxi).1
          exact ⟨us i j, st.cell _ _ _ (hk i j hi hj), hr i j x z hxi hz⟩
  · injection h with h
    subst h
    cases rl_nl hy
    exact ⟨[], src_nil size⟩
  · rename_i g n
    split at h
    · rename_i e sz xs f hg
      split at h
      · rename_i hl
        injection h with h
        subst h
        cases hy with
        | row _ _ A c lt hn hr =>
          rcases (hr _ _ _ _ hg).2.2 hl.symm with ⟨b, hγ, rfl⟩ | ⟨_, h0, h1, h2⟩
          · cases st.ent g b c _ hγ hg with
            | row _ _ _ _ vs h2 h3 h4 h5 h6 q1 q2 h7 =>
              cases xs with
              | nil =>
                simp at hl
                subst hl
                exact ⟨[], src_nil size⟩
              | cons y0 ys =>
                have hm := List.all_eq_true.1 hok y0 (by simp)
                simp only [elemOk, Bool.and_eq_true, decide_eq_true_eq] at hm
                have hsz : sz = size := by rw [← h6 y0 (by simp)]; exact hm.1
                subst hsz
                exact src_of hl hok fun i j x z hxi hz hj => by
                  have hi : i < c := by have := (List.getElem?_eq_some_iff.1 hxi).1; omega
                  have hlt : i * sz + j < vs.size := h3 ▸ idx_lt hi hj
                  refine ⟨vs[i * sz + j], ?_, h7 i j _ x z hxi hz (Array.getElem?_eq_getElem hlt)⟩
                  simp [World.cell?, h2, hlt]
          · subst h0
            have : xs = [] := List.eq_nil_of_length_eq_zero hl
            subst this
            exact ⟨[], src_nil size⟩
      · cases h
    · cases h
  · cases h

theorem src_str {s : List UInt8} : Src P G w 1 (.string ⟨s.toArray⟩) (s.map b8) (s.map fun b => .int .u8 b.toNat) where
  len := by simp [Builtin.lenOf, size_mk]
  cells k := by
    simp only [Builtin.firstCells]
    have : (⟨s.toArray⟩ : ByteArray).extract 0 (s.map b8).length = ⟨s.toArray⟩ := by
      apply ByteArray.ext
      simp [ByteArray.data_extract]
    rw [this]
    simp
  many := by simp
  rl i j v x c hx hc hv := by
    simp only [List.getElem?_map, Option.map_eq_some_iff] at hx
    obtain ⟨a, ha, rfl⟩ := hx
    simp only [b8, AV.cells] at hc
    cases j with
    | zero =>
      simp at hc
      subst hc
      simp [ha] at hv
      subst hv
      exact .it _ _
    | succ j => simp at hc
  one v hv := by
    obtain ⟨b, _, rfl⟩ := List.mem_map.1 hv
    rfl
end
end Go.Am
