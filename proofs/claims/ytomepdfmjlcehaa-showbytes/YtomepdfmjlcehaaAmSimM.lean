/- Pointers that are compared, turned into unsafe ones and back, and a row of bytes as a text. -/
import Derived.Test.YtomepdfmjlcehaaAmSimK
set_option linter.unusedVariables false
set_option linter.unusedSimpArgs false
namespace Go.Am
section
variable {P : Program} {G : Gho} {w : World} {id : Nat}

/-- An address into a box. -/
theorem rl_box (st : St G w) {v : Value} {g o t : Nat} {cs : List AV} (hv : Rl G v (.ptr g o)) (hg : G.H[g]? = some (.box t cs)) : ∃ b, v = .pointer (some ⟨b, o, none⟩) ∧ G.γ g = some (b, 0) ∧ w.shape? b = some (t, cs.length) := by
  cases hv with
  | ptr _ _ b lt hn hb _ =>
    have hγ := hb _ _ hg
    refine ⟨b, rfl, hγ, ?_⟩
    cases st.ent g b 0 _ hγ hg with
    | box _ _ vs h1 h2 h3 h4 => simp [World.shape?, h1, h2]

theorem run_eqp (st : St G w) {neg : Bool} {t e : TypeId} {j : TypeInfo} (ht : P.underlying t = some (.pointer e)) (hj : P.info? e = some j) {x y : Operand} {u v : Value} {g o ty : Nat} {cs : List AV} (hu : Rl G u (.ptr g o)) (hv : Rl G v (.ptr g o)) (hg : G.H[g]? = some (.box ty cs)) :
    (do eqGuard (eqNe neg) t x y u v; binOp (eqNe neg) t u v : Sem Value).run P w = .ok (.bool (neg.xor true)) w := by
  have hop : eqNe neg = .eql ∨ eqNe neg = .neq := by cases neg <;> simp [eqNe]
  obtain ⟨b, rfl, h1, h2⟩ := rl_box st hu hg
  obtain ⟨b', rfl, h3, h4⟩ := rl_box st hv hg
  rw [h1] at h3
  injection h3 with h3
  injection h3 with h3 _
  subst h3
  refine run_eq_of ?_ (by simp) (by simp) (by simp) (by simp) ?_
  · rcases hop with e | e <;> rw [e] <;> simp [eqGuard]
  · have h : ∀ d : Nat, (Op.equalIn (d + 1) t (.pointer (some ⟨b, o, none⟩)) (.pointer (some ⟨b, o, none⟩))).run P w = .ok true w := fun d => by
      simp [Op.equalIn, run_underlying ht, sizeOf, typeInfo, hj, run_sameAddr_same]
    exact h 9999

theorem run_noEsc {f : FuncId} {fn : Func} (hf : P.funcs[f]? = some fn) (hb : fn.body.isNone = true) (hn : fn.name = "internal/abi.NoEscape") (ho : fn.origin = "") (v : Value) :
    (callFunc f #[v]).run P w = .ok (.value v) w := by
  have h1 : Extern.findNext fn = none := by
    have : Extern.findNext fn = ((Extern.allNextRows.lookup "internal/abi.NoEscape").map (· fn.params fn.resultTypes) <|> (Extern.allNextRows.lookup "").map (· fn.params fn.resultTypes)) := by
      simp only [Extern.findNext, hn, ho]
    rw [this]
    have e1 : Extern.allNextRows.lookup "internal/abi.NoEscape" = none := by kernel_rfl
    have e2 : Extern.allNextRows.lookup "" = none := by kernel_rfl
    rw [e1, e2]
    rfl
  have h2 : Extern.find fn = some Extern.AbiNoEscape.same := by
    have : Extern.find fn = (((Extern.allGenericRows.lookup "internal/abi.NoEscape").map (· fn.targs fn.params fn.resultTypes) <|> (Extern.allTypedRows.lookup "internal/abi.NoEscape").map (· fn.params fn.resultTypes) <|> Extern.allRows.lookup "internal/abi.NoEscape") <|>
        ((Extern.allGenericRows.lookup "").map (· fn.targs fn.params fn.resultTypes) <|> (Extern.allTypedRows.lookup "").map (· fn.params fn.resultTypes) <|> Extern.allRows.lookup "")) := by
      simp only [Extern.find, hn, ho]
    rw [this]
    have e1 : Extern.allGenericRows.lookup "internal/abi.NoEscape" = none := by kernel_rfl
    have e2 : Extern.allTypedRows.lookup "internal/abi.NoEscape" = none := by kernel_rfl
    have e3 : Extern.allRows.lookup "internal/abi.NoEscape" = some Extern.AbiNoEscape.same := by kernel_rfl
    rw [e1, e2, e3]
    rfl
  have h3 : (fn.name == "runtime.NumGoroutine") = false := by rw [hn]; decide
  rw [run_callFunc_extern hf h3 hb h1 h2, Lib.run_noEscape]
  rfl

theorem out_ust (st : St G w) {pt it ty e : TypeId} (hp : P.underlying pt = some (.pointer e)) (hc : P.cellsOf e = 1) {u : Value} {g k f : Nat} {xs : List AV} {s : List UInt8} (hu : Rl G u (.el g k 0 0))
    (hg : G.H[g]? = some (.row e 1 xs f)) (hl : xs.length = k) (hk : 0 < k) (hs : unb8 xs = some s) (h8 : xs.all isB8 = true) :
    Out P G w id (Builtin.unsafeString_ #[pt, it] ty #[u, .int .i64 k]) (.st s) (G.H.set g .dead) none := by
  obtain ⟨s1, s2⟩ := unb8_get hs
  cases hu with
  | el _ _ _ _ b p lt hn hr =>
    obtain ⟨⟨c, hγ⟩, hp0⟩ := (hr _ _ _ _ hg).2 hl.symm
    simp only [Nat.zero_mul, Nat.add_zero] at hp0
    subst hp0
    cases st.ent g b c _ hγ hg with
    | row _ _ _ _ vs h2 h3 h4 h5 h6 q1 q2 h7 =>
      obtain ⟨x1, st1, wf1⟩ := kill st hg (by simp)
      have hsh : w.shape? b = some (e, c) := by simp [World.shape?, h2, h3]
      have hcell : ∀ j x, s[j]? = some x → w.cell? ((⟨b, 0, none⟩ : Addr).add j) = some (.int .u8 x.toNat) := fun j x hx => by
        rw [add_cell, Nat.zero_add]
        have hj : j < xs.length := by rw [← s1]; exact (List.getElem?_eq_some_iff.1 hx).1
        obtain ⟨n, e1, e2⟩ := s2 j _ (List.getElem?_eq_getElem hj)
        have hjv : j < vs.size := by omega
        have hv : vs[j]? = some vs[j] := Array.getElem?_eq_getElem hjv
        have := h7 j 0 vs[j] _ _ (List.getElem?_eq_getElem hj) (by rw [e1]; rfl) (by simp [hv])
        have hvi := rl_it this
        rw [hx] at e2
        injection e2 with e2
        have hn8 : n = ((UInt8.ofNat n.toNat).toNat : Int) := by
          have := List.all_eq_true.1 h8 _ (List.getElem_mem hj)
          rw [e1] at this
          simp only [isB8, Bool.and_eq_true, decide_eq_true_eq] at this
          simp
          omega
        simp only [World.cell?, h2, hv, hvi]
        rw [e2, ← hn8]
        rfl
      have hrun := Lib.run_unsafeString_row (P := P) (w := w) pt it ty e hp hc b c hsh s (by intro e; subst e; simp at s1; omega) (by omega) (by omega) hcell
      rw [s1, hl] at hrun
      have hz : k ≠ 0 := by omega
      have hfz : w.freeze ⟨b, 0, none⟩ k = { w with heap := w.heap.modify b fun
          | .cells c elem (lo, hi) => .cells c elem (if lo == hi then (0, 0 + k) else (min lo 0, max hi (0 + k)))
          | o => o } := by
        simp only [World.freeze, if_neg hz]
        rfl
      have hk0 : ∀ k', k' ≠ b → (w.freeze ⟨b, 0, none⟩ k).heap[k']? = w.heap[k']? := fun k' hk' => by
        rw [hfz]
        simp only [Array.getElem?_modify]
        rw [if_neg (fun e => hk' e.symm)]
      have hb0 : ∃ fr, (w.freeze ⟨b, 0, none⟩ k).heap[b]? = some (.cells vs e fr) := by
        rw [hfz]
        simp only [Array.getElem?_modify, if_true, h2, Option.map_some]
        exact ⟨_, rfl⟩
      have hsz : (w.freeze ⟨b, 0, none⟩ k).heap.size = w.heap.size := by rw [hfz]; simp
      have hun : ∀ g' c', (updG G.γ g none) g' ≠ some (b, c') := fun g' c' h => by
        simp only [updG] at h
        split at h
        · cases h
        · rename_i hgg; exact hgg (st.inj _ _ _ _ _ h hγ)
      refine ⟨.string ⟨s.toArray⟩, _, _, hrun, st1.world (fun b' o u h => ?_) (fun g' b' c' h => hk0 b' fun e => hun g' c' (e ▸ h)) (by rw [hsz]; exact Nat.le_refl _), ?_, rfl, .st s⟩
      · have := st1.cell b' o u h
        by_cases hb : b' = b
        · subst hb
          obtain ⟨fr, hfr⟩ := hb0
          simp only [World.cell?, h2] at this
          simp only [World.cell?, hfr]
          exact this
        · simp only [World.cell?, hk0 b' hb] at this ⊢
          exact this
      · exact ⟨x1, by rw [hsz]; exact Nat.le_refl _, by rw [hfz], by rw [hfz], by rw [hfz], fun b' hb hnb => hk0 b' fun e => hnb g c (e ▸ hγ), wf1.fresh, fun _ _ _ _ _ h => h⟩

end
end Go.Am
