/- Parts of values, conversions, literals, iterators: the machine does what the steps say. -/
import Derived.Test.YtomepdfmjlcehaaAmSimI
import Derived.Great.BuildSlice
import Derived.Laws.MakeOwn
set_option linter.unusedVariables false
set_option linter.unusedSimpArgs false
namespace Go.Am
section
variable {P : Program} {G : Gho} {w : World} {id : Nat}

/-- A part of a struct's or an array's value. -/
theorem run_part {t : TypeId} {g : Option Nat} {vs : Array Value} {cs : List AV} {o : Nat} {a : AV} (ht : aggOf P t = some g) (hs : vs.size = cs.length)
    (hc : ∀ (j : Nat) (v : Value) (c : AV), vs[j]? = some v → cs[j]? = some c → Rl G v c) (hv : takeV cs o g = some a) : ∃ u, (part t vs o).run P w = .ok u w ∧ Rl G u a := by
  unfold aggOf at ht
  split at ht
  · rename_i i hi
    have agg : ∀ d : TypeDesc, (isAgg t).run P w = .ok true w → some (some i.size) = some g → ∃ u, (part t vs o).run P w = .ok u w ∧ Rl G u a := by
      intro d hA he
      injection he with he
      subst he
      simp only [takeV] at hv
      split at hv
      · rename_i hle
        injection hv with hv
        subst hv
        refine ⟨.agg (vs.extract o (o + i.size)), by simp [part, hA, sizeOf, typeInfo, hi], .ag _ _ (by simp; omega) fun j v c hj hcj => ?_⟩
        rw [List.getElem?_take] at hcj
        split at hcj
        · rename_i hjl
          rw [List.getElem?_drop] at hcj
          rw [Array.getElem?_extract, if_pos (by omega)] at hj
          exact hc (o + j) v c hj hcj
        · cases hcj
      · cases hv
    split at ht
    · rename_i fs hd
      exact agg (.struct fs) (run_isAgg_struct hd) ht
    · rename_i n e hd
      exact agg (.array n e) (by simp [isAgg, run_underlying hd]) ht
    · rename_i d hn1 hn2 hd
      split at ht
      · injection ht with ht
        subst ht
        simp only [takeV] at hv
        have hlt : o < vs.size := by rw [hs]; exact (List.getElem?_eq_some_iff.1 hv).1
        have hA : (isAgg t).run P w = .ok false w := by
          simp only [isAgg, Sem.run_bind, run_underlying hd, Result.andThen_ok]
          cases d <;> first | rfl | (exfalso; first | exact hn1 _ rfl | exact hn2 _ _ rfl)
        exact ⟨vs[o], by simp [part, hA, hlt], hc o _ a (Array.getElem?_eq_getElem hlt) hv⟩
      · cases ht
    · cases ht
  · cases ht

theorem out_fl (st : St G w) {t : TypeId} {fs : Array Field} {k : Nat} {fd : Field} {g : Option Nat} (ht : P.underlying t = some (.struct fs)) (hk : fs[k]? = some fd) (hg : aggOf P fd.type = some g) {v : Value} {cs : List AV} {a : AV} (hv : Rl G v (.ag cs))
    (h : takeV cs fd.offset g = some a) : Out P G w id (Instr.field t v k) a G.H none := by
  cases hv with
  | ag vs _ hs hc =>
    obtain ⟨u, h1, h2⟩ := run_part (P := P) (w := w) hg hs hc h
    exact Out.quiet st (by simp [Instr.field, run_underlying ht, hk, asAgg, h1]) h2

theorem out_ix (st : St G w) {t : TypeId} (ht : P.underlying t = some .string) {v u : Value} {s : List UInt8} {k : IntKind} {m : Int} {b : UInt8} (hv : Rl G v (.st s)) (hu : Rl G u (.it k m)) (h0 : 0 ≤ m) (hb : s[m.toNat]? = some b) :
    Out P G w id (Instr.index t v u) (b8 b) G.H none := by
  cases rl_it hu
  cases rl_st hv
  have hs : ((⟨s.toArray⟩ : ByteArray)[m.toNat]?) = some b := by
    have hlt := (List.getElem?_eq_some_iff.1 hb)
    obtain ⟨h1, h2⟩ := hlt
    rw [getElem?_pos (⟨s.toArray⟩ : ByteArray) m.toNat (by simpa [ByteArray.size] using h1)]
    congr 1
  refine Out.quiet st (v := .int .u8 b.toNat) ?_ (.it _ _)
  simp [Instr.index, asIntOf, run_underlying ht, h0, hs]

theorem out_ixa (st : St G w) {t e : TypeId} {N : Nat} {i : TypeInfo} {g : Option Nat} (ht : P.underlying t = some (.array N e)) (hi : P.info? e = some i) (hg : aggOf P e = some g) {v u : Value} {cs : List AV} {k : IntKind} {m : Int} {a : AV} (hv : Rl G v (.ag cs)) (hu : Rl G u (.it k m))
    (h0 : 0 ≤ m) (h1 : m < N) (h : takeV cs (m.toNat * i.size) g = some a) : Out P G w id (Instr.index t v u) a G.H none := by
  cases rl_it hu
  cases hv with
  | ag vs _ hs hc =>
    obtain ⟨z, e1, e2⟩ := run_part (P := P) (w := w) hg hs hc h
    refine Out.quiet st (v := z) ?_ e2
    simp [Instr.index, asIntOf, run_underlying ht, h0, h1, sizeOf, typeInfo, hi, e1]

theorem out_ext (st : St G w) {v : Value} {cs : List AV} {k : Nat} {a : AV} (hv : Rl G v (.tp cs)) (h : cs[k]? = some a) : Out P G w id (Instr.extract v k) a G.H none := by
  cases hv with
  | tp vs _ hs hc =>
    have hlt : k < vs.size := by rw [hs]; exact (List.getElem?_eq_some_iff.1 h).1
    exact Out.quiet st (v := vs[k]) (by simp [Instr.extract, hlt]) (hc k _ a (Array.getElem?_eq_getElem hlt) h)

theorem out_cvI (st : St G w) {s d : TypeId} {k0 k : IntKind} (hs : P.underlying s = some (.int k0)) (hd : P.underlying d = some (.int k)) {v : Value} {k' : IntKind} {n : Int} (hv : Rl G v (.it k' n)) :
    Out P G w id (convert s d v) (.it k (k.wrap n)) G.H none := by
  cases rl_it hv
  exact Out.quiet st (by simp [convert, run_underlying hs, run_underlying hd, Conv.intToInt]) (.it _ _)

theorem out_cvIS (st : St G w) {s d : TypeId} {k0 : IntKind} (hs : P.underlying s = some (.int k0)) (hd : P.underlying d = some .string) {v : Value} {k' : IntKind} {n : Int} (hv : Rl G v (.it k' n)) :
    Out P G w id (convert s d v) (.st (Utf8.encode n).data.toList) G.H none := by
  cases rl_it hv
  refine Out.quiet st (v := .string (Utf8.encode n)) (by simp [convert, run_underlying hs, run_underlying hd, Conv.intToString]) ?_
  have := Rl.st (G := G) (Utf8.encode n).data.toList
  simpa using this

theorem out_cvSS (st : St G w) {s d : TypeId} (hs : P.underlying s = some .string) (hd : P.underlying d = some .string) {v : Value} {l : List UInt8} (hv : Rl G v (.st l)) : Out P G w id (convert s d v) (.st l) G.H none := by
  cases rl_st hv
  exact Out.quiet st (by simp [convert, run_underlying hs, run_underlying hd]) hv

theorem unb8_get : ∀ {xs : List AV} {s : List UInt8}, unb8 xs = some s → s.length = xs.length ∧ ∀ (j : Nat) (x : AV), xs[j]? = some x → ∃ n, x = .it .u8 n ∧ s[j]? = some (UInt8.ofNat n.toNat)
  | [], s, h => by
    simp [unb8] at h
    subst h
    exact ⟨rfl, fun j x hx => by simp at hx⟩
  | x :: xs, s, h => by
    unfold unb8 at h
    split at h
    · cases ‹x :: xs = []›
    · rename_i n l e
      injection e with e1 e2
      subst e1; subst e2
      split at h
      · rename_i m hm
        injection h with h
        subst h
        obtain ⟨h1, h2⟩ := unb8_get hm
        refine ⟨by simp [h1], fun j x hx => ?_⟩
        cases j with
        | zero => simp at hx; subst hx; exact ⟨n, rfl, by simp⟩
        | succ j => simpa using h2 j x (by simpa using hx)
      · cases h
    · cases h

theorem run_bytesFold (f : Value → ByteArray → Sem (ForInStep ByteArray)) (hf : ∀ n s, f (.int .u8 n) s = pure (ForInStep.yield (s.push (UInt8.ofNat n.toNat)))) (s : List UInt8) : ∀ (vs : List Value) (acc : ByteArray) (w : World), vs.length = s.length → (∀ (j : Nat) (v : Value), vs[j]? = some v → ∃ n, v = .int .u8 n ∧ s[j]? = some (UInt8.ofNat n.toNat)) →
    (forIn (m := Sem) vs acc f).run P w = .ok (acc ++ ⟨s.toArray⟩) w := by
  induction s with
  | nil =>
    intro vs acc w hl h
    have : vs = [] := List.eq_nil_of_length_eq_zero hl
    subst this
    simp only [List.forIn_nil, Sem.run_pure]
    congr 1
    apply ByteArray.ext
    simp
  | cons b s ih =>
    intro vs acc w hl h
    cases vs with
    | nil => simp at hl
    | cons v vs =>
      obtain ⟨n, rfl, hb⟩ := h 0 v rfl
      simp only [List.getElem?_cons_zero, Option.some.injEq] at hb
      have hi := ih vs (acc.push (UInt8.ofNat n.toNat)) w (by simpa using hl) fun j v hv => by simpa using h (j + 1) v (by simpa using hv)
      simp only [List.forIn_cons, hf, Sem.run_bind, Sem.run_pure, Result.andThen_ok]
      rw [hi]
      congr 1
      apply ByteArray.ext
      simp [hb]

theorem out_cvBS (st : St G w) {s d e : TypeId} (hs : P.underlying s = some (.slice e)) (hd : P.underlying d = some .string) (he : P.underlying e = some (.int .u8)) {v : Value} {a : AV} {xs : List AV} {l : List UInt8} (hv : Rl G v a) (hx : elems G.H a = some xs) (hl : unb8 xs = some l) :
    Out P G w id (convert s d v) (.st l) G.H none := by
  obtain ⟨h1, h2⟩ := unb8_get hl
  have hok : xs.all (elemOk 1) = true := List.all_eq_true.2 fun x hx => by
    obtain ⟨j, hj⟩ := List.getElem?_of_mem hx
    obtain ⟨n, rfl, _⟩ := h2 j x hj
    rfl
  obtain ⟨news, src⟩ := src_elems (P := P) st hv hx hok
  have hvv : ∃ A n c, v = .slice A n c ∧ n = xs.length := by
    have := src.len
    cases hv <;> first | exact ⟨_, _, _, rfl, Sem.pure.inj this⟩ | (simp [elems] at hx; done)
  obtain ⟨A, n, c, rfl, rfl⟩ := hvv
  have hc : (Builtin.firstCells 1 xs.length (.slice A xs.length c)).run P w = .ok news.toArray w := src.cells 0
  have hnew : ∀ (j : Nat) (v : Value), news[j]? = some v → ∃ n, v = .int .u8 n ∧ l[j]? = some (UInt8.ofNat n.toNat) := fun j v hj => by
    have hjl : j < xs.length := by have := (List.getElem?_eq_some_iff.1 hj).1; have := src.many; omega
    obtain ⟨n, hn, hln⟩ := h2 j _ (List.getElem?_eq_getElem hjl)
    have := src.rl j 0 v _ (.it .u8 n) (List.getElem?_eq_getElem hjl) (by rw [hn]; rfl) (by simpa using hj)
    exact ⟨n, rl_it this, hln⟩
  refine Out.quiet st (v := .string ⟨l.toArray⟩) ?_ (.st _)
  cases A with
  | none =>
    simp only [Builtin.firstCells, Sem.run_pure] at hc
    injection hc with hc
    have hn0 : news = [] := by
      have := congrArg Array.toList hc
      simpa using this.symm
    have : l = [] := by
      apply List.eq_nil_of_length_eq_zero
      have := src.many
      rw [hn0] at this
      simp at this
      omega
    subst this
    simp [convert, run_underlying hs, run_underlying hd, run_underlying he, Conv.bytesToString]
    rfl
  | some a =>
    simp only [Builtin.firstCells, Nat.mul_one] at hc
    simp only [convert, Sem.run_bind, run_underlying hs, run_underlying hd, run_underlying he, Result.andThen_ok, Conv.bytesToString, hc, ← Array.forIn_toList]
    rw [run_bytesFold _ (fun n s => rfl) l news ByteArray.empty w (by have := src.many; omega) hnew]
    simp only [Result.andThen_ok, Sem.run_pure]
    have : ByteArray.empty ++ (⟨l.toArray⟩ : ByteArray) = ⟨l.toArray⟩ := by
      apply ByteArray.ext
      simp
    rw [this]

theorem run_markStringish {a : Addr} {vs : Array Value} {ty : TypeId} {fr : Nat × Nat} (h : w.heap[a.block]? = some (.cells vs ty fr)) :
    (markStringish a).run P w = .ok () (w.freeze { block := a.block, off := vs.size } 1) := by
  have hs : (shape a.block).run P w = .ok (some (ty, vs.size)) w := by simp [shape, Sem.run, World.shape?, h]
  simp only [markStringish, Sem.run_bind, hs, Result.andThen_ok]
  rfl

theorem freeze_heap (w : World) (b n : Nat) (vs : Array Value) (ty : TypeId) (fr : Nat × Nat) (h : w.heap[b]? = some (.cells vs ty fr)) :
    ∃ fr', (w.freeze { block := b, off := n } 1).heap[b]? = some (.cells vs ty fr') ∧ (∀ k, k ≠ b → (w.freeze { block := b, off := n } 1).heap[k]? = w.heap[k]?) ∧ (w.freeze { block := b, off := n } 1).heap.size = w.heap.size := by
  have hlt : b < w.heap.size := (Array.getElem?_eq_some_iff.1 h).1
  obtain ⟨lo, hi⟩ := fr
  refine ⟨_, by simp only [World.freeze, if_neg (show ¬ (1 = 0) by decide), Array.getElem?_modify, if_true, h, Option.map_some]; rfl, fun k hk => ?_, by simp [World.freeze]⟩
  simp only [World.freeze, if_neg (show ¬ (1 = 0) by decide), Array.getElem?_modify]
  rw [if_neg (fun e => hk e.symm)]

/-- A frozen list of cells. -/
theorem rl_pinned {G' : Gho} {b n c : Nat} {xs : List AV} {vs : Array Value} (hK : ∀ (o : Nat) (v : Value), vs[o]? = some v → G'.K b o = some v) (hl : xs.length = n) (hnc : n ≤ c) (hle : n ≤ vs.size)
    (h1 : ∀ (i : Nat) (x : AV) (v : Value), xs[i]? = some x → vs[i]? = some v → x.cells = [x] ∧ Rl G' v x) : Rl G' (.slice (some ⟨b, 0, none⟩) n c) (.sl xs) := by
  have hx1 : ∀ x ∈ xs, x.cells = [x] := fun x hx => by
    obtain ⟨i, hi⟩ := List.getElem?_of_mem hx
    have hlt := (List.getElem?_eq_some_iff.1 hi).1
    exact (h1 i x _ hi (Array.getElem?_eq_getElem (by omega))).1
  refine .sl b 0 n c 1 xs (fun i _ => vs[i]?.getD undef) hnc hl (fun x hx => by rw [hx1 x hx]; rfl) (fun i j hi hj => ?_) fun i j x y hx hy => ?_
  · have hj0 : j = 0 := by omega
    subst hj0
    have : i < vs.size := by omega
    rw [Array.getElem?_eq_getElem this]
    exact hK _ _ (by simp [this])
  · have hlt := (List.getElem?_eq_some_iff.1 hx).1
    have hv : vs[i]? = some vs[i] := Array.getElem?_eq_getElem (by omega)
    obtain ⟨e1, e2⟩ := h1 i x _ hx hv
    rw [e1] at hy
    cases j with
    | zero => simp at hy; subst hy; simpa [hv] using e2
    | succ j => simp at hy

theorem out_cvSB (st : St G w) {s d e : TypeId} (hs : P.underlying s = some .string) (hd : P.underlying d = some (.slice e)) (he : P.underlying e = some (.int .u8)) {v : Value} {l : List UInt8} (hv : Rl G v (.st l)) (hl : l.length ≤ 9223372036854775807) :
    Out P G w id (convert s d v) (.sl (l.map b8)) G.H none := by
  cases rl_st hv
  let cap := Question.cut (.appendCap l.length 0 e) (w.tape w.drawn (.appendCap l.length 0 e))
  have hcap : l.length ≤ cap := by simp [cap, Question.cut]
  let vs : Array Value := (l.map fun b => Value.int .u8 b.toNat).toArray ++ Array.replicate (cap - l.length) (.int .u8 0)
  have hsz : l.length ≤ vs.size := by simp [vs]
  let w1 := w.drew.alloc (.cells vs e)
  have hb1 : w1.heap[w.heap.size]? = some (.cells vs e (0, 0)) := heap_alloc_new w.drew _
  obtain ⟨fr', hf1, hf2, hf3⟩ := freeze_heap w1 w.heap.size vs.size vs e (0, 0) hb1
  let w2 := w1.freeze { block := w.heap.size, off := vs.size } 1
  have hun : ∀ g c', G.γ g ≠ some (w.heap.size, c') := fun g c' h => by have := st.lt _ _ _ h; omega
  have st1 : St G w1 := st.drew.alloc _
  have st2 : St G w2 := st1.world (fun b o u h => by
      have := st1.cell b o u h
      by_cases hb : b = w.heap.size
      · have := K_lt st h; omega
      · have e := hf2 b hb
        simp only [World.cell?] at this ⊢
        rw [e]; exact this) (fun g b c h => hf2 b fun e => by have := st.lt _ _ _ h; omega) (by rw [hf3]; exact Nat.le_refl _)
  have wf2 : Wf G w G w2 := by
    refine ⟨Ext.refl _, ?_, rfl, rfl, rfl, fun b hb _ => ?_, fun g b c h _ => ⟨g, c, h⟩, fun _ _ _ _ _ h => h⟩
    · show w.heap.size ≤ w2.heap.size
      rw [hf3]; simp [w1]
    · exact (hf2 b (by omega)).trans (Go.RowKit.Below.heap_alloc w.drew _ b hb)
  obtain ⟨x3, st3, wf3⟩ := pin st2 wf2 hf1 hun (.inl (Nat.le_refl _))
  refine ⟨.slice (some ⟨w.heap.size, 0, none⟩) l.length cap, w2, _, ?_, st3, wf3, rfl, ?_⟩
  · have hm := run_markStringish (P := P) (a := ⟨w.heap.size, 0, none⟩) hb1
    simp only [convert, Sem.run_bind, run_underlying hs, run_underlying hd, run_underlying he, Result.andThen_ok, Conv.stringToBytes]
    simp [Question.forced, newRow, size_mk]
    have hm' : (markStringish ⟨w.heap.size, 0, none⟩).run P (w.drew.alloc (.cells vs e)) = .ok () w2 := hm
    simp only [vs, cap] at hm'
    rw [hm']
    simp [cap]
  · refine rl_pinned (vs := vs) (fun o v hv => ?_) (by simp) hcap hsz fun i x v hx hv => ?_
    · simp only [pinK]
      rw [if_pos trivial, hv]
    · simp only [List.getElem?_map, Option.map_eq_some_iff] at hx
      obtain ⟨b, hb, rfl⟩ := hx
      have hlt := (List.getElem?_eq_some_iff.1 hb).1
      refine ⟨rfl, ?_⟩
      have : vs[i]? = some (.int .u8 b.toNat) := by
        simp only [vs]
        rw [Array.getElem?_append_left (by simpa using hlt)]
        simp [hb]
      rw [this] at hv
      injection hv with hv
      subst hv
      exact .it _ _

theorem out_cvMk (st : St G w) {s e : TypeId} (hs : P.underlying s = some (.slice e)) (he : P.underlying e = some (.int .u8)) {v : Value} {g n e' f : Nat} {xs : List AV} (hv : Rl G v (.row g n)) (hg : G.H[g]? = some (.row e' 1 xs f)) (hl : xs.length = n)
    (hnn : 0 < n) (h1 : xs.all isIt = true) : Out P G w id (convert s s v) (.sl xs) (G.H.set g .dead) none := by
  cases hv with
  | row _ _ A c lt hn hr =>
    rcases (hr _ _ _ _ hg).2.2 hl.symm with ⟨b, hγ, rfl⟩ | ⟨hγ, h00, rfl, rfl⟩
    · cases st.ent g b c _ hγ hg with
      | row _ _ _ _ vs h2 h3 h4 h5 h6 q1 q2 h7 =>
        obtain ⟨x1, st1, wf1⟩ := kill st hg (by simp)
        have hun : ∀ g' c', (updG G.γ g none) g' ≠ some (b, c') := fun g' c' h => by
          simp only [updG] at h
          split at h
          · cases h
          · rename_i hgg; exact hgg (st.inj _ _ _ _ _ h hγ)
        obtain ⟨fr', hf1, hf2, hf3⟩ := freeze_heap w b vs.size vs e' (0, 0) h2
        let w2 := w.freeze { block := b, off := vs.size } 1
        have st2 : St ⟨G.K, updG G.γ g none, G.H.set g .dead⟩ w2 := st1.world (fun b' o u h => by
            have := st1.cell b' o u h
            by_cases hb : b' = b
            · subst hb
              simp only [World.cell?, h2] at this
              simp only [World.cell?, w2, hf1]
              exact this
            · have e := hf2 b' hb
              simp only [World.cell?] at this ⊢
              rw [e]; exact this) (fun g' b' c' h => hf2 b' fun e => hun g' c' (e ▸ h)) (by rw [hf3]; exact Nat.le_refl _)
        have wf2 : Wf G w ⟨G.K, updG G.γ g none, G.H.set g .dead⟩ w2 :=
          ⟨x1, by rw [hf3]; exact Nat.le_refl _, rfl, rfl, rfl, fun b' hb hnb => hf2 b' fun e => hnb g c (e ▸ hγ), wf1.fresh, fun _ _ _ _ _ h => h⟩
        obtain ⟨x3, st3, wf3⟩ := pin st2 wf2 hf1 hun (.inr ⟨g, c, hγ⟩)
        refine ⟨.slice (some ⟨b, 0, none⟩) n c, w2, _, ?_, st3, wf3, rfl, ?_⟩
        · have hm := run_markStringish (P := P) (a := ⟨b, 0, none⟩) h2
          simp [convert, run_underlying hs, run_underlying he, hm, w2]
        · refine rl_pinned (vs := vs) (fun o v hv => ?_) hl (by omega) (by omega) fun i x v hx hv => ?_
          · simp only [pinK]
            rw [if_pos trivial, hv]
          · have hx1 := List.all_eq_true.1 h1 x (List.mem_of_getElem? hx)
            have hc1 : x.cells = [x] := by cases x <;> first | rfl | simp [isIt] at hx1
            refine ⟨hc1, ((h7 i 0 v x x hx (by rw [hc1]; rfl) (by simpa using hv)).mono x1).mono x3⟩
    · omega

/-! ### Values that are built -/
theorem run_fill (place : Nat → Option (Nat × Nat)) : ∀ (ps : List (Nat × Value)) (qs : List (Nat × Nat × AV)) (cells : Array Value) (z cs : List AV), cells.size = z.length →
    (∀ (j : Nat) (v : Value) (c : AV), cells[j]? = some v → z[j]? = some c → Rl G v c) → ps.length = qs.length →
    (∀ (j : Nat) (p : Nat × Value) (q : Nat × Nat × AV), ps[j]? = some p → qs[j]? = some q → place p.1 = some (q.1, q.2.1) ∧ Rl G p.2 q.2.2) →
    fillC z qs = some cs → ∃ out, Instr.fill place cells ps = some out ∧ out.size = cs.length ∧ ∀ (j : Nat) (v : Value) (c : AV), out[j]? = some v → cs[j]? = some c → Rl G v c
  | [], qs, cells, z, cs, hs, hc, hl, _, h => by
    have : qs = [] := List.eq_nil_of_length_eq_zero (by simpa using hl.symm)
    subst this
    simp only [fillC, Option.some.injEq] at h
    subst h
    exact ⟨cells, rfl, hs, hc⟩
  | p :: ps, qs, cells, z, cs, hs, hc, hl, hp, h => by
    cases qs with
    | nil => simp at hl
    | cons q qs =>
      obtain ⟨o, n, x⟩ := q
      simp only [fillC] at h
      split at h
      · rename_i hcond
        obtain ⟨hn, ho, hone⟩ := hcond
        obtain ⟨h1, h2⟩ := hp 0 p _ rfl rfl
        obtain ⟨i, v⟩ := p
        simp only at h1 h2
        obtain ⟨h3, h4'⟩ := rl_cells h2 hone
        have h4 := fun k u c hu hc => (h4' k u c hu hc).1
        have hfold : ∀ (us : List Value) (m : Nat) (acc : Array Value), o + m + us.length ≤ acc.size →
            ((us.zipIdx m).foldl (fun cs (p : Value × Nat) => cs.setIfInBounds (o + p.2) p.1) acc).size = acc.size ∧
            ∀ k, ((us.zipIdx m).foldl (fun cs (p : Value × Nat) => cs.setIfInBounds (o + p.2) p.1) acc)[k]? = if o + m ≤ k ∧ k < o + m + us.length then us[k - (o + m)]? else acc[k]? := by
          intro us
          induction us with
          | nil => intro m acc _; simp only [List.zipIdx_nil, List.foldl_nil, List.length_nil]; exact ⟨trivial, fun k => by rw [if_neg (by omega)]⟩
          | cons u us ih =>
            intro m acc hle
            simp only [List.length_cons] at hle
            simp only [List.zipIdx_cons, List.foldl_cons]
            obtain ⟨e1, e2⟩ := ih (m + 1) (acc.setIfInBounds (o + m) u) (by simp; omega)
            refine ⟨by rw [e1]; simp, fun k => ?_⟩
            rw [e2 k]
            by_cases hk : o + (m + 1) ≤ k ∧ k < o + (m + 1) + us.length
            · rw [if_pos hk, if_pos (by simp only [List.length_cons]; omega), show k - (o + m) = (k - (o + (m + 1))) + 1 by omega, List.getElem?_cons_succ]
            · rw [if_neg hk, Array.getElem?_setIfInBounds]
              by_cases hkm : o + m = k
              · subst hkm
                rw [if_pos rfl, if_pos (by omega), if_pos (by simp only [List.length_cons]; omega)]
                simp
              · rw [if_neg hkm, if_neg (by simp only [List.length_cons]; omega)]
        obtain ⟨f1, f2⟩ := hfold v.cells.toList 0 cells (by simp; omega)
        have hz : v.cells.zipIdx.foldl (fun cs (p : Value × Nat) => cs.setIfInBounds (o + p.2) p.1) cells = (v.cells.toList.zipIdx 0).foldl (fun cs (p : Value × Nat) => cs.setIfInBounds (o + p.2) p.1) cells := by
          rw [← Array.foldl_toList, Array.toList_zipIdx]
        have hsp : (splice z o x.cells).length = z.length := by unfold splice; exact splice_length _ _ _ (by omega)
        obtain ⟨out, k1, k2, k3⟩ := run_fill place ps qs (v.cells.zipIdx.foldl (fun cs (p : Value × Nat) => cs.setIfInBounds (o + p.2) p.1) cells) (splice z o x.cells) cs (by rw [hz, f1, hsp]; exact hs) (fun j u c hu hcc => by
            rw [hz, f2 j] at hu
            unfold splice at hcc
            rw [splice_get _ _ _ _ (by omega)] at hcc
            simp only [Nat.add_zero, Array.length_toList] at hu
            split at hu
            · rename_i hj
              rw [if_pos (by omega)] at hcc
              exact h4 _ u c (by simpa using hu) hcc
            · rename_i hj
              rw [if_neg (by omega)] at hcc
              exact hc j u c hu hcc) (by simpa using hl) (fun j p q hj hq => hp (j + 1) p q (by simpa using hj) (by simpa using hq)) h
        refine ⟨out, ?_, k2, k3⟩
        unfold Instr.fill
        rw [h1]
        simp only
        rw [if_neg (by simp; omega)]
        exact k1
      · cases h

theorem places_some : ∀ (fs : List Field), (∀ f ∈ fs, (P.info? f.type).isSome = true) → ∃ places : List (Nat × Nat), fs.mapM (fun f => (P.info? f.type).map fun i => (f.offset, i.size)) = some places ∧
    ∀ (k : Nat) (f : Field) (i : TypeInfo), fs[k]? = some f → P.info? f.type = some i → places[k]? = some (f.offset, i.size)
  | [], _ => ⟨[], by simp, fun k f i h => by simp at h⟩
  | f :: fs, h => by
    obtain ⟨i, hi⟩ := Option.isSome_iff_exists.1 (h f (by simp))
    obtain ⟨ps, h1, h2⟩ := places_some fs fun f hf => h f (by simp [hf])
    refine ⟨(f.offset, i.size) :: ps, by simp [List.mapM_cons, hi, h1], fun k f' i' hk hi' => ?_⟩
    cases k with
    | zero =>
      simp at hk
      subst hk
      rw [hi] at hi'
      injection hi' with hi'
      subst hi'
      rfl
    | succ k => exact h2 k f' i' (by simpa using hk) hi'

theorem out_build (st : St G w) {t : TypeId} {fs : Array Field} {z : List AV} (ht : P.underlying t = some (.struct fs)) (hz : zeroOf P t = some z) {parts : Array (Nat × Value)} {qs : List (Nat × Nat × AV)} {cs : List AV} (hl : parts.toList.length = qs.length)
    (hp : ∀ (j : Nat) (p : Nat × Value) (q : Nat × Nat × AV), parts.toList[j]? = some p → qs[j]? = some q → Rl G p.2 q.2.2 ∧ ∃ f i, fs[p.1]? = some f ∧ P.info? f.type = some i ∧ q.1 = f.offset ∧ q.2.1 = i.size)
    (hall : fs.toList.all (fun f => (P.info? f.type).isSome) = true) (h : fillC z qs = some cs) : Out P G w id (Instr.build t parts) (.ag cs) G.H none := by
  obtain ⟨i, v, hi, hv, hs, hzl, hr⟩ := zeroOf_inv hz
  obtain ⟨places, h1, h2⟩ := places_some (P := P) fs.toList fun f hf => List.all_eq_true.1 hall f hf
  obtain ⟨out, k1, k2, k3⟩ := run_fill (places.toArray[·]?) parts.toList qs v.cells z cs (by omega) (fun j u c hu hc => (hr G j u c hu hc).1) hl (fun j p q hpj hqj => by
    obtain ⟨r, f, i', e1, e2, e3, e4⟩ := hp j p q hpj hqj
    refine ⟨?_, r⟩
    have := h2 p.1 f i' (by simpa using e1) e2
    rw [e3, e4]
    simpa using this) h
  refine Out.quiet st (run_build w t parts out ?_) (.ag _ _ k2 k3)
  unfold Program.built
  simp only [hi, ht, hv, h1]
  exact k1

theorem fillC_row (sz : Nat) : ∀ (els : List AV) (k : Nat) (pre : List AV), pre.length = k * sz → (∀ x ∈ els, elemOk sz x = true) →
    fillC (pre ++ List.replicate (els.length * sz) .un) ((els.zipIdx k).map fun p => (p.2 * sz, sz, p.1)) = some (pre ++ els.flatMap AV.cells)
  | [], k, pre, hp, _ => by simp [fillC]
  | x :: els, k, pre, hp, h => by
    have hx := h x (by simp)
    simp only [elemOk, Bool.and_eq_true, decide_eq_true_eq] at hx
    simp only [List.zipIdx_cons, List.map_cons, fillC]
    rw [if_pos ⟨hx.1, by simp only [List.length_append, List.length_replicate, List.length_cons, Nat.add_mul]; omega, hx.2⟩]
    have hsp : splice (pre ++ List.replicate ((x :: els).length * sz) .un) (k * sz) x.cells = (pre ++ x.cells) ++ List.replicate (els.length * sz) .un := by
      unfold splice
      rw [← hp, List.take_left', List.drop_append, List.drop_eq_nil_of_le (by omega)]
      · simp only [List.nil_append, List.append_assoc, List.append_cancel_left_eq, List.drop_replicate, List.length_cons, Nat.add_mul]
        congr 1
        omega
      · rfl
    rw [hsp, fillC_row sz els (k + 1) (pre ++ x.cells) (by simp only [List.length_append, Nat.add_mul]; omega) fun y hy => h y (by simp [hy])]
    simp

theorem flat_get (sz : Nat) : ∀ (els : List AV), (∀ x ∈ els, x.cells.length = sz) → (els.flatMap AV.cells).length = els.length * sz ∧ ∀ (i j : Nat) (x y : AV), els[i]? = some x → x.cells[j]? = some y → (els.flatMap AV.cells)[i * sz + j]? = some y
  | [], _ => ⟨by simp, fun i j x y h => by simp at h⟩
  | x :: els, h => by
    obtain ⟨h1, h2⟩ := flat_get sz els fun y hy => h y (by simp [hy])
    have hx := h x (by simp)
    refine ⟨by simp only [List.flatMap_cons, List.length_append, List.length_cons, h1, Nat.add_mul]; omega, fun i j y z hy hz => ?_⟩
    cases i with
    | zero =>
      simp at hy
      subst hy
      have := (List.getElem?_eq_some_iff.1 hz).1
      rw [List.flatMap_cons, Nat.zero_mul, Nat.zero_add, List.getElem?_append_left (by omega)]
      exact hz
    | succ i =>
      have := h2 i j y z (by simpa using hy) hz
      rw [List.flatMap_cons, List.getElem?_append_right (by rw [Nat.add_mul]; omega), ← this]
      congr 1
      rw [Nat.add_mul]
      omega

theorem out_mks (st : St G w) (hid : G.H[id]? = some .res) {t e : TypeId} {i : TypeInfo} {z : List AV} {n : Nat} (ht : P.underlying t = some (.slice e)) (hi : P.info? e = some i) (hz : zeroOf P e = some z) (hsz : 0 < i.size) (hn : n * i.size ≤ 1000)
    {parts : Array (Nat × Value)} {els : List AV} (hl : parts.toList.length = els.length) (hix : ∀ (j : Nat) (p : Nat × Value), parts.toList[j]? = some p → p.1 = j) (hel : els.length = n)
    (hp : ∀ (j : Nat) (p : Nat × Value) (x : AV), parts.toList[j]? = some p → els[j]? = some x → Rl G p.2 x) (hok : els.all (elemOk i.size) = true) :
    Out P G w id (Instr.buildSlice t n parts) (.row id n) G.H (some (.row e i.size els 0)) := by
  have hltid : id < G.H.length := (List.getElem?_eq_some_iff.1 hid).1
  obtain ⟨i', v, hi', hv, hs, hzl, hr⟩ := zeroOf_inv hz
  rw [hi] at hi'
  injection hi' with hi'
  subst hi'
  have hlen := elemOk_len hok
  have hfl := flat_get i.size els hlen
  have hfc := fillC_row i.size els 0 [] (by simp) (fun x hx => List.all_eq_true.1 hok x hx)
  simp only [List.nil_append] at hfc
  have hz0 : ∃ zs : Array Value, zs.size = n * i.size ∧ (Instr.buildSlice t n parts).run P w = (match Instr.fill (fun k => some (k * i.size, i.size)) zs parts.toList with
      | some cells => .ok (.slice (some ⟨w.heap.size, 0, none⟩) n n) (w.alloc (.cells cells e))
      | none => (Instr.buildSlice t n parts).run P w) := by
    by_cases hpos : n * i.size = 0
    · refine ⟨#[], by simp [hpos], ?_⟩
      split
      · rename_i cells hf
        have hsmall : ¬ n * i.size > 2 ^ 24 := by omega
        have hr0 : Array.range 0 = #[] := rfl
        simp [Instr.buildSlice, run_underlying ht, sizeOf, typeInfo, zeroValue, hi, hpos, hr0, hf, newRow]
      · rfl
    · refine ⟨(Array.range (n * i.size)).map (v.cells[· % v.cells.size]!), by simp, ?_⟩
      split
      · rename_i cells hf
        exact run_buildSlice w t e n parts cells i v ht hi hv (by omega) hpos hf
      · rfl
  obtain ⟨zs, hzs, hrun⟩ := hz0
  obtain ⟨out, k1, k2, k3⟩ := run_fill (G := G) (fun k => some (k * i.size, i.size)) parts.toList ((els.zipIdx 0).map fun p => (p.2 * i.size, i.size, p.1)) zs (List.replicate (els.length * i.size) .un) (els.flatMap AV.cells)
    (by simp [hzs, hel]) (fun j u c _ hc => by
      have := List.mem_of_getElem? hc
      rw [List.mem_replicate] at this
      rw [this.2]
      exact .un _) (by simp [hl]) (fun j p q hpj hqj => by
      simp only [List.getElem?_map, List.getElem?_zipIdx, Option.map_map, Option.map_eq_some_iff] at hqj
      obtain ⟨x, hx, rfl⟩ := hqj
      simp only [Function.comp_apply, Nat.zero_add]
      exact ⟨by rw [hix j p hpj], hp j p x hpj hx⟩) hfc
  rw [k1] at hrun
  refine Out.of hrun (new_entry (c := n) (e := .row e i.size els 0) st hid (by simp) fun G' x' => ?_) rfl ?_
  · refine .row _ _ _ _ _ (heap_alloc_new w _) (by rw [k2, hfl.1, hel]) (by omega) ?_ hlen (Nat.zero_le _) (fun o ho => by simp at ho) fun i2 j u x a hx ha hu => ?_
    · have : n * 1 ≤ n * i.size := Nat.mul_le_mul_left _ (by omega)
      omega
    · exact (k3 _ u a hu (hfl.2 i2 j x a hx ha)).mono x'
  · exact rl_new_row (e := e) (sz := i.size) (xs := els) (f := 0) (by simp [List.getElem?_set, hltid]) hel (Nat.zero_le _) (by simp)
end
end Go.Am
