/- Contracts of functions of the program, each proved by walking through its body in the small language; no condition. -/
import Derived.Test.YtomepdfmjlcehaaAmGPlain
import Derived.Test.YtomepdfmjlcehaaAmTop
set_option maxRecDepth 100000
set_option linter.all false
namespace Go.Am.S
open Go Go.Am Go.Am.Plain
def glS : Nat → AV := fun _ => .un
theorem glB : ∀ n, Bel 0 (glS n) := fun _ => .un
theorem showBytes_con (b : List UInt8) (k f t : Int) (tx : List UInt8) (H : List Ent) :
    Con Go.Proofs.Try.prog glS 6 [.sl (b.map b8), .ag [.it .i64 k, .it .i64 f, .it .i64 t, .st tx, .nl, .nl]] H
      (.st (if f < 0 ∨ t < f ∨ (b.length : Int) < t then [] else (b.take t.toNat).drop f.toNat)) H := by
  refine ok6.all mixed glB (Nat.le_of_ble_eq_true rfl) (by repeat' (first | exact belA_nil | refine belA_cons ?_ ?_ | exact .bo _ | exact .it _ _ | exact .st _ | exact bel_b8s _ | exact bel_sl0 | exact bel_sts _ | exact .nl | exact .sc _ | refine .ag _ ?_ | refine .tp _ ?_)) (by repeat' (first | exact belA_nil | refine belA_cons ?_ ?_ | exact .bo _ | exact .it _ _ | exact .st _ | exact bel_b8s _ | exact bel_sl0 | exact bel_sts _ | exact .nl | exact .sc _ | refine .ag _ ?_ | refine .tp _ ?_)) (fun Q hn hr => ?_) H
  dsimp only [fn6, ir6]
  repeat' (first
    | ((with_reducible refine evOps_cons fun K hK => ?_)
       simp only [go_sem, reduceIte, Nat.reduceEqDiff, Nat.reduceAdd, Nat.reduceSub, Nat.reduceMul, Nat.reduceLT, Nat.reduceLeDiff, Int.reduceToNat, Int.reduceAdd, Int.reduceSub, Int.reduceNeg, Int.reduceLT, Int.reduceLE, Int.reduceEq, Int.reduceMul, reduceCtorEq]
       try simp (disch := omega) only [wrap_i64, wrap_i32, wrap_u8, wrap_u64]
       first
         | ((with_reducible refine hK _ _ ?_); clear hK K)
         | ((with_reducible refine goIx_get (by omega) (by omega) (fun b hb => ?_)); simp only [go_sem, reduceIte, Nat.reduceEqDiff, Nat.reduceAdd, Nat.reduceSub, Nat.reduceMul, Nat.reduceLT, Nat.reduceLeDiff, Int.reduceToNat, Int.reduceAdd, Int.reduceSub, Int.reduceNeg, Int.reduceLT, Int.reduceLE, Int.reduceEq, Int.reduceMul, reduceCtorEq]; (with_reducible refine hK _ _ ?_); clear hK K)
         | ((repeat (with_reducible refine And.intro (by first | omega | (simp only [go_sem, reduceIte, Nat.reduceEqDiff, Nat.reduceAdd, Nat.reduceSub, Nat.reduceMul, Nat.reduceLT, Nat.reduceLeDiff, Int.reduceToNat, Int.reduceAdd, Int.reduceSub, Int.reduceNeg, Int.reduceLT, Int.reduceLE, Int.reduceEq, Int.reduceMul, reduceCtorEq]; done)) ?_)); (with_reducible refine hK _ _ ?_); clear hK K)
         | ((with_reducible first | refine evGd_dt _ (fun hc => ?_) (fun hc => ?_) | refine evGd_df _ (fun hc => ?_) (fun hc => ?_) | refine evGd_bt _ (fun hc => ?_) (fun hc => ?_) | refine evGd_bf _ (fun hc => ?_) (fun hc => ?_)) <;>
            (simp only [hc, go_sem, reduceIte, Nat.reduceEqDiff, Nat.reduceAdd, Nat.reduceSub, Nat.reduceMul, Nat.reduceLT, Nat.reduceLeDiff, Int.reduceToNat, Int.reduceAdd, Int.reduceSub, Int.reduceNeg, Int.reduceLT, Int.reduceLE, Int.reduceEq, Int.reduceMul, reduceCtorEq]
             try simp (disch := omega) only [wrap_i64, wrap_i32, wrap_u8, wrap_u64]
             first
               | ((with_reducible refine hK _ _ ?_); clear hK K)
               | ((with_reducible refine goIx_get (by omega) (by omega) (fun b hb => ?_)); simp only [go_sem, reduceIte, Nat.reduceEqDiff, Nat.reduceAdd, Nat.reduceSub, Nat.reduceMul, Nat.reduceLT, Nat.reduceLeDiff, Int.reduceToNat, Int.reduceAdd, Int.reduceSub, Int.reduceNeg, Int.reduceLT, Int.reduceLE, Int.reduceEq, Int.reduceMul, reduceCtorEq]; (with_reducible refine hK _ _ ?_); clear hK K)
               | ((repeat (with_reducible refine And.intro (by first | omega | (simp only [go_sem, reduceIte, Nat.reduceEqDiff, Nat.reduceAdd, Nat.reduceSub, Nat.reduceMul, Nat.reduceLT, Nat.reduceLeDiff, Int.reduceToNat, Int.reduceAdd, Int.reduceSub, Int.reduceNeg, Int.reduceLT, Int.reduceLE, Int.reduceEq, Int.reduceMul, reduceCtorEq]; done)) ?_)); (with_reducible refine hK _ _ ?_); clear hK K))))
    | ((with_reducible refine evD_op fun K hK => ?_)
       simp only [go_sem, reduceIte, Nat.reduceEqDiff, Nat.reduceAdd, Nat.reduceSub, Nat.reduceMul, Nat.reduceLT, Nat.reduceLeDiff, Int.reduceToNat, Int.reduceAdd, Int.reduceSub, Int.reduceNeg, Int.reduceLT, Int.reduceLE, Int.reduceEq, Int.reduceMul, reduceCtorEq]
       try simp (disch := omega) only [wrap_i64, wrap_i32, wrap_u8, wrap_u64]
       first
         | ((with_reducible refine hK _ _ ?_); clear hK K)
         | ((with_reducible refine goIx_get (by omega) (by omega) (fun b hb => ?_)); simp only [go_sem, reduceIte, Nat.reduceEqDiff, Nat.reduceAdd, Nat.reduceSub, Nat.reduceMul, Nat.reduceLT, Nat.reduceLeDiff, Int.reduceToNat, Int.reduceAdd, Int.reduceSub, Int.reduceNeg, Int.reduceLT, Int.reduceLE, Int.reduceEq, Int.reduceMul, reduceCtorEq]; (with_reducible refine hK _ _ ?_); clear hK K)
         | ((repeat (with_reducible refine And.intro (by first | omega | (simp only [go_sem, reduceIte, Nat.reduceEqDiff, Nat.reduceAdd, Nat.reduceSub, Nat.reduceMul, Nat.reduceLT, Nat.reduceLeDiff, Int.reduceToNat, Int.reduceAdd, Int.reduceSub, Int.reduceNeg, Int.reduceLT, Int.reduceLE, Int.reduceEq, Int.reduceMul, reduceCtorEq]; done)) ?_)); (with_reducible refine hK _ _ ?_); clear hK K)
         | ((with_reducible first | refine evGd_dt _ (fun hc => ?_) (fun hc => ?_) | refine evGd_df _ (fun hc => ?_) (fun hc => ?_) | refine evGd_bt _ (fun hc => ?_) (fun hc => ?_) | refine evGd_bf _ (fun hc => ?_) (fun hc => ?_)) <;>
            (simp only [hc, go_sem, reduceIte, Nat.reduceEqDiff, Nat.reduceAdd, Nat.reduceSub, Nat.reduceMul, Nat.reduceLT, Nat.reduceLeDiff, Int.reduceToNat, Int.reduceAdd, Int.reduceSub, Int.reduceNeg, Int.reduceLT, Int.reduceLE, Int.reduceEq, Int.reduceMul, reduceCtorEq]
             try simp (disch := omega) only [wrap_i64, wrap_i32, wrap_u8, wrap_u64]
             first
               | ((with_reducible refine hK _ _ ?_); clear hK K)
               | ((with_reducible refine goIx_get (by omega) (by omega) (fun b hb => ?_)); simp only [go_sem, reduceIte, Nat.reduceEqDiff, Nat.reduceAdd, Nat.reduceSub, Nat.reduceMul, Nat.reduceLT, Nat.reduceLeDiff, Int.reduceToNat, Int.reduceAdd, Int.reduceSub, Int.reduceNeg, Int.reduceLT, Int.reduceLE, Int.reduceEq, Int.reduceMul, reduceCtorEq]; (with_reducible refine hK _ _ ?_); clear hK K)
               | ((repeat (with_reducible refine And.intro (by first | omega | (simp only [go_sem, reduceIte, Nat.reduceEqDiff, Nat.reduceAdd, Nat.reduceSub, Nat.reduceMul, Nat.reduceLT, Nat.reduceLeDiff, Int.reduceToNat, Int.reduceAdd, Int.reduceSub, Int.reduceNeg, Int.reduceLT, Int.reduceLE, Int.reduceEq, Int.reduceMul, reduceCtorEq]; done)) ?_)); (with_reducible refine hK _ _ ?_); clear hK K))))
    | ((with_reducible refine evOps_nil ?_)
       with_reducible refine hK _ _ ?_
       clear hK K
       simp only [go_sem, reduceIte, Nat.reduceEqDiff, Nat.reduceAdd, Nat.reduceSub, Nat.reduceMul, Nat.reduceLT, Nat.reduceLeDiff, Int.reduceToNat, Int.reduceAdd, Int.reduceSub, Int.reduceNeg, Int.reduceLT, Int.reduceLE, Int.reduceEq, Int.reduceMul, reduceCtorEq]
       refine hn _ _ ?_
       clear hn he hr Q)
    | ((with_reducible refine evD_dn ?_)
       with_reducible refine hK _ _ ?_
       clear hK K
       simp only [go_sem, reduceIte, Nat.reduceEqDiff, Nat.reduceAdd, Nat.reduceSub, Nat.reduceMul, Nat.reduceLT, Nat.reduceLeDiff, Int.reduceToNat, Int.reduceAdd, Int.reduceSub, Int.reduceNeg, Int.reduceLT, Int.reduceLE, Int.reduceEq, Int.reduceMul, reduceCtorEq]
       refine hn _ _ ?_
       clear hn he hr Q)
    | with_reducible refine ev_sq fun Q hn he hr => ?_
    | with_reducible refine ev_rg fun K hK => ?_
    | with_reducible refine ev_dr fun K hK => ?_
    | ((with_reducible refine ev_cd' (by simp only [go_sem, reduceIte, Nat.reduceEqDiff, Nat.reduceAdd, Nat.reduceSub, Nat.reduceMul, Nat.reduceLT, Nat.reduceLeDiff, Int.reduceToNat, Int.reduceAdd, Int.reduceSub, Int.reduceNeg, Int.reduceLT, Int.reduceLE, Int.reduceEq, Int.reduceMul, reduceCtorEq]; rfl) ?_)
       with_reducible first | refine evC_t ?_ | refine evC_f ?_ | (refine evC_d (fun hc => ?_) (fun hc => ?_)) | (refine evC_nd (fun hc => ?_) (fun hc => ?_)) | (refine evC_n (fun hc => ?_) (fun hc => ?_)) | (refine evC_b (fun hc => ?_) (fun hc => ?_)))
    | ((with_reducible refine ev_sk ?_); refine hn _ _ ?_; clear hn he hr Q)
    | ((with_reducible refine ev_rt ?_); repeat ((with_reducible refine hr _ _ ?_); clear hn he hr Q)))
  all_goals (with_reducible refine hr _ _ (end_same ?_)); simp only [go_sem, fn6, reduceIte, Nat.reduceEqDiff, Nat.reduceAdd, Nat.reduceSub, Nat.reduceMul, Nat.reduceLT, Nat.reduceLeDiff, Int.reduceToNat, Int.reduceAdd, Int.reduceSub, Int.reduceNeg, Int.reduceLT, Int.reduceLE, Int.reduceEq, Int.reduceMul, reduceCtorEq, Option.some.injEq, AV.bo.injEq, AV.it.injEq, AV.st.injEq, AV.tp.injEq, AV.sl.injEq, AV.ag.injEq, List.cons.injEq]
  all_goals simp [*]
def tabS : Tab := ⟨table, [], []⟩
theorem tab_ok : TabOk Go.Proofs.Try.prog glS tabS := ⟨mixed, fun _ => .un, table_ok, (fun f e h => by cases h), (fun f e h => by cases h)⟩
theorem alive_run : (rn glS tabS 100 30).2 5 [] = some (.bo true) := by kernel_rfl
theorem alive_con (H : List Ent) : Con Go.Proofs.Try.prog glS 5 [] H (.bo true) H := (rn_ok tab_ok 30).2 5 [] _ alive_run H
theorem ShowBytes_con (b : List UInt8) (f t : Int) (H : List Ent) :
    Con Go.Proofs.Try.prog glS 3 [.sl (b.map b8), .it .i64 f, .it .i64 t] H (.bo true) H := by
  refine ok3.all mixed glB (Nat.le_of_ble_eq_true rfl) (by repeat' (first | exact belA_nil | refine belA_cons ?_ ?_ | exact .bo _ | exact .it _ _ | exact .st _ | exact bel_b8s _ | exact bel_sl0 | exact bel_sts _ | exact .nl | exact .sc _ | refine .ag _ ?_ | refine .tp _ ?_)) (by repeat' (first | exact belA_nil | refine belA_cons ?_ ?_ | exact .bo _ | exact .it _ _ | exact .st _ | exact bel_b8s _ | exact bel_sl0 | exact bel_sts _ | exact .nl | exact .sc _ | refine .ag _ ?_ | refine .tp _ ?_)) (fun Q hn hr => ?_) H
  dsimp only [fn3, ir3]
  repeat' (first
    | ((with_reducible refine evOps_cons fun K hK => ?_)
       simp only [go_sem, reduceIte, Nat.reduceEqDiff, Nat.reduceAdd, Nat.reduceSub, Nat.reduceMul, Nat.reduceLT, Nat.reduceLeDiff, Int.reduceToNat, Int.reduceAdd, Int.reduceSub, Int.reduceNeg, Int.reduceLT, Int.reduceLE, Int.reduceEq, Int.reduceMul, reduceCtorEq]
       try simp (disch := omega) only [wrap_i64, wrap_i32, wrap_u8, wrap_u64]
       first
         | ((with_reducible refine hK _ _ ?_); clear hK K)
         | ((with_reducible first | refine evCall_pure (fun H => alive_con H) ?_ | refine evCallR_pure (fun H => alive_con H) ?_ | refine evCallQ_pure (fun H => alive_con H) ?_); (refine hK _ _ ?_); clear hK K)
         | ((with_reducible first | refine evCall_pure (fun H => showBytes_con _ _ _ _ _ H) ?_ | refine evCallR_pure (fun H => showBytes_con _ _ _ _ _ H) ?_ | refine evCallQ_pure (fun H => showBytes_con _ _ _ _ _ H) ?_); (refine hK _ _ ?_); clear hK K)
         | ((with_reducible refine goIx_get (by omega) (by omega) (fun b hb => ?_)); simp only [go_sem, reduceIte, Nat.reduceEqDiff, Nat.reduceAdd, Nat.reduceSub, Nat.reduceMul, Nat.reduceLT, Nat.reduceLeDiff, Int.reduceToNat, Int.reduceAdd, Int.reduceSub, Int.reduceNeg, Int.reduceLT, Int.reduceLE, Int.reduceEq, Int.reduceMul, reduceCtorEq]; (with_reducible refine hK _ _ ?_); clear hK K)
         | ((repeat (with_reducible refine And.intro (by first | omega | (simp only [go_sem, reduceIte, Nat.reduceEqDiff, Nat.reduceAdd, Nat.reduceSub, Nat.reduceMul, Nat.reduceLT, Nat.reduceLeDiff, Int.reduceToNat, Int.reduceAdd, Int.reduceSub, Int.reduceNeg, Int.reduceLT, Int.reduceLE, Int.reduceEq, Int.reduceMul, reduceCtorEq]; done)) ?_)); (with_reducible refine hK _ _ ?_); clear hK K)
         | ((with_reducible first | refine evGd_dt _ (fun hc => ?_) (fun hc => ?_) | refine evGd_df _ (fun hc => ?_) (fun hc => ?_) | refine evGd_bt _ (fun hc => ?_) (fun hc => ?_) | refine evGd_bf _ (fun hc => ?_) (fun hc => ?_)) <;>
            (simp only [hc, go_sem, reduceIte, Nat.reduceEqDiff, Nat.reduceAdd, Nat.reduceSub, Nat.reduceMul, Nat.reduceLT, Nat.reduceLeDiff, Int.reduceToNat, Int.reduceAdd, Int.reduceSub, Int.reduceNeg, Int.reduceLT, Int.reduceLE, Int.reduceEq, Int.reduceMul, reduceCtorEq]
             try simp (disch := omega) only [wrap_i64, wrap_i32, wrap_u8, wrap_u64]
             first
               | ((with_reducible refine hK _ _ ?_); clear hK K)
               | ((with_reducible first | refine evCall_pure (fun H => alive_con H) ?_ | refine evCallR_pure (fun H => alive_con H) ?_ | refine evCallQ_pure (fun H => alive_con H) ?_); (refine hK _ _ ?_); clear hK K)
               | ((with_reducible first | refine evCall_pure (fun H => showBytes_con _ _ _ _ _ H) ?_ | refine evCallR_pure (fun H => showBytes_con _ _ _ _ _ H) ?_ | refine evCallQ_pure (fun H => showBytes_con _ _ _ _ _ H) ?_); (refine hK _ _ ?_); clear hK K)
               | ((with_reducible refine goIx_get (by omega) (by omega) (fun b hb => ?_)); simp only [go_sem, reduceIte, Nat.reduceEqDiff, Nat.reduceAdd, Nat.reduceSub, Nat.reduceMul, Nat.reduceLT, Nat.reduceLeDiff, Int.reduceToNat, Int.reduceAdd, Int.reduceSub, Int.reduceNeg, Int.reduceLT, Int.reduceLE, Int.reduceEq, Int.reduceMul, reduceCtorEq]; (with_reducible refine hK _ _ ?_); clear hK K)
               | ((repeat (with_reducible refine And.intro (by first | omega | (simp only [go_sem, reduceIte, Nat.reduceEqDiff, Nat.reduceAdd, Nat.reduceSub, Nat.reduceMul, Nat.reduceLT, Nat.reduceLeDiff, Int.reduceToNat, Int.reduceAdd, Int.reduceSub, Int.reduceNeg, Int.reduceLT, Int.reduceLE, Int.reduceEq, Int.reduceMul, reduceCtorEq]; done)) ?_)); (with_reducible refine hK _ _ ?_); clear hK K))))
    | ((with_reducible refine evD_op fun K hK => ?_)
       simp only [go_sem, reduceIte, Nat.reduceEqDiff, Nat.reduceAdd, Nat.reduceSub, Nat.reduceMul, Nat.reduceLT, Nat.reduceLeDiff, Int.reduceToNat, Int.reduceAdd, Int.reduceSub, Int.reduceNeg, Int.reduceLT, Int.reduceLE, Int.reduceEq, Int.reduceMul, reduceCtorEq]
       try simp (disch := omega) only [wrap_i64, wrap_i32, wrap_u8, wrap_u64]
       first
         | ((with_reducible refine hK _ _ ?_); clear hK K)
         | ((with_reducible first | refine evCall_pure (fun H => alive_con H) ?_ | refine evCallR_pure (fun H => alive_con H) ?_ | refine evCallQ_pure (fun H => alive_con H) ?_); (refine hK _ _ ?_); clear hK K)
         | ((with_reducible first | refine evCall_pure (fun H => showBytes_con _ _ _ _ _ H) ?_ | refine evCallR_pure (fun H => showBytes_con _ _ _ _ _ H) ?_ | refine evCallQ_pure (fun H => showBytes_con _ _ _ _ _ H) ?_); (refine hK _ _ ?_); clear hK K)
         | ((with_reducible refine goIx_get (by omega) (by omega) (fun b hb => ?_)); simp only [go_sem, reduceIte, Nat.reduceEqDiff, Nat.reduceAdd, Nat.reduceSub, Nat.reduceMul, Nat.reduceLT, Nat.reduceLeDiff, Int.reduceToNat, Int.reduceAdd, Int.reduceSub, Int.reduceNeg, Int.reduceLT, Int.reduceLE, Int.reduceEq, Int.reduceMul, reduceCtorEq]; (with_reducible refine hK _ _ ?_); clear hK K)
         | ((repeat (with_reducible refine And.intro (by first | omega | (simp only [go_sem, reduceIte, Nat.reduceEqDiff, Nat.reduceAdd, Nat.reduceSub, Nat.reduceMul, Nat.reduceLT, Nat.reduceLeDiff, Int.reduceToNat, Int.reduceAdd, Int.reduceSub, Int.reduceNeg, Int.reduceLT, Int.reduceLE, Int.reduceEq, Int.reduceMul, reduceCtorEq]; done)) ?_)); (with_reducible refine hK _ _ ?_); clear hK K)
         | ((with_reducible first | refine evGd_dt _ (fun hc => ?_) (fun hc => ?_) | refine evGd_df _ (fun hc => ?_) (fun hc => ?_) | refine evGd_bt _ (fun hc => ?_) (fun hc => ?_) | refine evGd_bf _ (fun hc => ?_) (fun hc => ?_)) <;>
            (simp only [hc, go_sem, reduceIte, Nat.reduceEqDiff, Nat.reduceAdd, Nat.reduceSub, Nat.reduceMul, Nat.reduceLT, Nat.reduceLeDiff, Int.reduceToNat, Int.reduceAdd, Int.reduceSub, Int.reduceNeg, Int.reduceLT, Int.reduceLE, Int.reduceEq, Int.reduceMul, reduceCtorEq]
             try simp (disch := omega) only [wrap_i64, wrap_i32, wrap_u8, wrap_u64]
             first
               | ((with_reducible refine hK _ _ ?_); clear hK K)
               | ((with_reducible first | refine evCall_pure (fun H => alive_con H) ?_ | refine evCallR_pure (fun H => alive_con H) ?_ | refine evCallQ_pure (fun H => alive_con H) ?_); (refine hK _ _ ?_); clear hK K)
               | ((with_reducible first | refine evCall_pure (fun H => showBytes_con _ _ _ _ _ H) ?_ | refine evCallR_pure (fun H => showBytes_con _ _ _ _ _ H) ?_ | refine evCallQ_pure (fun H => showBytes_con _ _ _ _ _ H) ?_); (refine hK _ _ ?_); clear hK K)
               | ((with_reducible refine goIx_get (by omega) (by omega) (fun b hb => ?_)); simp only [go_sem, reduceIte, Nat.reduceEqDiff, Nat.reduceAdd, Nat.reduceSub, Nat.reduceMul, Nat.reduceLT, Nat.reduceLeDiff, Int.reduceToNat, Int.reduceAdd, Int.reduceSub, Int.reduceNeg, Int.reduceLT, Int.reduceLE, Int.reduceEq, Int.reduceMul, reduceCtorEq]; (with_reducible refine hK _ _ ?_); clear hK K)
               | ((repeat (with_reducible refine And.intro (by first | omega | (simp only [go_sem, reduceIte, Nat.reduceEqDiff, Nat.reduceAdd, Nat.reduceSub, Nat.reduceMul, Nat.reduceLT, Nat.reduceLeDiff, Int.reduceToNat, Int.reduceAdd, Int.reduceSub, Int.reduceNeg, Int.reduceLT, Int.reduceLE, Int.reduceEq, Int.reduceMul, reduceCtorEq]; done)) ?_)); (with_reducible refine hK _ _ ?_); clear hK K))))
    | ((with_reducible refine evOps_nil ?_)
       with_reducible refine hK _ _ ?_
       clear hK K
       simp only [go_sem, reduceIte, Nat.reduceEqDiff, Nat.reduceAdd, Nat.reduceSub, Nat.reduceMul, Nat.reduceLT, Nat.reduceLeDiff, Int.reduceToNat, Int.reduceAdd, Int.reduceSub, Int.reduceNeg, Int.reduceLT, Int.reduceLE, Int.reduceEq, Int.reduceMul, reduceCtorEq]
       refine hn _ _ ?_
       clear hn he hr Q)
    | ((with_reducible refine evD_dn ?_)
       with_reducible refine hK _ _ ?_
       clear hK K
       simp only [go_sem, reduceIte, Nat.reduceEqDiff, Nat.reduceAdd, Nat.reduceSub, Nat.reduceMul, Nat.reduceLT, Nat.reduceLeDiff, Int.reduceToNat, Int.reduceAdd, Int.reduceSub, Int.reduceNeg, Int.reduceLT, Int.reduceLE, Int.reduceEq, Int.reduceMul, reduceCtorEq]
       refine hn _ _ ?_
       clear hn he hr Q)
    | with_reducible refine ev_sq fun Q hn he hr => ?_
    | with_reducible refine ev_rg fun K hK => ?_
    | with_reducible refine ev_dr fun K hK => ?_
    | ((with_reducible refine ev_cd' (by simp only [go_sem, reduceIte, Nat.reduceEqDiff, Nat.reduceAdd, Nat.reduceSub, Nat.reduceMul, Nat.reduceLT, Nat.reduceLeDiff, Int.reduceToNat, Int.reduceAdd, Int.reduceSub, Int.reduceNeg, Int.reduceLT, Int.reduceLE, Int.reduceEq, Int.reduceMul, reduceCtorEq]; rfl) ?_)
       with_reducible first | refine evC_t ?_ | refine evC_f ?_ | (refine evC_d (fun hc => ?_) (fun hc => ?_)) | (refine evC_nd (fun hc => ?_) (fun hc => ?_)) | (refine evC_n (fun hc => ?_) (fun hc => ?_)) | (refine evC_b (fun hc => ?_) (fun hc => ?_)))
    | ((with_reducible refine ev_sk ?_); refine hn _ _ ?_; clear hn he hr Q)
    | ((with_reducible refine ev_rt ?_); repeat ((with_reducible refine hr _ _ ?_); clear hn he hr Q)))
  all_goals (with_reducible refine hr _ _ (end_same ?_)); simp only [go_sem, fn3, reduceIte, Nat.reduceEqDiff, Nat.reduceAdd, Nat.reduceSub, Nat.reduceMul, Nat.reduceLT, Nat.reduceLeDiff, Int.reduceToNat, Int.reduceAdd, Int.reduceSub, Int.reduceNeg, Int.reduceLT, Int.reduceLE, Int.reduceEq, Int.reduceMul, reduceCtorEq, Option.some.injEq, AV.bo.injEq, AV.it.injEq, AV.st.injEq, AV.tp.injEq, AV.sl.injEq, AV.ag.injEq, List.cons.injEq]
  all_goals first | rfl | (have h : ¬ (f < 0 ∨ t < f ∨ (b.length : Int) < t) := by omega
                           rw [if_neg h]; simp) | simp [*]
theorem glOk (w : World) : GlOk (snap w) glS := fun _ => .un _
end Go.Am.S

