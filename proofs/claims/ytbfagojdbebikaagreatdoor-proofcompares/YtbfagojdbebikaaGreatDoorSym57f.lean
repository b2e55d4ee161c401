/- Layer 57: ProofCompares, by the evaluator's rules. -/
import Derived.Test.YtbfagojdbebikaaGreatDoorSym57e
import Derived.Test.YtbfagojdbebikaaGreatDoorVex28
set_option linter.unusedSimpArgs false
set_option linter.unusedVariables false
namespace Go.Proofs.YtbfagojdbebikaaGreatDoor
open Go Go.Vex Go.RowKit

theorem agg40 : isAggV Tryz.prog 40 = some true := by kernel_rfl
theorem size40 : sizeV Tryz.prog 40 = some 6 := by kernel_rfl

def claimV (k q n : Int) (A B F : V) : V := .agg [.int .i64 k, .int .i64 q, .int .i64 n, A, B, F]

theorem eqb {cx cy : Bool} {a b : Bool} : binV Tryz.prog .eql 4 cx cy (.bool a) (.bool b) = some (.bool (a == b)) := by
  simp only [binV, binV.eqV, Tryz.underlying4, Option.map_some]

theorem load40 {s : St} {l : Nat} {k q n : Int} {A B F : V} (h : s.h.get l = some (.cells [.int .i64 k, .int .i64 q, .int .i64 n, A, B, F] 40 .exact)) : loadV Tryz.prog 40 l 0 s = some (claimV k q n A B F) := by
  simp only [loadV, h, partV, agg40, size40, Option.bind_some]
  rfl

theorem goes5 {st : St} {k1 q1 n1 k2 q2 n2 : Int} {A1 B1 F1 A2 B2 F2 : V} {la1 lb1 lf1 la2 lb2 lf2 : List Int}
    (ra1 : Row .i64 st A1 la1) (ra2 : Row .i64 st A2 la2) (rb1 : Row .i64 st B1 lb1) (rb2 : Row .i64 st B2 lb2) (rf1 : Row .i64 st F1 lf1) (rf2 : Row .i64 st F2 lf2)
    (za : la1.length < 2 ^ 62) (zb : lb1.length < 2 ^ 62) (zf : lf1.length < 2 ^ 62) :
    ∃ st', Goes Tryz.prog Xk 8 (.call 5 [claimV k1 q1 n1 A1 B1 F1, claimV k2 q2 n2 A2 B2 F2]) st (.val (.bool true) st') := by
  let o1 : HObj := .cells [.int .i64 k1, .int .i64 q1, .int .i64 n1, A1, B1, F1] 40 .exact
  let o2 : HObj := .cells [.int .i64 k2, .int .i64 q2, .int .i64 n2, A2, B2, F2] 40 .exact
  have g2 : ((st.new o1).2.new o2).2.h.get st.n = some o1 := by simp [St.new, T.get_put]
  have g3 : ((st.new o1).2.new o2).2.h.get (st.n + 1) = some o2 := by simp [St.new, T.get_put]
  have hn2 : ((st.new o1).2.new o2).2.n = st.n + 2 := rfl
  have ks : Keeps st ((st.new o1).2.new o2).2 := ⟨by simp [St.new]; omega, fun l hl => by simp only [St.new, T.get_put]; rw [if_neg (by omega), if_neg (by omega)]⟩
  generalize hS : ((st.new o1).2.new o2).2 = S at *
  let base : St := ⟨S.h, S.n + 16⟩
  have kb : Keeps S base := Keeps.bump S 16
  have L2 : ∀ s, Keeps base s → loadV Tryz.prog 40 st.n 0 s = some (claimV k1 q1 n1 A1 B1 F1) := fun s hs => load40 ((hs.h _ (by show st.n < S.n + 16; omega)).trans g2)
  have L3 : ∀ s, Keeps base s → loadV Tryz.prog 40 (st.n + 1) 0 s = some (claimV k2 q2 n2 A2 B2 F2) := fun s hs => load40 ((hs.h _ (by show st.n + 1 < S.n + 16; omega)).trans g3)
  have kall : Keeps st base := ks.trans kb
  obtain ⟨s1, u1, w1⟩ := goes18 (ra1.keeps kall) (ra2.keeps kall) (rb1.keeps kall) (rb2.keeps kall) (rf1.keeps kall) (rf2.keeps kall) (k1 := k1) (q1 := q1) (n1 := n1) (k2 := k2) (q2 := q2) (n2 := n2) za zb zf
  have ka1 : Keeps st s1 := kall.trans u1
  obtain ⟨s2, u2, w2⟩ := goes19 (ra1.keeps ka1) (ra2.keeps ka1) (rb1.keeps ka1) (rb2.keeps ka1) (rf1.keeps ka1) (rf2.keeps ka1) (k1 := k1) (q1 := q1) (n1 := n1) (k2 := k2) (q2 := q2) (n2 := n2) za zb zf
  have ka2 : Keeps st s2 := ka1.trans u2
  obtain ⟨s3, u3, w3⟩ := goes18 (ra1.keeps ka2) (ra1.keeps ka2) (rb1.keeps ka2) (rb1.keeps ka2) (rf1.keeps ka2) (rf1.keeps ka2) (k1 := k1) (q1 := q1) (n1 := n1) (k2 := k1) (q2 := q1) (n2 := n1) za zb zf
  have kb2 : Keeps base s2 := u1.trans u2
  have kb3 : Keeps base s3 := kb2.trans u3
  rw [decide_eq_true (show k1 = k1 ∧ q1 = q1 ∧ n1 = n1 ∧ la1 = la1 ∧ lb1 = lb1 ∧ lf1 = lf1 from ⟨rfl, rfl, rfl, rfl, rfl, rfl⟩)] at w3
  generalize decide (k1 = k2 ∧ q1 = q2 ∧ n1 = n2 ∧ la1 = la2 ∧ lb1 = lb2 ∧ lf1 = lf2) = D5 at w1 w2
  have hreg : ∀ ts : T V, cel ts 2 = .ptr st.n 0 → cel ts 3 = .ptr (st.n + 1) 0 → ∃ ts', cel ts' 4 = .bool true ∧
      Goes Tryz.prog Xk 8 (.code (match Tryz.f5.body with | some (.seq _ (.seq c _)) => c | _ => .skip) ⟨ts, 20, [], none⟩) S (.code .normal ⟨ts', 20, [], none⟩ s3) := by
    intro ts t2 t3
    unfold Tryz.f5
    dsimp only
    apply Exists.intro
    rw [and_comm]
    apply And.intro
    · apply goes_draw0
      · rfl
      refine d_quiet rfl rfl (.refl _) (fun self s hs => by simp (decide := true) only [stepV, opV, ev_tmp, ev_bool, cel_eq, cel_ne, t2, t3, Option.bind_some, Option.map_some, L2 s hs, L3 s hs, eqb, beq_self_eq_true]; rfl) ?_
      refine d_quiet rfl rfl (.refl _) (fun self s hs => by simp (decide := true) only [stepV, opV, ev_tmp, ev_bool, cel_eq, cel_ne, t2, t3, Option.bind_some, Option.map_some, L2 s hs, L3 s hs, eqb, beq_self_eq_true]; rfl) ?_
      refine d_call rfl rfl rfl rfl (.refl _) rfl (by simp (decide := true) only [evs, ev_tmp, cel_eq, cel_ne, Option.bind_some, Option.map_some, claimV]) rfl w1 ?_
      refine d_quiet rfl rfl u1 (fun self s hs => by simp (decide := true) only [stepV, opV, ev_tmp, ev_bool, cel_eq, cel_ne, t2, t3, Option.bind_some, Option.map_some, L2 s hs, L3 s hs, eqb, beq_self_eq_true]; rfl) ?_
      refine d_quiet rfl rfl u1 (fun self s hs => by simp (decide := true) only [stepV, opV, ev_tmp, ev_bool, cel_eq, cel_ne, t2, t3, Option.bind_some, Option.map_some, L2 s hs, L3 s hs, eqb, beq_self_eq_true]; rfl) ?_
      refine d_call rfl rfl rfl rfl u1 rfl (by simp (decide := true) only [evs, ev_tmp, cel_eq, cel_ne, Option.bind_some, Option.map_some, claimV]) rfl w2 ?_
      refine d_quiet rfl rfl kb2 (fun self s hs => by simp (decide := true) only [stepV, opV, ev_tmp, ev_bool, cel_eq, cel_ne, t2, t3, Option.bind_some, Option.map_some, L2 s hs, L3 s hs, eqb, beq_self_eq_true]; rfl) ?_
      refine d_quiet rfl rfl kb2 (fun self s hs => by simp (decide := true) only [stepV, opV, ev_tmp, ev_bool, cel_eq, cel_ne, t2, t3, Option.bind_some, Option.map_some, L2 s hs, L3 s hs, eqb, beq_self_eq_true]; rfl) ?_
      refine d_quiet rfl (wanted_of (b := true) rfl rfl rfl (by simp (decide := true) only [cel_eq, cel_ne]) rfl) kb2 (fun self s hs => by simp (decide := true) only [stepV, opV, ev_tmp, ev_bool, cel_eq, cel_ne, t2, t3, Option.bind_some, Option.map_some, L2 s hs, L3 s hs, eqb, beq_self_eq_true]; rfl) ?_
      refine d_quiet rfl (wanted_of (b := true) rfl rfl rfl (by simp (decide := true) only [cel_eq, cel_ne]) rfl) kb2 (fun self s hs => by simp (decide := true) only [stepV, opV, ev_tmp, ev_bool, cel_eq, cel_ne, t2, t3, Option.bind_some, Option.map_some, L2 s hs, L3 s hs, eqb, beq_self_eq_true]; rfl) ?_
      refine d_call rfl rfl rfl (wanted_of (b := true) rfl rfl rfl (by simp (decide := true) only [cel_eq, cel_ne]) rfl) kb2 rfl (by simp (decide := true) only [evs, ev_tmp, cel_eq, cel_ne, Option.bind_some, Option.map_some, claimV]) rfl w3 ?_
      refine d_quiet rfl rfl kb3 (fun self s hs => by simp (decide := true) only [stepV, opV, ev_tmp, ev_bool, cel_eq, cel_ne, t2, t3, Option.bind_some, Option.map_some, L2 s hs, L3 s hs, eqb, beq_self_eq_true]; rfl) ?_
      refine d_quiet rfl rfl kb3 (fun self s hs => by simp (decide := true) only [stepV, opV, ev_tmp, ev_bool, cel_eq, cel_ne, t2, t3, Option.bind_some, Option.map_some, L2 s hs, L3 s hs, eqb, beq_self_eq_true]; rfl) ?_
      refine d_known (b := true) rfl rfl rfl (wanted_of (b := true) rfl rfl rfl (by simp (decide := true) only [cel_eq, cel_ne]) rfl) kb3 rfl rfl rfl ?_
      refine d_quiet rfl rfl kb3 (fun self s hs => by simp (decide := true) only [stepV, opV, ev_tmp, ev_bool, cel_eq, cel_ne, t2, t3, Option.bind_some, Option.map_some, L2 s hs, L3 s hs, eqb, beq_self_eq_true]; rfl) ?_
      refine d_quiet rfl rfl kb3 (fun self s hs => by simp (decide := true) only [stepV, opV, ev_tmp, ev_bool, cel_eq, cel_ne, t2, t3, Option.bind_some, Option.map_some, L2 s hs, L3 s hs, eqb, beq_self_eq_true]; rfl) ?_
      exact d_nil kb3
    · simp (decide := true) only [cel_eq]
  have hpre : ∃ ts', cel ts' 2 = .ptr st.n 0 ∧ cel ts' 3 = .ptr (st.n + 1) 0 ∧ ∀ (o : Out), Goes Tryz.prog Xk 8 (.code (.seq (match Tryz.f5.body with | some (.seq _ (.seq c _)) => c | _ => .skip) .ret) ⟨ts', 20, [], none⟩) S o →
      Goes Tryz.prog Xk 8 (.code ((Tryz.f5.body).getD .skip) ⟨argsT .leaf 0 [claimV k1 q1 n1 A1 B1 F1, claimV k2 q2 n2 A2 B2 F2], 20, [], none⟩) st o := by
    refine ⟨putD (putD (putD (argsT .leaf 0 [claimV k1 q1 n1 A1 B1 F1, claimV k2 q2 n2 A2 B2 F2]) 20 (some 2) (.ptr st.n 0)) 20 (some 3) (.ptr (st.n + 1) 0)) 20 (some 4) (.bool false), ?_, ?_, fun o ho => ?_⟩
    · simp (decide := true) only [cel_eq, cel_ne]
    · simp (decide := true) only [cel_eq, cel_ne]
    · unfold Tryz.f5 at ho ⊢
      dsimp only [Option.getD] at ho ⊢
      subst hS
      exact goes_seq (goes_region (ops_of fun self => rfl)) ho
  obtain ⟨ts1, t2, t3, hgo⟩ := hpre
  obtain ⟨ts', h4, hg⟩ := hreg ts1 t2 t3
  refine ⟨s3, ?_⟩
  refine goes_call (vs := [.bool true]) Tryz.func5 rfl (hgo _ (goes_seq hg goes_ret)) (by simp) rfl (by rw [← h4]; rfl)
end Go.Proofs.YtbfagojdbebikaaGreatDoor
