/- VEX, part 26: what a job comes to, rule by rule. Generic in the program. -/
import Derived.Test.YtbfagojdbebikaaGreatDoorVex25
namespace Go.Vex
open Go Go.RowKit

section
variable {P : Program} {X : FuncId → Option Ext} {G : Nat} {fr fr1 : Fr} {st st1 st2 : St} {o : Out}

theorem Goes.at {j : Job} {st : St} {o : Out} (h : Goes P X G j st o) : ∃ n, ∀ m, n ≤ m → run P X G m j st = some o :=
  h.elim fun n hn => ⟨n, fun _ hm => run_mono hm _ _ _ hn⟩

theorem goes_seq {a b : Code} (h1 : Goes P X G (.code a fr) st (.code .normal fr1 st1)) (h2 : Goes P X G (.code b fr1) st1 o) : Goes P X G (.code (.seq a b) fr) st o := by
  obtain ⟨n, hn⟩ := h1.at
  obtain ⟨m, hm⟩ := h2.at
  refine ⟨max n m + 1, ?_⟩
  change body P X G (run P X G (max n m)) _ _ = _
  simp only [body, hn _ (Nat.le_max_left n m), hm _ (Nat.le_max_right n m)]

theorem goes_seq_out {a b : Code} {e : Ex} (he : e ≠ .normal) (h1 : Goes P X G (.code a fr) st (.code e fr1 st1)) : Goes P X G (.code (.seq a b) fr) st (.code e fr1 st1) := by
  obtain ⟨n, hn⟩ := h1
  refine ⟨n + 1, ?_⟩
  change body P X G (run P X G n) _ _ = _
  simp only [body, hn]
  cases e with
  | normal => exact absurd rfl he
  | _ => rfl

theorem goes_cond {c : Operand} {a b : Code} {t : Bool} (hc : ev G fr.ts c = some (.bool t)) (h : Goes P X G (.code (if t then a else b) fr) st o) : Goes P X G (.code (.cond c a b) fr) st o := by
  obtain ⟨n, hn⟩ := h
  refine ⟨n + 1, ?_⟩
  change body P X G (run P X G n) _ _ = _
  cases t <;> simp only [body, hc] <;> exact hn

theorem goes_block {id : Nat} {b : Code} {e : Ex} (h : Goes P X G (.code b fr) st (.code e fr1 st1)) : Goes P X G (.code (.block id b) fr) st (.code (if e = .exit id then .normal else e) fr1 st1) := by
  obtain ⟨n, hn⟩ := h
  refine ⟨n + 1, ?_⟩
  change body P X G (run P X G n) _ _ = _
  simp only [body, hn]
  cases e with
  | exit i =>
    cases hb : Nat.beq i id with
    | true =>
      rw [if_pos (by rw [Nat.eq_of_beq_eq_true hb])]
      simp only [hb]
    | false =>
      have := Nat.ne_of_beq_eq_false hb
      rw [if_neg (by simpa using this)]
      simp only [hb]
  | _ => simp

theorem goes_loop {b : Code} (h1 : Goes P X G (.code b fr) st (.code .normal fr1 st1)) (h2 : Goes P X G (.code (.loop b) fr1) st1 o) : Goes P X G (.code (.loop b) fr) st o := by
  obtain ⟨n, hn⟩ := h1.at
  obtain ⟨m, hm⟩ := h2.at
  refine ⟨max n m + 1, ?_⟩
  change body P X G (run P X G (max n m)) _ _ = _
  simp only [body, hn _ (Nat.le_max_left n m), hm _ (Nat.le_max_right n m)]

theorem goes_loop_out {b : Code} {e : Ex} (he : e ≠ .normal) (h1 : Goes P X G (.code b fr) st (.code e fr1 st1)) : Goes P X G (.code (.loop b) fr) st (.code e fr1 st1) := by
  obtain ⟨n, hn⟩ := h1
  refine ⟨n + 1, ?_⟩
  change body P X G (run P X G n) _ _ = _
  simp only [body, hn]
  cases e with
  | normal => exact absurd rfl he
  | _ => rfl

theorem goes_skip : Goes P X G (.code .skip fr) st (.code .normal fr st) := ⟨1, rfl⟩
theorem goes_ret : Goes P X G (.code .ret fr) st (.code .ret fr st) := ⟨1, rfl⟩
theorem goes_exit {id : Nat} : Goes P X G (.code (.exit id) fr) st (.code (.exit id) fr st) := ⟨1, rfl⟩

/-- What the operations of a region come to, in order. -/
def OpsGo (P : Program) (X : FuncId → Option Ext) (G : Nat) (all : Array Oper) (N : Nat) (l : List Oper) (ts : T V) (st : St) (r : T V × St) : Prop := ∃ n, opsV P X G (run P X G n) all N l ts st = some r

variable {all : Array Oper} {N : Nat} {l : List Oper} {ts : T V} {r : T V × St} {x : Oper}

theorem ops_nil : OpsGo P X G all N [] ts st (ts, st) := ⟨0, rfl⟩
theorem ops_not (hw : wantedV all ts N x = false) (h : OpsGo P X G all N l (putD ts N x.dst undefV) st r) : OpsGo P X G all N (x :: l) ts st r := by
  obtain ⟨n, hn⟩ := h
  exact ⟨n, by simp only [opsV, hw]; exact hn⟩
theorem ops_plain {v : V} (hw : wantedV all ts N x = true) (hs : ∀ self, stepV P X G self ts st x = some (v, st1)) (h : OpsGo P X G all N l (putD ts N x.dst v) st1 r) : OpsGo P X G all N (x :: l) ts st r := by
  obtain ⟨n, hn⟩ := h
  exact ⟨n, by simp only [opsV, hw, hs]; exact hn⟩
theorem ops_call {v : V} {c : Call} {g : Operand} {f : FuncId} {args p q : List V} (hw : wantedV all ts N x = true) (hx : x.op = .call c) (hg : c.callee = .value g) (he : ev G ts g = some (.func f p q)) (ha : evs G ts c.args.toList = some args) (hX : X f = none)
    (hs : Goes P X G (.call f (p ++ args ++ q)) st (.val v st1)) (h : OpsGo P X G all N l (putD ts N x.dst v) st1 r) : OpsGo P X G all N (x :: l) ts st r := by
  obtain ⟨n, hn⟩ := h
  obtain ⟨m, hm⟩ := hs.at
  refine ⟨max n m, ?_⟩
  have h1 : stepV P X G (run P X G (max n m)) ts st x = some (v, st1) := by
    unfold stepV
    simp only [hx, ha, Option.bind_some, hg, he, callV, hX, hm _ (Nat.le_max_right n m)]
  simp only [opsV, hw, h1]
  exact opsV_mono (run_mono (Nat.le_max_left n m)) hn

theorem goes_region {id : Nat} {ops : Array Oper} (h : OpsGo P X G ops fr.N ops.toList fr.ts st (ts, st1)) : Goes P X G (.code (.region id ops false) fr) st (.code .normal { fr with ts } st1) := by
  obtain ⟨n, hn⟩ := h
  refine ⟨n + 1, ?_⟩
  change body P X G (run P X G n) _ _ = _
  simp only [body, hn]

theorem goes_call {f : FuncId} {fn : Func} {c : Code} {args : List V} {e : Ex} {vs : List V} (hf : P.funcs[f]? = some fn) (hc : fn.body = some c)
    (h : Goes P X G (.code c { ts := argsT .leaf 0 args, N := args.length + (fn.ntmps - args.length), dm := [], ro := none }) st (.code e fr st1)) (he : ∀ i, e ≠ .exit i) (hd : takeMarks st1 fr.dm = some st2)
    (hr : resultsV P fr.ts fr.N st2 fn.results.toList = some vs) : Goes P X G (.call f args) st (.val (tupV vs) st2) := by
  obtain ⟨n, hn⟩ := h
  refine ⟨n + 1, ?_⟩
  change body P X G (run P X G n) _ _ = _
  simp only [body, hf, hc, hn]
  cases e with
  | exit i => exact absurd rfl (he i)
  | _ =>
    simp only [hd, Option.bind_some, hr]
    match vs with
    | [] => rfl
    | [_] => rfl
    | _ :: _ :: _ => rfl

/-- A region that draws its order, and holds no operation of weight: as in order, but for labels. -/
def quietV (P : Program) (o : Oper) : Bool := decide (dkind P o.op = .quiet)

theorem stages_quiet {P : Program} : ∀ (l : List Oper) (i : Nat) (rs : List (DS × V)) (f : DS), l.all (quietV P) = true → ∃ q, stagesV P i l rs f = [(q, f.st)] ∧ i ≤ q ∧ (rs.length = l.length → q = i + l.length)
  | [], i, rs, f, _ => ⟨i, by simp [stagesV], Nat.le_refl _, fun _ => rfl⟩
  | o :: l, i, [], f, _ => ⟨i, by simp [stagesV], Nat.le_refl _, fun h => by simp at h⟩
  | o :: l, i, r :: rs, f, h => by
    simp only [List.all_cons, Bool.and_eq_true] at h
    have hk : dkind P o.op = .quiet := by simpa [quietV] using h.1
    obtain ⟨q, h1, h2, h3⟩ := stages_quiet l (i + 1) rs f h.2
    refine ⟨q, ?_, by omega, fun hl => ?_⟩
    · simp only [stagesV, hk]; exact h1
    · rw [h3 (by simpa using hl)]; simp; omega

theorem drun_quiet {self : Job → St → Option Out} {n0 : Nat} : ∀ {l : List Oper} {i : Nat} {d : DS} {ts' : T V} {st' : St}, l.all (quietV P) = true → opsV P X G self all N l d.ts d.st = some (ts', st') →
    st' = d.st ∧ ∃ rs, drunV P X G self all N n0 i l d = some (rs, ⟨ts', d.st, d.pend⟩) ∧ rs.length = l.length
  | [], i, d, ts', st', _, h => by
    simp only [opsV, Option.some.injEq, Prod.mk.injEq] at h
    obtain ⟨rfl, rfl⟩ := h
    exact ⟨rfl, [], rfl, rfl⟩
  | o :: l, i, d, ts', st', hq, h => by
    simp only [List.all_cons, Bool.and_eq_true] at hq
    have hk : dkind P o.op = .quiet := by simpa [quietV] using hq.1
    simp only [opsV] at h
    cases hw : wantedV all d.ts N o with
    | false =>
      rw [hw] at h
      obtain ⟨rfl, rs, h1, h2⟩ := drun_quiet (n0 := n0) (i := i + 1) (d := ⟨putD d.ts N o.dst undefV, d.st, d.pend⟩) hq.2 h
      refine ⟨rfl, (d, undefV) :: rs, ?_, ?_⟩
      · simp only [drunV, dstepV, hw, hk, Option.bind_some, h1, Option.map_some]
      · simp [h2]
    | true =>
      rw [hw] at h
      simp only at h
      split at h
      · rename_i v st1 e
        obtain rfl := quiet_same hk e
        obtain ⟨rfl, rs, h1, h2⟩ := drun_quiet (n0 := n0) (i := i + 1) (d := ⟨putD d.ts N o.dst v, d.st, d.pend⟩) hq.2 h
        refine ⟨rfl, (d, v) :: rs, ?_, ?_⟩
        · simp only [drunV, dstepV, hw, hk, e, Option.map_some, Option.bind_some, h1]
        · simp [h2]
      · cases h

theorem dynAll_quiet {self : Job → St → Option Out} {ms : T Nat} {q : Nat} {s : St} : ∀ {l : List Oper} {i : Nat} {rs : List (DS × V)}, i + l.length ≤ q → dynAll P X G self all N ms [(q, s)] i l rs = true
  | [], _, _, _ => rfl
  | _ :: _, _, [], _ => rfl
  | o :: l, i, (d, v) :: rs, h => by
    simp only [dynAll, Bool.and_eq_true]
    simp only [List.length_cons] at h
    refine ⟨?_, dynAll_quiet (by omega)⟩
    split
    · have : Nat.blt q i = false := by
        cases hb : Nat.blt q i with
        | false => rfl
        | true => rw [Nat.blt_eq] at hb; omega
      simp only [dynV, this, Bool.true_and]
      cases waits ms i q <;> rfl
    · rfl

theorem goes_draw_quiet {id : Nat} {ops : Array Oper} {ms : T Nat} (hs : dstat P ops 0 ops.toList .leaf [] = some ms) (hq : ops.toList.all (quietV P) = true)
    (h : OpsGo P X G ops fr.N ops.toList fr.ts ⟨st.h, st.n + ops.toList.length⟩ (ts, st1)) : Goes P X G (.code (.region id ops true) fr) st (.code .normal { fr with ts } ⟨st.h, st.n + ops.toList.length⟩) := by
  obtain ⟨n, hn⟩ := h
  refine ⟨n + 1, ?_⟩
  change body P X G (run P X G n) _ _ = _
  obtain ⟨_, rs, h1, h2⟩ := drun_quiet (n0 := st.n) (i := 0) (d := ⟨fr.ts, ⟨st.h, st.n + ops.toList.length⟩, []⟩) hq hn
  obtain ⟨q, h3, _, h4⟩ := stages_quiet (P := P) ops.toList 0 rs ⟨ts, ⟨st.h, st.n + ops.toList.length⟩, []⟩ hq
  have h5 := h4 h2
  simp only [body, drawV, hs, Option.bind_some, h1, h3]
  rw [dynAll_quiet (by rw [h5]; exact Nat.le_refl _)]
  rfl
end
end Go.Vex
