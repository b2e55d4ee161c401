/- VEX, part 9: every operation that calls nothing. Generic in the program. -/
import Derived.Test.YtbfagojdbebikaaGreatDoorVex8
namespace Go.Vex
open Go Go.RowKit

section
variable {P : Program} {G B : Nat} {ρ : Rho} {st : St} {w : World}

theorem bind2 {α β : Type} {x : Option α} {f : α → Option β} {y : β} (h : x.bind f = some y) : ∃ a, x = some a ∧ f a = some y := by
  cases x with
  | none => cases h
  | some a => exact ⟨a, rfl, h⟩
theorem map2 {α β : Type} {x : Option α} {f : α → β} {y : β} (h : x.map f = some y) : ∃ a, x = some a ∧ f a = y := by
  cases x with
  | none => cases h
  | some a => exact ⟨a, rfl, by simpa using h⟩

theorem alloc_ok (h : HRep P G B ρ st w) {ts : T V} {N : Nat} {a : Act} (ht : TRel ρ ts N a.tmps) {o : Oper} {obj : HObj} {mk : Nat → V} (hv : allocV P G ts o.op = some (obj, mk)) :
    ∃ r O L, L.blk = w.heap.size ∧ (execOp a.eval o).run P w = .ok (.value r) { w with heap := w.heap.push O } ∧ Own obj = true ∧
      ∀ (ρ' : Rho) (l : Nat), ρ.le ρ' → ρ' l = some L → VRel ρ' (mk l) r ∧ ORel P B ρ' obj L { w with heap := w.heap.push O } := by
  obtain ⟨dst, op, type, pos, after, guard⟩ := o
  simp only at hv
  have E := @ev_rel P G B ρ st w h ts N a ht
  unfold execOp
  cases op <;> simp only [allocV] at hv <;> try (cases hv; done)
  case alloc t =>
    obtain ⟨z, e1, e2⟩ := map2 hv
    cases e2
    obtain ⟨x, x1, x2⟩ := run_zero (w := w) e1
    have hc := cells_rel (x2 ρ)
    refine ⟨.pointer (some ⟨w.heap.size, 0, none⟩), .cells x.cells t, ⟨w.heap.size, 0, x.cells.size, 0⟩, rfl, ?_, rfl, fun ρ' l le hl => ⟨⟨_, hl, rfl⟩, orel_cells le h.base (by simp) (fun _ => (cells_size (x2 ρ)).symm) (by simp) hc.at⟩⟩
    simp only [Instr.alloc, Sem.run_bind, x1, Result.andThen_ok, newVar, newRow, run_newObj, Sem.run_pure]
  case box t x =>
    obtain ⟨z, e1, e2⟩ := map2 hv
    cases e2
    have hx := E e1
    have hc := cells_rel hx
    refine ⟨.pointer (some ⟨w.heap.size, 0, none⟩), .cells (a.eval x).cells t, ⟨w.heap.size, 0, (a.eval x).cells.size, 0⟩, rfl, ?_, rfl, fun ρ' l le hl => ⟨⟨_, hl, rfl⟩, orel_cells le h.base (by simp) (fun _ => (cells_size hx).symm) (by simp) hc.at⟩⟩
    simp only [Instr.box, Sem.run_bind, Result.andThen_ok, newVar, newRow, run_newObj, Sem.run_pure]
  case buildSlice t len ps =>
    split at hv
    · rename_i e hd
      obtain ⟨size, e1, e2⟩ := bind2 hv
      split at e2
      · rename_i hle
        have hle := Nat.le_of_ble_eq_true hle
        obtain ⟨z, e3, e4⟩ := bind2 e2
        obtain ⟨vs, e5, e6⟩ := bind2 e4
        obtain ⟨cs, e7, e8⟩ := map2 e6
        simp only [Prod.mk.injEq] at e8
        obtain ⟨rfl, rfl⟩ := e8
        obtain ⟨p1, p2⟩ := partsV_rel h ht e5
        obtain ⟨q1, q2⟩ := zip_parts p1 p2
        have hnot : ¬ len * size > 2 ^ 24 := by omega
        have hrow : ∃ d : Array Value, VRels ρ cs d.toList ∧ (Instr.buildSlice t len (ps.map fun (i, x) => (i, a.eval x))).run P w = .ok (.slice (some ⟨w.heap.size, 0, none⟩) len len) { w with heap := w.heap.push (.cells d e) } := by
          have hps : (ps.map fun (i, x) => (i, a.eval x)).toList = ps.toList.map fun p => (p.1, a.eval p.2) := by
            rw [Array.toList_map]
          have r0 : Array.range 0 = #[] := rfl
          rcases zeros_rel e3 with ⟨h0, rfl⟩ | ⟨zx, s, hs, hz1, hz2, hz3, hz4⟩
          · subst h0
            obtain ⟨d, d1, d2⟩ := fill_ok (ρ := ρ) (c := #[]) e7 q1 q2 rfl
            refine ⟨d, d2, ?_⟩
            simp [Instr.buildSlice, run_und hd, run_size e1, r0, d1, newRow]
          · obtain rfl : s = size := Option.some.inj (hz3.symm.trans e1)
            obtain ⟨d, d1, d2⟩ := fill_ok (ρ := ρ) e7 q1 q2 (hz4 ρ)
            refine ⟨d, d2, ?_⟩
            by_cases hl : len * s = 0
            · rw [hl] at d1
              simp only [r0, Array.map_empty] at d1
              simp [Instr.buildSlice, run_und hd, run_size e1, hl, r0, d1, newRow]
            · have hn' : ¬ 16777216 < len * s := by omega
              simp only [Instr.buildSlice, Sem.run_bind, run_und hd, run_size e1, Result.andThen_ok, hnot, if_false, hl, hz1, Sem.run_pure, hps, d1, newRow, run_newObj]
        obtain ⟨d, d2, d1⟩ := hrow
        have hlen : cs.length = d.size := by rw [← d2.length, Array.length_toList]
        exact ⟨.slice (some ⟨w.heap.size, 0, none⟩) len len, .cells d e, ⟨w.heap.size, 0, d.size, 0⟩, rfl, by simp only [Sem.run_bind, d1, Result.andThen_ok, Sem.run_pure], rfl, fun ρ' l le hl => ⟨⟨_, hl, Nat.le_refl _, rfl⟩, orel_cells le h.base (by simp) (fun _ => hlen) (by simp) d2.at⟩⟩
      · cases e2
    · cases hv
  case makeMap t r =>
    cases r with
    | some _ => cases hv
    | none =>
      simp only [Option.some.injEq, Prod.mk.injEq] at hv
      obtain ⟨rfl, rfl⟩ := hv
      refine ⟨.map (some w.heap.size), .map #[] 0, ⟨w.heap.size, 0, 0, 0⟩, rfl, ?_, rfl, fun ρ' l le hl => ⟨⟨_, hl, rfl⟩, ⟨h.base, #[], by simp, rfl⟩⟩⟩
      simp [Instr.makeMap]
  case makeSlice t l c =>
    split at hv
    · rename_i e hd
      obtain ⟨u, e1, e2⟩ := bind2 hv
      obtain ⟨z, e3, e4⟩ := bind2 e2
      have hu := E e1
      have hz := E e3
      split at e4
      · rename_i k1 li k2 ci
        have hu : a.eval l = .int k1 li := hu
        have hz : a.eval c = .int k2 ci := hz
        split at e4
        · rename_i bytes hb
          obtain ⟨inf, hi, hb⟩ := map2 hb
          split at e4
          · rename_i hc
            obtain ⟨zs, e5, e6⟩ := map2 e4
            simp only [Prod.mk.injEq] at e6
            obtain ⟨rfl, rfl⟩ := e6
            have hsz : ∃ s, sizeV P e = some s := by unfold sizeV; rw [hi]; exact ⟨_, rfl⟩
            obtain ⟨s, hs⟩ := hsz
            have w1 := IntWalk.i64_in li (by omega)
            have w2 := IntWalk.i64_in ci (by omega)
            have hbc : (bytes : Int) * ci ≤ 1048576 * 1048576 := Int.mul_le_mul (by omega) (by omega) (by omega) (by omega)
            have hbl : (bytes : Int) * li ≤ 1048576 * 1048576 := Int.mul_le_mul (by omega) (by omega) (by omega) (by omega)
            have hz' : ∃ d : Array Value, VRels ρ zs d.toList ∧ (Instr.makeSlice t (.int k1 li) (.int k2 ci)).run P w = .ok (.slice (some ⟨w.heap.size, 0, none⟩) li.toNat ci.toNat) { w with heap := w.heap.push (.cells d e) } := by
              have t1 : ¬ ci < 0 := by omega
              have t2 : ¬ (281474976710656 : Int) < (bytes : Int) * ci := by omega
              have r0 : Array.range 0 = #[] := rfl
              have t3 : ¬ li < 0 := by omega
              have t4 : ¬ ci < li := by omega
              rcases zeros_rel e5 with ⟨h0, rfl⟩ | ⟨zx, s', hs', hz1, hz2, hz3, hz4⟩
              · refine ⟨#[], rfl, ?_⟩
                simp [Instr.makeSlice, run_und hd, run_info hi, asInt, asIntOf, hb, w1, w2, t1, t2, t3, t4, h0, r0, newRow, run_size hs]
              · obtain rfl : s' = s := Option.some.inj (hz3.symm.trans hs)
                refine ⟨_, hz4 ρ, ?_⟩
                by_cases hl : ci.toNat * s' = 0
                · have hl0 : ci.toNat = 0 := by
                    rcases Nat.mul_eq_zero.1 hl with h0 | h0
                    · exact h0
                    · omega
                  simp [Instr.makeSlice, run_und hd, run_info hi, asInt, asIntOf, hb, w1, w2, t1, t2, t3, t4, hl0, r0, newRow, run_size hs]
                · simp [Instr.makeSlice, run_und hd, run_info hi, asInt, asIntOf, hb, w1, w2, t1, t2, t3, t4, hl, hz1, newRow, run_size hs]
            obtain ⟨d, d2, d1⟩ := hz'
            have hlen : zs.length = d.size := by rw [← d2.length, Array.length_toList]
            refine ⟨.slice (some ⟨w.heap.size, 0, none⟩) li.toNat ci.toNat, .cells d e, ⟨w.heap.size, 0, d.size, 0⟩, rfl, by
              show Sem.run P (do pure (Next.value (← Instr.makeSlice t (a.eval l) (a.eval c)))) w = _
              rw [hu, hz]
              simp only [Sem.run_bind, d1, Result.andThen_ok, Sem.run_pure], rfl, fun ρ' l le hl => ⟨⟨_, hl, by omega, rfl⟩, orel_cells le h.base (by simp) (fun _ => hlen) (by simp) d2.at⟩⟩
          · cases e4
        · cases e4
      · cases e4
    · cases hv

theorem opV_ok (h : HRep P G B ρ st w) {ts : T V} {N : Nat} {a : Act} (ht : TRel ρ ts N a.tmps) {o : Oper} {v : V} {st' : St} (hv : opV P G ts st o.op = some (v, st')) :
    OpOK P G B ρ st w (execOp a.eval o) v st' := by
  have hall : (allocV P G ts o.op).map (fun r => (r.2 st.n, (st.new r.1).2)) = some (v, st') → OpOK P G B ρ st w (execOp a.eval o) v st' := by
    intro hq
    obtain ⟨⟨obj, mk⟩, e1, e2⟩ := map2 hq
    cases e2
    obtain ⟨r, O, L, l1, l2, l3, l4⟩ := alloc_ok h ht e1
    have := l4 _ st.n (new_le h L) (by simp)
    exact ⟨r, _, _, .inl l2, this.1, Step.alloc h l1 this.2⟩
  obtain ⟨dst, op, type, pos, after, guard⟩ := o
  simp only at hv
  have E := @ev_rel P G B ρ st w h ts N a ht
  cases op
  case alloc t => exact hall hv
  case box t x => exact hall hv
  case buildSlice t n ps => exact hall hv
  case makeMap t r => exact hall hv
  case makeSlice t l c => exact hall hv
  all_goals clear hall
  all_goals unfold execOp
  all_goals simp only [opV] at hv
  all_goals try (cases hv; done)
  case move x =>
    obtain ⟨u, e1, e2⟩ := map2 hv
    cases e2
    exact OpOK.pure h rfl (E e1)
  case assign x =>
    obtain ⟨u, e1, e2⟩ := map2 hv
    cases e2
    exact OpOK.pure h rfl (E e1)
  case pick c x y =>
    obtain ⟨u, e1, e2⟩ := bind2 hv
    have hc := E e1
    split at e2
    · have hc : a.eval c = .bool true := hc
      obtain ⟨u, e3, e4⟩ := map2 e2
      cases e4
      refine OpOK.pure h (r := a.eval x) ?_ (E e3)
      simp [asBool, hc]
    · have hc : a.eval c = .bool false := hc
      obtain ⟨u, e3, e4⟩ := map2 e2
      cases e4
      refine OpOK.pure h (r := a.eval y) ?_ (E e3)
      simp [asBool, hc]
    · cases e2
  case build t ps =>
    obtain ⟨vs, e1, e2⟩ := bind2 hv
    obtain ⟨u, e3, e4⟩ := map2 e2
    cases e4
    obtain ⟨p1, p2⟩ := partsV_rel h ht e1
    obtain ⟨q1, q2⟩ := zip_parts p1 p2
    exact VOK.op (build_ok h e3 (by simpa using q1) (by simpa [Function.comp_def] using p2))
  case load t x =>
    obtain ⟨u, e1, e2⟩ := bind2 hv
    have hu := E e1
    split at e2
    · obtain ⟨L, hL, hx⟩ := hu
      obtain ⟨z, e3, e4⟩ := map2 e2
      cases e4
      obtain ⟨r, r1, r2⟩ := run_loadVar h e3 hL
      exact VOK.op (VOK.pure h (r := r) (by simp only [Instr.loadAt, hx, Instr.sureAddr, Sem.run_bind, Sem.run_pure, Result.andThen_ok, r1]) r2)
    · cases e2
  case store t x y =>
    obtain ⟨u, e1, e2⟩ := bind2 hv
    obtain ⟨z, e3, e4⟩ := bind2 e2
    have hu := E e1
    have hz := E e3
    split at e4
    · obtain ⟨L, hL, hx⟩ := hu
      obtain ⟨s, e5, e6⟩ := map2 e4
      cases e6
      obtain ⟨w', r1, r2⟩ := storeVar_ok h e5 hL hz
      refine ⟨undef, w', ρ, .inr ⟨?_, rfl⟩, undef_rel, r2⟩
      simp only [Instr.storeAt, hx, Instr.sureAddr, Sem.run_bind, Sem.run_pure, Result.andThen_ok, r1]
    · cases e4
  case nilCheck x =>
    obtain ⟨u, e1, e2⟩ := bind2 hv
    have hu := E e1
    split at e2
    · simp only [Option.some.injEq, Prod.mk.injEq] at e2
      obtain ⟨rfl, rfl⟩ := e2
      refine OpOK.pure h (r := a.eval x) ?_ hu
      obtain ⟨L, hL, hx⟩ := hu
      simp only [hx, Sem.run_pure]
    · simp only [Option.some.injEq, Prod.mk.injEq] at e2
      obtain ⟨rfl, rfl⟩ := e2
      refine OpOK.pure h (r := a.eval x) ?_ hu
      obtain ⟨p, q, hx, _⟩ := hu
      simp only [hx, Sem.run_pure]
    · simp only [Option.some.injEq, Prod.mk.injEq] at e2
      obtain ⟨rfl, rfl⟩ := e2
      refine OpOK.pure h (r := a.eval x) ?_ hu
      obtain ⟨L, hL, hx⟩ := hu
      simp only [hx, Sem.run_pure]
    · simp only [Option.some.injEq, Prod.mk.injEq] at e2
      obtain ⟨rfl, rfl⟩ := e2
      refine OpOK.pure h (r := a.eval x) ?_ hu
      obtain ⟨y, hx, _⟩ := hu
      simp only [hx, Sem.run_pure]
    · simp only [Option.some.injEq, Prod.mk.injEq] at e2
      obtain ⟨rfl, rfl⟩ := e2
      refine OpOK.pure h (r := a.eval x) ?_ hu
      obtain ⟨y, hx, _⟩ := hu
      simp only [hx, Sem.run_pure]
    · cases e2
  case binOp op t x y yt =>
    obtain ⟨u, e1, e2⟩ := bind2 hv
    obtain ⟨z, e3, e4⟩ := bind2 e2
    obtain ⟨q, e5, e6⟩ := map2 e4
    cases e6
    obtain ⟨r, r1, r2⟩ := binV_ok (w := w) e5 (E e1) (E e3)
    exact VOK.op (VOK.pure h r1 r2)
  case unOp op t x =>
    obtain ⟨u, e1, e2⟩ := bind2 hv
    obtain ⟨q, e5, e6⟩ := map2 e2
    cases e6
    obtain ⟨r, r1, r2⟩ := unV_ok (P := P) (w := w) e5 (E e1)
    exact VOK.op (VOK.pure h r1 r2)
  case convert s d x =>
    obtain ⟨u, e1, e2⟩ := bind2 hv
    have hu := E e1
    split at e2
    · rename_i D e bs hs hd
      split at e2
      · rename_i he
        split at e2
        · rename_i hle hsz
          simp only [Option.some.injEq, Prod.mk.injEq] at e2
          obtain ⟨rfl, rfl⟩ := e2
          exact VOK.op (bytes_ok h hs hd he hsz hu)
        · cases e2
      · cases e2
    · obtain ⟨q, e5, e6⟩ := map2 e2
      cases e6
      obtain ⟨r, r1, r2⟩ := convV_ok h e5 hu
      exact VOK.op (VOK.pure h r1 r2)
  case makeInterface t x =>
    obtain ⟨u, e1, e2⟩ := bind2 hv
    have hu := E e1
    split at e2
    · cases e2
    · rename_i d hni hd
      simp only [Option.some.injEq, Prod.mk.injEq] at e2
      obtain ⟨rfl, rfl⟩ := e2
      refine VOK.op (VOK.pure h (r := .iface t (a.eval x)) ?_ ⟨_, rfl, hu⟩)
      cases d <;> first
        | exact absurd rfl (hni _)
        | simp only [Instr.makeInterface, Sem.run_bind, run_und hd, Result.andThen_ok, Sem.run_pure]
    · cases e2
  case makeFunc fn first captured =>
    cases fn <;> simp only at hv <;> try (cases hv; done)
    case func f =>
      obtain ⟨u, e1, e2⟩ := bind2 hv
      obtain ⟨z, e3, e4⟩ := map2 e2
      cases e4
      refine VOK.op (VOK.pure h (r := .func (.func f) (first.map a.eval) (captured.map a.eval)) rfl ⟨first.toList.map a.eval, captured.toList.map a.eval, ?_, evs_rel h ht e1, evs_rel h ht e3⟩)
      rw [← Array.toList_map, ← Array.toList_map, Array.toArray_toList, Array.toArray_toList]
  case slice t x lo hi mx =>
    obtain ⟨u, e1, e2⟩ := bind2 hv
    obtain ⟨l, e3, e4⟩ := bind2 e2
    obtain ⟨k, e5, e6⟩ := bind2 e4
    obtain ⟨m, e7, e8⟩ := bind2 e6
    obtain ⟨q, e9, e10⟩ := map2 e8
    cases e10
    obtain ⟨r, r1, r2⟩ := sliceV_ok (P := P) (w := w) e9 (E e1) (evO_rel h ht e3) (evO_rel h ht e5) (evO_rel h ht e7)
    exact VOK.op (VOK.pure h r1 r2)
  case fieldAddr s x f =>
    obtain ⟨u, e1, e2⟩ := bind2 hv
    have hu := E e1
    split at e2
    · rename_i fs l off hs
      split at e2
      · rename_i fd hf
        split at e2
        · rename_i n hn
          simp only [Option.some.injEq, Prod.mk.injEq] at e2
          obtain ⟨rfl, rfl⟩ := e2
          obtain ⟨L, hL, hx⟩ := hu
          refine VOK.op (VOK.pure h (r := .pointer (some (L.at (off + fd.offset)))) ?_ ⟨L, hL, rfl⟩)
          simp only [Instr.fieldAt, Sem.run_bind, run_und hs, Result.andThen_ok, hf, hx, Instr.sureAddr, Sem.run_pure, fieldPlace, run_size hn, Nat.succ_ne_zero, if_false, at_add]
        · cases e2
      · cases e2
    · cases e2
  case field t x f =>
    obtain ⟨u, e1, e2⟩ := bind2 hv
    have hu := E e1
    split at e2
    · rename_i fs cs hs
      split at e2
      · rename_i fd hf
        obtain ⟨q, e3, e4⟩ := map2 e2
        cases e4
        obtain ⟨xs, hx, hxs⟩ := hu
        obtain ⟨r, r1, r2⟩ := run_part (P := P) (w := w) e3 hxs
        refine VOK.op (VOK.pure h (r := r) ?_ r2)
        simp only [Instr.field, Sem.run_bind, run_und hs, Result.andThen_ok, hf, hx, asAgg, Sem.run_pure, r1]
      · cases e2
    · cases e2
  case indexAddr t x i =>
    obtain ⟨u, e1, e2⟩ := bind2 hv
    obtain ⟨z, e3, e4⟩ := bind2 e2
    have hu := E e1
    have hz := E e3
    split at e4
    · rename_i n e l off k j hd
      split at e4
      · rename_i hc
        obtain ⟨s, e5, e6⟩ := map2 e4
        cases e6
        obtain ⟨L, hL, hx⟩ := hu
        have hz : a.eval i = .int k j := hz
        refine VOK.op (VOK.pure h (r := .pointer (some (L.at (off + j.toNat * s)))) ?_ ⟨L, hL, rfl⟩)
        simp only [Instr.indexAt, hz, hx, asIntOf, Sem.run_bind, run_und hd, Result.andThen_ok, Sem.run_pure, Instr.sureAddr, hc, and_self, if_true, run_size e5, at_add]
      · cases e4
    · rename_i e l off len cap k j hd
      split at e4
      · rename_i hc
        obtain ⟨s, e5, e6⟩ := map2 e4
        cases e6
        have hz : a.eval i = .int k j := hz
        cases cap with
        | k c =>
          obtain ⟨L, hL, hle, hx⟩ := hu
          refine VOK.op (VOK.pure h (r := .pointer (some (L.at (off + j.toNat * s)))) ?_ ⟨L, hL, rfl⟩)
          simp only [Instr.indexAt, hz, hx, asIntOf, Sem.run_bind, run_und hd, Result.andThen_ok, Sem.run_pure, hc, and_self, if_true, run_size e5, at_add]
        | u es =>
          obtain ⟨L, q, c, ⟨hL, _⟩, hle, _, hq, hx⟩ := hu
          have hq := hq (by omega)
          subst hq
          refine VOK.op (VOK.pure h (r := .pointer (some (L.at (off + j.toNat * s)))) ?_ ⟨L, hL, rfl⟩)
          simp only [Instr.indexAt, hz, hx, asIntOf, Sem.run_bind, run_und hd, Result.andThen_ok, Sem.run_pure, hc, and_self, if_true, run_size e5, at_add]
      · cases e4
    · cases e4
  case index t x i =>
    obtain ⟨u, e1, e2⟩ := bind2 hv
    obtain ⟨z, e3, e4⟩ := bind2 e2
    have hu := E e1
    have hz := E e3
    split at e4
    · rename_i n e cs k j hd
      split at e4
      · rename_i hc
        obtain ⟨s, e5, e6⟩ := bind2 e4
        obtain ⟨q, e7, e8⟩ := map2 e6
        cases e8
        obtain ⟨xs, hx, hxs⟩ := hu
        have hz : a.eval i = .int k j := hz
        obtain ⟨r, r1, r2⟩ := run_part (P := P) (w := w) e7 hxs
        refine VOK.op (VOK.pure h (r := r) ?_ r2)
        simp only [Instr.index, hz, hx, asIntOf, Sem.run_bind, run_und hd, Result.andThen_ok, Sem.run_pure, hc, and_self, if_true, run_size e5, r1]
      · cases e4
    · rename_i s k j hd
      split at e4
      · rename_i hc
        obtain ⟨b, e5, e6⟩ := map2 e4
        cases e6
        obtain ⟨y, hx, hy⟩ := hu
        have hz : a.eval i = .int k j := hz
        have hb : ∃ c : UInt8, y[j.toNat]? = some c ∧ c.toNat = b := by
          rw [← hy, List.getElem?_map] at e5
          obtain ⟨c, c1, c2⟩ := map2 e5
          refine ⟨c, ?_, c2⟩
          rw [Array.getElem?_toList] at c1
          have hlt : j.toNat < y.data.size := (Array.getElem?_eq_some_iff.1 c1).1
          have hlt' : j.toNat < y.size := hlt
          rw [getElem?_pos y _ hlt']
          rw [Array.getElem?_eq_getElem hlt] at c1
          exact c1
        obtain ⟨c, c1, c2⟩ := hb
        refine VOK.op (VOK.pure h (r := .int .u8 (b : Int)) ?_ rfl)
        simp only [Instr.index, hz, hx, asIntOf, Sem.run_bind, run_und hd, Result.andThen_ok, Sem.run_pure, hc, if_true, c1, c2]
      · cases e4
    · cases e4
  case lookup t m k ok =>
    obtain ⟨u, e1, e2⟩ := bind2 hv
    obtain ⟨z, e3, e4⟩ := bind2 e2
    split at e4
    · rename_i kt et hd
      split at e4
      · rename_i d hkt
        split at e4
        · rename_i hpk
          obtain ⟨r, e5, e6⟩ := bind2 e4
          obtain ⟨q, e7, e8⟩ := map2 e6
          cases e8
          obtain ⟨x, x1, x2⟩ := lookup_ok h hd hkt hpk (E e1) (E e3) e5 e7
          exact VOK.op (VOK.pure h x1 x2)
        · cases e4
      · cases e4
    · cases e4
  case mapUpdate t m k x =>
    obtain ⟨u, e1, e2⟩ := bind2 hv
    obtain ⟨z, e3, e4⟩ := bind2 e2
    obtain ⟨y, e5, e6⟩ := bind2 e4
    split at e6
    · rename_i kt et hd
      split at e6
      · rename_i d l hkt
        split at e6
        · rename_i es clock hpk hl
          obtain ⟨r, e7, e8⟩ := map2 e6
          cases e8
          obtain ⟨w', r1, r2⟩ := update_ok h hd hkt hpk (E e1) (E e3) (E e5) hl e7
          exact ⟨undef, w', ρ, .inr ⟨by simp only [Sem.run_bind, r1, Result.andThen_ok, Sem.run_pure], rfl⟩, undef_rel, r2⟩
        · cases e6
      · cases e6
    · cases e6
  case insert t m k x =>
    obtain ⟨u, e1, e2⟩ := bind2 hv
    obtain ⟨z, e3, e4⟩ := bind2 e2
    obtain ⟨y, e5, e6⟩ := bind2 e4
    split at e6
    · rename_i kt et hd
      split at e6
      · rename_i d l hkt
        split at e6
        · rename_i es clock hpk hl
          obtain ⟨r, e7, e8⟩ := map2 e6
          cases e8
          obtain ⟨w', r1, r2⟩ := update_ok h hd hkt hpk (E e1) (E e3) (E e5) hl e7
          exact ⟨undef, w', ρ, .inr ⟨by simp only [Sem.run_bind, r1, Result.andThen_ok, Sem.run_pure], rfl⟩, undef_rel, r2⟩
        · cases e6
      · cases e6
    · cases e6
  case extract x i =>
    obtain ⟨u, e1, e2⟩ := bind2 hv
    have hu := E e1
    split at e2
    · rename_i vs
      obtain ⟨q, e3, e4⟩ := map2 e2
      cases e4
      obtain ⟨xs, hx, hxs⟩ := hu
      obtain ⟨y, y1, y2⟩ := hxs.get _ _ e3
      refine VOK.op (VOK.pure h (r := y) ?_ y2)
      simp [hx, Instr.extract, y1]
    · cases e2
end
end Go.Vex
