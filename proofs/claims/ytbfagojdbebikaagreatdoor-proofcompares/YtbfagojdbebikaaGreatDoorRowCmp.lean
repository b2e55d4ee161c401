/- Layer 57: ProofCompares, whatever the claims: the walk's end, the row, the card. -/
import Derived.Test.YtbfagojdbebikaaGreatDoorRows
import Derived.Test.YtbfagojdbebikaaGreatDoorCards
import Derived.Test.YtbfagojdbebikaaGreatDoorTie
import Derived.ProofKit
import Derived.Lay
import Derived.Lib.SmallJoins
import Derived.Deep.Fields
import Derived.SizedLaws
import Derived.SevenTiedAt
import Derived.Test.YtbfagojdbebikaaGreatDoorSym57f
import Derived.Test.YtbfagojdbebikaaGreatDoorFit57
import Derived.Test.YtbfagojdbebikaaGreatDoorRoRep
namespace Go.Proofs.YtbfagojdbebikaaGreatDoor
open Go Go.Vex Go.RowKit

theorem cmp_walk {W : World} (hG : 8 ≤ W.heap.size) {k1 q1 n1 k2 q2 n2 : Int} {A1 B1 F1 A2 B2 F2 : Value} {la1 lb1 lf1 la2 lb2 lf2 : List Int}
    (ra1 : SliceIn W A1 la1) (rb1 : SliceIn W B1 lb1) (rf1 : SliceIn W F1 lf1) (ra2 : SliceIn W A2 la2) (rb2 : SliceIn W B2 lb2) (rf2 : SliceIn W F2 lf2)
    (za : la1.length < 2 ^ 62) (zb : lb1.length < 2 ^ 62) (zf : lf1.length < 2 ^ 62) :
    Calls Tryz.prog 5 #[.agg #[.int .i64 k1, .int .i64 q1, .int .i64 n1, A1, B1, F1], .agg #[.int .i64 k2, .int .i64 q2, .int .i64 n2, A2, B2, F2]] W fun e W' => e = .returned (.bool true) ∧ Below W.heap.size W W' := by
  have h0 : 0 < W.heap.size := by omega
  obtain ⟨L0, b0, c0, v0, p0⟩ := ra1.open h0
  obtain ⟨L1, b1, c1, v1, p1⟩ := rb1.open h0
  obtain ⟨L2, b2, c2, v2, p2⟩ := rf1.open h0
  obtain ⟨L3, b3, c3, v3, p3⟩ := ra2.open h0
  obtain ⟨L4, b4, c4, v4, p4⟩ := rb2.open h0
  obtain ⟨L5, b5, c5, v5, p5⟩ := rf2.open h0
  let rs : List (Vex.Loc × List Int) := [(L0, la1), (L1, lb1), (L2, lf1), (L3, la2), (L4, lb2), (L5, lf2)]
  have hrep : HRep Tryz.prog 8 W.heap.size (roRho 8 rs) ⟨roH 3 8 rs, 8 + rs.length⟩ W := ro_rep hG
    (fun r hr => by
      simp only [rs, List.mem_cons, List.mem_nil_iff, or_false] at hr
      rcases hr with rfl | rfl | rfl | rfl | rfl | rfl <;> assumption)
    (fun r hr => by
      simp only [rs, List.mem_cons, List.mem_nil_iff, or_false] at hr
      rcases hr with rfl | rfl | rfl | rfl | rfl | rfl <;> assumption)
  have at_ : ∀ (i : Nat) (r : Vex.Loc × List Int), rs[i]? = some r → (roH 3 8 rs).get (8 + i) = some (.cells (r.2.map (V.int .i64)) 3 .ro) := fun i r h => roH_at h
  obtain ⟨st', hgo⟩ := goes5 (st := ⟨roH 3 8 rs, 8 + rs.length⟩) (k1 := k1) (q1 := q1) (n1 := n1) (k2 := k2) (q2 := q2) (n2 := n2)
    ((p0 8).2 _ 3 (by show 8 < 8 + 6; omega) (at_ 0 (L0, la1) rfl)) ((p3 11).2 _ 3 (by show 11 < 8 + 6; omega) (at_ 3 (L3, la2) rfl)) ((p1 9).2 _ 3 (by show 9 < 8 + 6; omega) (at_ 1 (L1, lb1) rfl)) ((p4 12).2 _ 3 (by show 12 < 8 + 6; omega) (at_ 4 (L4, lb2) rfl))
    ((p2 10).2 _ 3 (by show 10 < 8 + 6; omega) (at_ 2 (L2, lf1) rfl)) ((p5 13).2 _ 3 (by show 13 < 8 + 6; omega) (at_ 5 (L5, lf2) rfl)) za zb zf
  have hx : VRels (roRho 8 rs) [claimV k1 q1 n1 (v0 8) (v1 9) (v2 10), claimV k2 q2 n2 (v3 11) (v4 12) (v5 13)] [.agg #[.int .i64 k1, .int .i64 q1, .int .i64 n1, A1, B1, F1], .agg #[.int .i64 k2, .int .i64 q2, .int .i64 n2, A2, B2, F2]] :=
    .cons ⟨_, rfl, .cons rfl (.cons rfl (.cons rfl (.cons ((p0 8).1 _ rfl) (.cons ((p1 9).1 _ rfl) (.cons ((p2 10).1 _ rfl) .nil)))))⟩
      (.cons ⟨_, rfl, .cons rfl (.cons rfl (.cons rfl (.cons ((p3 11).1 _ rfl) (.cons ((p4 12).1 _ rfl) (.cons ((p5 13).1 _ rfl) .nil)))))⟩ .nil)
  refine Calls.mono (hgo.callsIn fitk hrep hx) fun e w' he => ?_
  obtain ⟨r, ρ', rfl, hr, hs⟩ := he
  exact ⟨by rw [show r = .bool true from hr], hs.below hrep⟩

section
open Go.Joins Go.ChangeShapes Go.WideShapes Go.ChangeAt Go.Deep
variable {H : Type} {enc : TypeId × Value → H} {w : World} {base : Nat} {spare : Nat → Bool} {held : Bool}
theorem open_agg6 {P : Program} {r : Reach} {b0 : Nat} {t : TypeId} {f0 f1 f2 f3 f4 f5 : Field} {v : Value} {d : DataW H} {p : List MemPlace} (hs : P.underlying t = some (.struct #[f0, f1, f2, f3, f4, f5])) (hone : oneCellFields P #[f0, f1, f2, f3, f4, f5] = true) (hC : P.cellsOf t = 6)
    (hv : Value.okWide P w r b0 t v) (h : DataW.Trod enc P w base spare held t v d p) :
    ∃ (v0 v1 v2 v3 v4 v5 : Value) (y0 y1 y2 y3 y4 y5 : DataW H × List MemPlace) (n : Nat), v = .agg #[v0, v1, v2, v3, v4, v5] ∧ d = .agg [y0.1, y1.1, y2.1, y3.1, y4.1, y5.1] ∧
      DataW.trod enc P w base spare held n f0.type [v0] = some y0 ∧ DataW.trod enc P w base spare held n f1.type [v1] = some y1 ∧ DataW.trod enc P w base spare held n f2.type [v2] = some y2 ∧ DataW.trod enc P w base spare held n f3.type [v3] = some y3 ∧ DataW.trod enc P w base spare held n f4.type [v4] = some y4 ∧ DataW.trod enc P w base spare held n f5.type [v5] = some y5 := by
  obtain ⟨cs, rfl, hsz⟩ := okWide_struct hs hv
  obtain ⟨l⟩ := cs
  match l, hsz.trans hC with
  | [c0, c1, c2, c3, c4, c5], _ =>
    obtain ⟨fuel, hf⟩ := h
    obtain ⟨xs, n, _, hx, _, hlen, hg⟩ := DataW.trod_struct hs hf
    obtain ⟨o0, k0⟩ := hone_of hone 0 f0 rfl
    obtain ⟨o1, k1⟩ := hone_of hone 1 f1 rfl
    obtain ⟨o2, k2⟩ := hone_of hone 2 f2 rfl
    obtain ⟨o3, k3⟩ := hone_of hone 3 f3 rfl
    obtain ⟨o4, k4⟩ := hone_of hone 4 f4 rfl
    obtain ⟨o5, k5⟩ := hone_of hone 5 f5 rfl
    match xs, hlen with
    | [y0, y1, y2, y3, y4, y5], _ =>
      simp only [Prod.mk.injEq] at hx
      exact ⟨c0, c1, c2, c3, c4, c5, y0, y1, y2, y3, y4, y5, n, rfl, by simpa using hx.1, by simpa [Value.cells, o0, k0] using hg 0 f0 rfl, by simpa [Value.cells, o1, k1] using hg 1 f1 rfl, by simpa [Value.cells, o2, k2] using hg 2 f2 rfl, by simpa [Value.cells, o3, k3] using hg 3 f3 rfl, by simpa [Value.cells, o4, k4] using hg 4 f4 rfl, by simpa [Value.cells, o5, k5] using hg 5 f5 rfl⟩

/-- A cell that holds a slice of whole numbers: what it reads as. -/
theorem slice_in {P : Program} {r : Reach} {b0 : Nat} {t e : TypeId} {n : Nat} {v : Value} {y : DataW H × List MemPlace} (ht : P.underlying t = some (.slice e)) (he : P.underlying e = some (.int .i64)) (hc : P.cellsOf e = 1)
    (hv : Cell.okWide P w r b0 t v) (h : DataW.trod enc P w 0 (fun _ => true) true n t [v] = some y) : ∃ l, SliceIn w v l ∧ (l = [] ∨ ∃ es sp, y.1 = .slice es sp ∧ l.length = es.length) := by
  rcases open_ints ht he hc h with ⟨h1, _⟩ | ⟨a, len, cap, zs, h1, _, hle, _, hz, hx, hcell, _⟩
  · obtain rfl : v = .slice none 0 0 := by simpa using h1
    exact ⟨[], .inl ⟨rfl, rfl⟩, .inl rfl⟩
  · obtain rfl : v = .slice (some a) len cap := by simpa using h1
    simp only [if_true] at hz
    have hok : len ≤ cap ∧ (cap : Int) ≤ IntKind.i64.max ∧ w.has P r b0 a e cap := by
      unfold Cell.okWide at hv
      rw [ht] at hv
      simp only [Cell.ok, ht] at hv
      exact hv
    obtain ⟨_, hsp, row, cells, hshape, _⟩ := hok.2.2
    have hblk : a.block < w.heap.size := by
      unfold World.shape? at hshape
      rcases Nat.lt_or_ge a.block w.heap.size with hh | hh
      · exact hh
      · rw [Array.getElem?_eq_none hh] at hshape; cases hshape
    obtain ⟨blk, off, spot⟩ := a
    simp only at hsp
    subst hsp
    refine ⟨zs.take len, .inr ⟨⟨blk, off, 0, 0⟩, cap, ?_, ?_, hblk, fun i x hi => ?_⟩, .inr ⟨ChangeShapes.lits .i64 (zs.take len), ChangeShapes.lits .i64 (zs.drop len), ?_, ?_⟩⟩
    · simp [Loc.at, hz, Nat.min_eq_left hle]
    · simp [hz, Nat.min_eq_left hle, hle]
    · rw [List.getElem?_take] at hi
      split at hi
      · rename_i hil
        have := hcell i (by omega)
        rw [List.getD_eq_getElem?_getD, hi] at this
        rw [← Option.getD_some (a := x) (b := 0), ← this]
        have had : (⟨blk, off, none⟩ : Addr).add i = Loc.at ⟨blk, off, 0, 0⟩ i := by
          have := at_add ⟨blk, off, 0, 0⟩ 0 i
          simpa [Loc.at] using this
        rw [had]
      · cases hi
    · rw [hx]
    · simp [ChangeShapes.lits]
end

/-- A listed variable has its block. -/
theorem laid_block {P : Program} {w : World} : ∀ {l : List (String × DataW Unit)} {ps : List MemPlace}, DataW.LaidVars P w l ps → ∀ n d, (n, d) ∈ l → ∃ g cs, P.globalNamed n = some g ∧ w.var? P n = some cs
  | [], _, _, _, _, hm => by cases hm
  | (n', d') :: r, ps, h, n, d, hm => by
    obtain ⟨g, t, cs, fuel, p, q, h1, h2, h3, h4, h5, _⟩ := h
    rcases List.mem_cons.1 hm with e | e
    · cases e
      exact ⟨g, cs, h1, h3⟩
    · exact laid_block h5 n d e

theorem own : ownKnob Tryz.prog.godebug = none := by kernel_rfl
theorem laidOut : laidOutB Tryz.prog = true := by kernel_rfl
theorem cells38 : Tryz.prog.cellsOf 38 = 1 := by kernel_rfl
theorem cells3 : Tryz.prog.cellsOf 3 = 1 := by kernel_rfl
theorem cells40 : Tryz.prog.cellsOf 40 = 6 := by kernel_rfl
theorem types40 : Tryz.prog.cellTypes Tryz.prog.depth 40 = some [3, 3, 3, 38, 38, 37] := by kernel_rfl
theorem one40 : ∀ fs, Tryz.prog.underlying 40 = some (.struct fs) → Go.Deep.oneCellFields Tryz.prog fs = true := by
  intro fs h
  obtain rfl := TypeDesc.struct.inj (Option.some.inj (Tryz.underlying40.symm.trans h))
  kernel_rfl

section
open Go.Joins Go.ChangeShapes Go.WideShapes Go.ChangeAt Go.Deep
variable {H : Type} {enc : TypeId × Value → H} {w : World}
set_option maxRecDepth 100000 in
/-- A claim that came in. -/
theorem open_claim {b0 : Nat} {v : Value} {d : DataW H} {p : List MemPlace} (hv : Value.okWide Tryz.prog w .any b0 40 v) (h : DataW.Trod enc Tryz.prog w 0 (fun _ => true) true 40 v d p) (hsz : ∀ n ∈ d.weights Tryz.prog 40, n ≤ reachBytes) :
    ∃ (k q n : Int) (A B F : Value) (la lb lf : List Int), v = .agg #[.int .i64 k, .int .i64 q, .int .i64 n, A, B, F] ∧ SliceIn w A la ∧ SliceIn w B lb ∧ SliceIn w F lf ∧ la.length < 2 ^ 62 ∧ lb.length < 2 ^ 62 ∧ lf.length < 2 ^ 62 := by
  have hone := one40 _ Tryz.underlying40
  obtain ⟨v0, v1, v2, v3, v4, v5, y0, y1, y2, y3, y4, y5, n, rfl, rfl, h0, h1, h2, h3, h4, h5⟩ := open_agg6 Tryz.underlying40 hone cells40 hv h
  obtain ⟨i0, e0, _⟩ := DataW.trod_int Tryz.underlying3 h0
  obtain ⟨i1, e1, _⟩ := DataW.trod_int Tryz.underlying3 h1
  obtain ⟨i2, e2, _⟩ := DataW.trod_int Tryz.underlying3 h2
  obtain rfl : v0 = .int .i64 i0 := by simpa using e0
  obtain rfl : v1 = .int .i64 i1 := by simpa using e1
  obtain rfl : v2 = .int .i64 i2 := by simpa using e2
  have hcell : ∀ (i : Nat) (x : Value) (u : TypeId), (#[Value.int .i64 i0, .int .i64 i1, .int .i64 i2, v3, v4, v5] : Array Value)[i]? = some x → i < 6 → ([3, 3, 3, 38, 38, 37] : List TypeId)[i]? = some u → Cell.okWide Tryz.prog w .any b0 u x := by
    intro i x u hx hi hu
    unfold Value.okWide at hv
    rw [Tryz.underlying40] at hv
    obtain ⟨cs, e, _, ts, ht, _, hall⟩ := hv
    obtain rfl := Value.agg.inj e
    rw [types40] at ht
    obtain rfl := Option.some.inj ht
    obtain ⟨u', hu', hk⟩ := hall i x hx
    rw [show ([3, 3, 3, 38, 38, 37] : List TypeId).length = 6 from rfl, Nat.mod_eq_of_lt hi, hu] at hu'
    rw [Option.some.inj hu']
    exact hk
  obtain ⟨la, ra, sa⟩ := slice_in Tryz.underlying38 Tryz.underlying3 cells3 (hcell 3 v3 38 rfl (by omega) rfl) h3
  obtain ⟨lb, rb, sb⟩ := slice_in Tryz.underlying38 Tryz.underlying3 cells3 (hcell 4 v4 38 rfl (by omega) rfl) h4
  obtain ⟨lf, rf, sf⟩ := slice_in Tryz.underlying37 Tryz.underlying3 cells3 (hcell 5 v5 37 rfl (by omega) rfl) h5
  have hb8 : Tryz.prog.bytesOf 3 = 8 := by kernel_rfl
  have hr : reachBytes < 2 ^ 47 := reachBytes_lt
  have len : ∀ (i : Nat) (u : TypeId) (y : DataW H × List MemPlace) (l : List Int), Tryz.prog.underlying u = some (.slice 3) → ([3, 3, 3, 38, 38, 37] : List TypeId)[i]? = some u → [y0.1, y1.1, y2.1, y3.1, y4.1, y5.1][i]? = some y.1 → (l = [] ∨ ∃ es sp, y.1 = .slice es sp ∧ l.length = es.length) → l.length < 2 ^ 62 := by
    intro i u y l hu hi hy hl
    rcases hl with rfl | ⟨es, sp, e, hl⟩
    · simp
    · have hmem := DataW.weights_mem_each (P := Tryz.prog) hi hy ((es.length + sp.length) * Tryz.prog.bytesOf 3) (by rw [e]; simp [DataW.weights, hu])
      have := hsz _ (by simp only [DataW.weights, Tryz.underlying40]; exact hmem)
      rw [hb8] at this
      omega
  exact ⟨i0, i1, i2, v3, v4, v5, la, lb, lf, rfl, ra, rb, rf, len 3 38 y3 la Tryz.underlying38 rfl rfl sa, len 4 38 y4 lb Tryz.underlying38 rfl rfl sb, len 5 37 y5 lf Tryz.underlying37 rfl rfl sf⟩

set_option maxRecDepth 100000 in
theorem lifted (os : Os) (started : os.Started) (H : Type) (enc : TypeId × Value → H) :
    ReturnsInHanded {} Tryz.checked os 5 .any (fun w args => (Rows.proofComparesSpec.pre enc Tryz.prog Tryz.f5 [] false w args ∧ laidMetH Tryz.prog Rows.proofComparesRow.laid w) ∧ sizedMet enc Tryz.prog Tryz.f5 (OpenSpec.ofChange Rows.proofComparesSpec) false w args)
      (Rows.proofComparesSpec.post enc Tryz.prog Tryz.f5 false true false false) := by
  refine returnsInHanded_of_change_and (C := Tryz.checked) (X := fun w _ => laidMetH Tryz.prog Rows.proofComparesRow.laid w) (fun _ _ _ hh h => h.of_heap hh) own started (by kernel_rfl) Tryz.func5
    (ChangeSpec.witness_shaped (enc := enc) (C := Tryz.checked) (os := os) (X := fun w _ => laidMetH Tryz.prog Rows.proofComparesRow.laid w) false (World.laidAll Tryz.prog os Rows.proofComparesRow.laid)
      #[.agg #[.int .i64 0, .int .i64 0, .int .i64 0, .slice none 0 0, .slice none 0 0, .slice none 0 0], .agg #[.int .i64 0, .int .i64 0, .int .i64 0, .slice none 0 0, .slice none 0 0, .slice none 0 0]] 8 (World.laidAll_os _ _ _)
      (World.shaped_of_ZipB (by kernel_rfl) (by kernel_rfl)) (by kernel_rfl) (by kernel_rfl) (by kernel_rfl)
      (by rw [MakeChecks.laidMetH_plain _ _ _ (by kernel_rfl)]; exact laidMet_laidAll _ (by kernel_rfl) (by kernel_rfl))) ?_
  intro W base args ds gs before hval0 hW _ hsz0 hL _
  have hsz : (DataW.weightsEach Tryz.prog (Tryz.f5.params.toList ++ Rows.proofComparesSpec.plain.varTypes Tryz.prog) (ds ++ gs)).all (· ≤ reachBytes) = true := hsz0
  have hval : ∀ (j : Nat) t v, Tryz.f5.params[j]? = some t → args[j]? = some v → Value.okWide Tryz.prog W .any base t v := hval0
  have hW' := hW
  obtain ⟨p, q, hA0, hV, rfl, hfz, hnd⟩ := hW
  have hA : DataW.TrodAll enc Tryz.prog W 0 (fun _ => true) true Tryz.f5.params.toList args.toList ds p := hA0
  rw [Tryz.params5] at hA hval hsz
  obtain ⟨v0, vs0, d0, ds0, p0, q0, hargs, rfl, rfl, h0, r0⟩ := trodAll_cons hA
  obtain ⟨v1, vs1, d1, ds1, p1, q1, rfl, rfl, rfl, h1, r1⟩ := trodAll_cons r0
  obtain ⟨rfl, rfl, rfl⟩ := trodAll_nil r1
  obtain rfl : args = #[v0, v1] := by cases args; simp_all
  obtain ⟨rfl, rfl⟩ := trodVars_none hV
  rw [MakeChecks.laidMetH_plain _ _ _ (by kernel_rfl)] at hL
  have hG : 8 ≤ W.heap.size := by
    obtain ⟨_, hlv, _⟩ := hL
    obtain ⟨g, cs, hg, hv⟩ := laid_block hlv "math/bits.deBruijn64tab" Rows.laid_math_bits_deBruijn64tab (by simp [Rows.proofComparesRow])
    obtain rfl : g = 7 := Option.some.inj (hg.symm.trans (by kernel_rfl))
    simp only [World.var?, hg, Option.bind_some] at hv
    rcases Nat.lt_or_ge 7 W.heap.size with hh | hh
    · exact hh
    · rw [Array.getElem?_eq_none hh] at hv; simp at hv
  have hwt : ∀ (j : Nat) (d : DataW H), [d0, d1][j]? = some d → ∀ n ∈ d.weights Tryz.prog 40, n ≤ reachBytes := by
    intro j d hd n hn
    have hj : ([40, 40] : List TypeId)[j]? = some 40 := by
      rcases j with _ | _ | j
      · rfl
      · rfl
      · simp at hd
    have := List.all_eq_true.1 hsz n (DataW.weights_mem_each (j := j) (t := 40) (d := d) (by rw [List.getElem?_append_left (by rcases j with _ | _ | j <;> simp at hd ⊢)]; exact hj) (by simpa using hd) n hn)
    simpa using this
  obtain ⟨k1, q1', n1, A1, B1, F1, la1, lb1, lf1, rfl, ra1, rb1, rf1, za, zb, zf⟩ := open_claim (hval 0 40 v0 rfl rfl) h0 (hwt 0 d0 rfl)
  obtain ⟨k2, q2', n2, A2, B2, F2, la2, lb2, lf2, rfl, ra2, rb2, rf2, _, _, _⟩ := open_claim (hval 1 40 v1 rfl rfl) h1 (hwt 1 d1 rfl)
  have lt0 : ∀ x ∈ p0, x.block < W.heap.size := by obtain ⟨m, hm⟩ := h0; exact DataW.trod_lt m _ _ _ hm
  have lt1 : ∀ x ∈ p1, x.block < W.heap.size := by obtain ⟨m, hm⟩ := h1; exact DataW.trod_lt m _ _ _ hm
  clear hA0 hval0 hsz0 hsz
  refine (cmp_walk hG ra1 rb1 rf1 ra2 rb2 rf2 za zb zf).mono fun e W' ⟨he, bel⟩ => ?_
  subst he
  exact ⟨_, rfl, _, _, _, [], _, [], hW', trodAll_mk1 (shut_bool Tryz.underlying4 _), trodAll_cons_mk (Below.trod laidOut (by kernel_rfl) (of_decide_eq_true (by kernel_rfl)) h0 bel lt0) (trodAll_cons_mk (Below.trod laidOut (by kernel_rfl) (of_decide_eq_true (by kernel_rfl)) h1 bel lt1) trodAll_mk0), rfl, bel.frame _, fun h => by cases h⟩
end

end Go.Proofs.YtbfagojdbebikaaGreatDoor
