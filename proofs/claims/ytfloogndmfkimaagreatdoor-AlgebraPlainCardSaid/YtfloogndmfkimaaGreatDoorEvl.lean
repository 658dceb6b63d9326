/- The contract of algebra.newEvaluator. -/
import Derived.Test.YtfloogndmfkimaaGreatDoorC2
import Derived.Test.YtfloogndmfkimaaGreatDoorAm4

namespace Go.Proofs.YtfloogndmfkimaaGreatDoor
open Go Go.AM Go.Proofs
set_option maxRecDepth 100000

theorem kindOk_int {k : IntKind} {v : Value} (h : AM.kindOk (.i k) v = true) : ∃ a, v = .int k a := by
  cases v with
  | int j a =>
    have : k = j := by simpa [AM.kindOk] using h
    exact ⟨a, by rw [this]⟩
  | _ => cases h

theorem kinds_two {k : IntKind} {l : List Value} (h : kindsOk [.i k, .i k] l = true) : ∃ a b, l = [.int k a, .int k b] := by
  match l, h with
  | [], h => cases h
  | [x], h => simp [kindsOk] at h
  | [x, y], h =>
    simp only [kindsOk, Bool.and_eq_true] at h
    obtain ⟨a, rfl⟩ := kindOk_int h.1
    obtain ⟨b, rfl⟩ := kindOk_int h.2.1
    exact ⟨a, b, rfl⟩
  | x :: y :: z :: r, h => simp [kindsOk] at h

theorem eqCell_int {k : IntKind} {a : Int} {v : Value} {q : Bool} (h : eqCell (.int k a) v = some q) : ∃ b, v = .int k b ∧ q = decide (a = b) := by
  cases v with
  | int j b =>
    by_cases e : k = j
    · subst e
      simp only [eqCell, decide_true, Option.some.injEq] at h
      exact ⟨b, rfl, h.symm⟩
    · simp [eqCell, e] at h
  | _ => cases h

theorem eqCells_two {k : IntKind} {a1 a2 : Int} {l : List Value} {q : Bool} (h : eqCells [.int k a1, .int k a2] l = some q) : ∃ b1 b2, l = [.int k b1, .int k b2] ∧ q = (decide (a1 = b1) && decide (a2 = b2)) := by
  match l, h with
  | [], h => cases h
  | [x], h => cases hx : eqCell (.int k a1) x <;> simp [eqCells, hx] at h
  | [x, y], h =>
    cases hx : eqCell (.int k a1) x with
    | none => simp [eqCells, hx] at h
    | some q1 =>
      cases hy : eqCell (.int k a2) y with
      | none => simp [eqCells, hx, hy] at h
      | some q2 =>
        obtain ⟨b1, rfl, rfl⟩ := eqCell_int hx
        obtain ⟨b2, rfl, rfl⟩ := eqCell_int hy
        simp [eqCells, hx, hy] at h
        exact ⟨b1, b2, rfl, by rw [← h]⟩
  | x :: y :: z :: r, h => cases hx : eqCell (.int k a1) x <;> cases hy : eqCell (.int k a2) y <;> simp [eqCells, hx, hy] at h

/-- An array of two integers. -/
theorem eqOk_two {P : Program} {t e : TypeId} {k : IntKind} (hu : P.underlying t = some (.array 2 e)) (he : P.underlying e = some (.int k)) {inf : TypeInfo} (hi : P.info? e = some inf) (hs : inf.size = 1) (hg : P.eqGuardType P.depth t = false) : EqOk P t [.i k, .i k] := by
  refine ⟨hg, fun xs ys b w hk hq => ?_⟩
  obtain ⟨xl⟩ := xs
  obtain ⟨yl⟩ := ys
  obtain ⟨a1, a2, hx⟩ := kinds_two hk
  simp only at hx
  subst hx
  obtain ⟨b1, b2, hy, rfl⟩ := eqCells_two hq
  simp only at hy
  subst hy
  have hsz : (sizeOf e).run P w = .ok 1 w := by simp [sizeOf, run_info hi, hs]
  have hag : (isAgg e).run P w = .ok false w := by simp [isAgg, run_underlying he]
  have one : ∀ (d : Nat) (x y : Int), (Op.equalIn (d + 1) e (.int k x) (.int k y)).run P w = .ok (x == y) w := fun d x y => by simp [Op.equalIn, run_underlying he]
  have p0 : ∀ (x y : Value), (part e ⟨[x, y]⟩ 0).run P w = .ok x w := fun x y => by simp [part, hag]
  have p1 : ∀ (x y : Value), (part e ⟨[x, y]⟩ 1).run P w = .ok y w := fun x y => by simp [part, hag]
  have hd : (Op.equal t (.agg ⟨[.int k a1, .int k a2]⟩) (.agg ⟨[.int k b1, .int k b2]⟩)) = Op.equalIn (9998 + 1 + 1) t (.agg ⟨[.int k a1, .int k a2]⟩) (.agg ⟨[.int k b1, .int k b2]⟩) := rfl
  rw [hd]
  have o1 := one 9998 a1 b1
  have o2 := one 9998 a2 b2
  generalize hE : Op.equalIn (9998 + 1) e = EQ at o1 o2
  unfold Op.equalIn
  simp only [hE, Sem.run_bind, run_underlying hu, Result.andThen_ok, hsz]
  have d1 : decide (a1 = b1) = (a1 == b1) := rfl
  have d2 : decide (a2 = b2) = (a2 == b2) := rfl
  rw [d1, d2]
  generalize (a1 == b1) = q1 at *
  generalize (a2 == b2) = q2 at *
  cases q1 <;> cases q2 <;> simp [Std.Legacy.Range.forIn_eq_forIn_range', List.range', p0, p1, o1, o2]

theorem eq24 : ∀ ks, eqs8 24 = some ks → EqOk Tryz.prog 24 ks := fun ks h => by
  cases h
  exact eqOk_flat (n := 8) (by omega) (by kernel_rfl) Tryz.underlying24 Tryz.eqGuardType24
theorem eq26 : ∀ ks, eqs8 26 = some ks → EqOk Tryz.prog 26 ks := fun ks h => by
  cases h
  exact eqOk_flat (n := 8) (by omega) (by kernel_rfl) Tryz.underlying26 Tryz.eqGuardType26
theorem eq57 : ∀ ks, eqs8 57 = some ks → EqOk Tryz.prog 57 ks := fun ks h => by
  cases h
  exact eqOk_flat (n := 8) (by omega) (by kernel_rfl) Tryz.underlying57 Tryz.eqGuardType57
theorem eq107 : ∀ ks, eqs8 107 = some ks → EqOk Tryz.prog 107 ks := fun ks h => by
  cases h
  exact eqOk_flat (n := 8) (by omega) (by kernel_rfl) Tryz.underlying107 Tryz.eqGuardType107
theorem eq134 : ∀ ks, eqs8 134 = some ks → EqOk Tryz.prog 134 ks := fun ks h => by
  cases h
  exact eqOk_flat (n := 8) (by omega) (by kernel_rfl) Tryz.underlying134 Tryz.eqGuardType134
theorem eq98 : ∀ ks, eqs8 98 = some ks → EqOk Tryz.prog 98 ks := fun ks h => by
  cases h
  exact eqOk_two Tryz.underlying98 Tryz.underlying3 (inf := (Tryz.prog.info? 3).getD default) (by kernel_rfl) (by kernel_rfl) Tryz.eqGuardType98

theorem eqs8_ok {E : Env} (hP : E.P = Tryz.prog) (he : E.eqs = eqs8) : EqsOk E := by
  intro t ks h
  rw [hP]
  rw [he] at h
  have h' := h
  unfold eqs8 at h
  split at h
  · rename_i hb
    obtain rfl := Nat.eq_of_beq_eq_true hb
    exact eq24 ks h'
  split at h
  · rename_i hb
    obtain rfl := Nat.eq_of_beq_eq_true hb
    exact eq26 ks h'
  split at h
  · rename_i hb
    obtain rfl := Nat.eq_of_beq_eq_true hb
    exact eq57 ks h'
  split at h
  · rename_i hb
    obtain rfl := Nat.eq_of_beq_eq_true hb
    exact eq107 ks h'
  split at h
  · rename_i hb
    obtain rfl := Nat.eq_of_beq_eq_true hb
    exact eq134 ks h'
  split at h
  · rename_i hb
    obtain rfl := Nat.eq_of_beq_eq_true hb
    exact eq98 ks h'
  cases h

end Go.Proofs.YtfloogndmfkimaaGreatDoor

namespace Go.Proofs.YtfloogndmfkimaaGreatDoor
open Go Go.AM Go.Proofs
open Go.ChangeMaps (setBlock)
set_option maxRecDepth 100000

/-! The two maps. -/

noncomputable def E0 : Env := { P := Tryz.prog, eqs := fun _ => none, ext := fun _ => none }
theorem eqs0 : EqsOk E0 := fun t ks h => by cases h
theorem extOk0 : ExtOk E0 := fun f args H r h => by cases h
theorem g0 : E0.P.globals.size = 3 := by kernel_rfl

theorem lifts_bare : call E0 20 113 [] (bare 3) = some ⟨.map (some 3), (bare 3).push (.map liftsL), []⟩ := by kernel_rfl
theorem periods_bare : call E0 20 114 [] (bare 3) = some ⟨.map (some 3), (bare 3).push (.map periodsL), []⟩ := by kernel_rfl

theorem map_told {E : Env} (hP : E.P = Tryz.prog) {f : FuncId} {L : List (Value × Value)} (h : call E0 20 f [] (bare 3) = some ⟨.map (some 3), (bare 3).push (.map L), []⟩) (hL : renO (fun i => some i) (.map L) = some (.map L)) (hr : ∀ k, renOs (renN 3 k [3]) ((bare 3).push (.map L)) [3] = some [.map L]) (H : Heap) :
    CallOk E f [] H ⟨.map (some H.n), H.push (.map L), []⟩ ∧ HeapKeeps H (H.push (.map L)) [] := by
  have h1 := (call_ok eqs0 extOk0 20 f [] (bare 3) _ h).1
  have h2 : CallOk E0 f [] (bare E0.P.globals.size) ⟨.map (some 3), (bare 3).push (.map L), []⟩ := by rw [g0]; exact h1
  have hv : renV (renN E0.P.globals.size H.n [3]) 12 (.map (some 3)) = some (.map (some H.n)) := by rw [g0]; rfl
  have ho : renOs (renN E0.P.globals.size H.n [3]) ((bare 3).push (.map L)) [3] = some [.map L] := by rw [g0]; exact hr H.n
  have := shift_call (E := E0) (H := H) (ids := [3]) h2 rfl (by rw [g0]; rfl) (by simp) hv ho
  refine ⟨?_, this.2⟩
  have h3 := this.1
  unfold CallOk at h3 ⊢
  rw [hP]
  exact h3

noncomputable def mapX (L : List (Value × Value)) : List Value → Heap → Option CallRes
  | [], H => some ⟨.map (some H.n), H.push (.map L), []⟩
  | _, _ => none

noncomputable def extV (f : FuncId) : Option (List Value → Heap → Option CallRes) :=
  match Nat.beq f 113 with
  | true => some (mapX liftsL)
  | false => match Nat.beq f 114 with
    | true => some (mapX periodsL)
    | false => none

noncomputable def Ev : Env := { P := Tryz.prog, eqs := fun _ => none, ext := extV }
theorem eqsV : EqsOk Ev := fun t ks h => by cases h
theorem gV : Ev.P.globals.size = 3 := by kernel_rfl
theorem extOkV : ExtOk Ev := fun f args H r h => by
  have hm : ∀ {L : List (Value × Value)}, mapX L args H = some r → args = [] ∧ r = ⟨.map (some H.n), H.push (.map L), []⟩ := by
    intro L hx
    unfold mapX at hx
    split at hx
    · cases hx; exact ⟨rfl, rfl⟩
    · cases hx
  unfold told at h
  split at h
  · rename_i k hk
    have hk' : extV f = some k := hk
    unfold extV at hk'
    split at hk'
    · rename_i hb
      obtain rfl := Nat.eq_of_beq_eq_true hb
      cases hk'
      obtain ⟨rfl, rfl⟩ := hm h
      exact map_told rfl lifts_bare (by kernel_rfl) (fun k => by kernel_rfl) H
    split at hk'
    · rename_i hb
      obtain rfl := Nat.eq_of_beq_eq_true hb
      cases hk'
      obtain ⟨rfl, rfl⟩ := hm h
      exact map_told rfl periods_bare (by kernel_rfl) (fun k => by kernel_rfl) H
    cases hk'
  · cases h

theorem lifts_call (n : Nat) (H : Heap) : call Ev n 113 [] H = some ⟨.map (some H.n), H.push (.map liftsL), []⟩ := call_told rfl n
theorem periods_call (n : Nat) (H : Heap) : call Ev n 114 [] H = some ⟨.map (some H.n), H.push (.map periodsL), []⟩ := call_told rfl n

/-! The loop. -/

theorem gN {t : TT} {j k : Nat} {v w : Value} (h : t.get j = w) (hj : j < 1048576 := by decide) (hk : k < 1048576 := by decide) (hne : j ≠ k := by decide) : (t.put (some k) v).get j = w := by
  show (t.set k v).get j = w
  rw [TT.get_set_ne hj hk hne]; exact h
theorem gS {t : TT} {k : Nat} {v : Value} : (t.put (some k) v).get k = v := TT.get_set

/-- The heap in the loop: what newEvaluator made; the entries visited so far stand behind those of the first map. -/
structure HeapV (base : Nat) (cs : List Value) (vis : List (Value × Value)) (K : Heap) : Prop where
  n : K.n = base + 4
  o0 : K.get base = .cells cs 76 false
  o1 : K.get (base + 1) = .map (liftsL ++ vis)
  o2 : K.get (base + 2) = .map periodsL
  o3 : K.get (base + 3) = .dead

theorem keys_periods : (periodsL.map (·.1)).Nodup := by
  simp [periodsL]

/-- The invariant. -/
structure Inv (base : Nat) (cs : List Value) (H0 : Heap) (φ0 : Phi) (w0 : World) (vis : List (Value × Value)) (φ : Phi) (t : TT) (K : Heap) (es : Array MapEntry) (clk : Nat) (seen : Array Nat) (L2 L3 : AM.Loc) (a : Act) (w : World) : Prop where
  c : ConfAt 3 base 21 φ0 w0 φ t K [] a w
  hv : HeapV base cs vis K
  old : ∀ j, j < base → K.get j = H0.get j
  t1 : t.get 1 = .pointer (some ⟨base, 0, none⟩)
  t3 : t.get 3 = .map (some (base + 1))
  t8 : t.get 8 = .pointer (some ⟨base + 3, 0, none⟩)
  f2 : φ (base + 2) = some L2
  f3 : φ (base + 3) = some L3
  b3 : L3.base = 0
  it : w.heap[L3.b]? = some (.mapIter (some L2.b) clk seen clk)
  mp : w.heap[L2.b]? = some (.map es clk)
  rel : MapRel φ periodsL es.toList
  st : Stamps clk es.toList
  i1 : ∀ i L, φ i = some L → L.b = L3.b → i = base + 3
  i2 : w0.heap.size ≤ L3.b
  sub : ∀ p, p ∈ vis → p ∈ periodsL
  nd : (vis.map (·.1)).Nodup
  seenok : ∀ b, b ∈ seen → ∃ e, e ∈ es.toList ∧ e.born = b ∧ ∃ p, p ∈ vis ∧ p.1 = e.key
  visok : ∀ p, p ∈ vis → ∃ e, e ∈ es.toList ∧ e.key = p.1 ∧ e.born ∈ seen

def InvE (base : Nat) (cs : List Value) (H0 : Heap) (φ0 : Phi) (w0 : World) (m : Nat) (a : Act) (w : World) : Prop :=
  ∃ vis φ t K es clk seen L2 L3, Inv base cs H0 φ0 w0 vis φ t K es clk seen L2 L3 a w ∧ (es.toList.filter fun e => !seen.contains e.born).length = m

end Go.Proofs.YtfloogndmfkimaaGreatDoor

namespace Go.Proofs.YtfloogndmfkimaaGreatDoor
open Go Go.AM Go.Proofs
open Go.ChangeMaps (setBlock)
set_option maxRecDepth 100000

def fstC : Code → Code
  | .seq a _ => a
  | c => c
def sndC : Code → Code
  | .seq _ b => b
  | c => c
def loopIn : Code → Code
  | .block _ (.loop c) => c
  | c => c
noncomputable def code55 : Code := Tryz.f55.body.getD .skip
noncomputable def body55 : Code := loopIn (sndC (fstC (sndC (sndC code55))))

theorem eval_put {a : Act} {k j : Nat} {v : Value} (hk : k < a.tmps.size) : (a.put (some k) v).eval (.tmp j) = if j = k then v else a.eval (.tmp j) := by
  show (a.tmps.setIfInBounds k v).getD j undef = _
  by_cases h : j = k
  · subst h
    simp [hk]
  · rw [if_neg h]
    show _ = a.tmps.getD j undef
    simp only [Array.getD_eq_getD_getElem?]
    rw [Array.getElem?_setIfInBounds_ne (fun e => h e.symm)]

theorem keyed : ∀ p, p ∈ liftsL ++ periodsL → ∃ n : Int, p.1 = .int .i64 n := by
  simp [liftsL, periodsL]

theorem apart_lifts : ∀ p, p ∈ periodsL → ∀ q, q ∈ liftsL → sameKey p.1 q.1 = some false := by
  simp [liftsL, periodsL, sameKey]

theorem apart_periods : ∀ p, p ∈ periodsL → ∀ q, q ∈ periodsL → p.1 ≠ q.1 → sameKey p.1 q.1 = some false := by
  intro p hp q hq hne
  obtain ⟨a, ha⟩ := keyed p (List.mem_append_right _ hp)
  obtain ⟨b, hb⟩ := keyed q (List.mem_append_right _ hq)
  rw [ha, hb] at hne ⊢
  have : a ≠ b := fun e => hne (by rw [e])
  simp [sameKey, this]

theorem setK_new {k v : Value} : ∀ {es : List (Value × Value)}, (∀ q, q ∈ es → sameKey k q.1 = some false) → setK k v es = some (es ++ [(k, v)])
  | [], _ => rfl
  | (q, u) :: r, h => by
    have h1 := h (q, u) (by simp)
    have h2 := setK_new (v := v) fun x hx => h x (List.mem_cons_of_mem _ hx)
    simp only at h1
    simp only [setK, h1, h2]
    rfl

theorem blt_add (b k : Nat) : Nat.blt (b + k) b = false := by
  cases h : Nat.blt (b + k) b with
  | false => rfl
  | true => rw [Nat.blt_eq] at h; omega

theorem upd_step {K : Heap} {base : Nat} {vis : List (Value × Value)} {p : Value × Value} (h1 : K.get (base + 1) = .map (liftsL ++ vis)) (hp : p ∈ periodsL) (hv : ∀ q, q ∈ vis → q ∈ periodsL ∧ p.1 ≠ q.1) :
    mapUpdateOp Ev K 154 (.map (some (base + 1))) p.1 p.2 = some ⟨undef, K.set (base + 1) (.map (liftsL ++ (vis ++ [p]))), [base + 1], false, [base + 1]⟩ := by
  obtain ⟨n, hn⟩ := keyed p (List.mem_append_right _ hp)
  have hs : setK p.1 p.2 (liftsL ++ vis) = some (liftsL ++ vis ++ [(p.1, p.2)]) := setK_new fun q hq => by
    rcases List.mem_append.1 hq with hq | hq
    · exact apart_lifts p hp q hq
    · exact apart_periods p hp q (hv q hq).1 (hv q hq).2
  have hu : Ev.P.underlying 154 = some (.map 3 235) := Tryz.underlying154
  have hu3 : Ev.P.underlying 3 = some (.int .i64) := Tryz.underlying3
  have hko : keyOk Ev 3 p.1 = true := by
    rw [hn]
    simp only [keyOk, hu3]
  unfold mapUpdateOp
  simp only [hu, hko, h1, hs, List.append_assoc]

/-- One round and all that follow. -/
theorem loop55 {base : Nat} {cs : List Value} {H0 : Heap} {φ0 : Phi} {w0 : World} {Q : Exit → Act → World → Prop}
    (hQ : ∀ a w, InvE base cs H0 φ0 w0 0 a w → Q (.exit 0) a w) : ∀ (m : Nat) (a : Act) (w : World), InvE base cs H0 φ0 w0 m a w → LoopWp Tryz.prog body55 Q a w := by
  intro m
  induction m using Nat.strongRecOn with
  | _ m ih =>
    intro a w ⟨vis, φ, t, K, es, clk, seen, L2, L3, v, hm⟩
    have sz := v.c.size
    have h8 : a.eval (.tmp 8) = .pointer (some ⟨L3.b, 0, none⟩) := by
      have := v.c.tr 8 (by decide)
      rw [v.t8] at this
      obtain ⟨L, hL, he⟩ := this.ptr_inv
      have e := v.f3
      rw [hL] at e
      cases e
      rw [v.b3] at he
      exact he
    refine LoopWp.round ?_
    refine wp_seq (wp_region ?_)
    show wpOps Tryz.prog _ _ [0, 1] a w
    rw [wpOps_cons]
    have hold : ∀ x, x ∈ es.toList → x.born < clk := v.st.lt
    rcases run_next_at (P := Tryz.prog) w 0 L3.b L2.b clk clk seen es clk v.it v.mp hold (Nat.le_refl _) with ⟨hleft, hrun⟩ | ⟨e, he, w1, hw1, hrun⟩
    · -- nothing is left
      refine op_hand (v' := .tuple #[.bool false]) (w' := w) rfl rfl (by
        show (do pure (Next.value (← Instr.next (a.eval (.tmp 8)) false 0)) : Sem Next).run Tryz.prog w = _
        rw [h8]
        simp only [Sem.run_bind, hrun, Result.andThen_ok, Sem.run_pure]) ?_
      rw [wpOps_cons]
      have e9 : (a.put (some 9) (.tuple #[.bool false])).eval (.tmp 9) = .tuple #[.bool false] := by rw [eval_put (by omega)]; simp
      refine op_hand (v' := .bool false) (w' := w) rfl rfl (by
        show (do pure (Next.value (← Instr.extract ((a.put (some 9) (.tuple #[.bool false])).eval (.tmp 9)) 0)) : Sem Next).run Tryz.prog w = _
        rw [e9]
        simp [Instr.extract]) ?_
      have c1 : ConfAt 3 base 21 φ0 w0 φ ((t.put (some 9) (.tuple #[.bool false])).put (some 10) (.bool false)) K [] ((a.put (some 9) (.tuple #[.bool false])).put (some 10) (.bool false)) w :=
        (v.c.setT (fun x hx => by cases hx; decide) (by decide) (VR.mkTuple (.cons (.atom rfl) .nil))).setT (fun x hx => by cases hx; decide) (by decide) (.atom rfl)
      have e10 : ((a.put (some 9) (.tuple #[.bool false])).put (some 10) (.bool false)).eval (.tmp 10) = .bool false := by rw [eval_put (by rw [put_size]; omega)]; simp
      show Exit.then _ _ .normal _ _
      refine wp_seq (wp_cond_false e10 (wp_exit ?_))
      show Q (.exit 0) _ _
      refine hQ _ _ ⟨vis, φ, _, K, es, clk, seen, L2, L3, ⟨c1, v.hv, v.old, gN (gN v.t1), gN (gN v.t3), gN (gN v.t8), v.f2, v.f3, v.b3, v.it, v.mp, v.rel, v.st, v.i1, v.i2, v.sub, v.nd, v.seenok, v.visok⟩, ?_⟩
      have : (leftOf es seen).toList.length = 0 := by simpa using hleft
      rw [leftOf, Array.toList_filter] at this
      exact this
    · -- an entry, whichever
      have hmem : e ∈ es.toList ∧ seen.contains e.born = false := by
        have : e ∈ es.toList.filter fun e => !seen.contains e.born := by rw [← Array.toList_filter]; exact he
        simpa using this
      obtain ⟨hin, hns⟩ := hmem
      obtain ⟨p, hp, hpk⟩ := v.rel.back e hin
      obtain ⟨e2, he2, hk2, hv2⟩ := v.rel.there p hp
      have hee : e2 = e := by
        obtain ⟨i, hi⟩ := List.getElem?_of_mem he2
        obtain ⟨j, hj⟩ := List.getElem?_of_mem hin
        have hi' : (es.toList.map (·.key))[i]? = some e.key := by simp [hi, hk2, hpk]
        have hj' : (es.toList.map (·.key))[j]? = some e.key := by simp [hj]
        have hlt : i < (es.toList.map (·.key)).length := by
          rcases Nat.lt_or_ge i (es.toList.map (·.key)).length with h | h
          · exact h
          · simp [List.getElem?_eq_none h] at hi'
        have := (List.getElem?_inj hlt v.rel.nodup').1 (hi'.trans hj'.symm)
        subst this
        rw [hi] at hj
        cases hj
        rfl
      subst hee
      have hnotin : ∀ q, q ∈ vis → q ∈ periodsL ∧ p.1 ≠ q.1 := fun q hq => ⟨v.sub q hq, fun e' => by
        obtain ⟨e3, h3, hk3, hs3⟩ := v.visok q hq
        have : e3 = e2 := by
          obtain ⟨i, hi⟩ := List.getElem?_of_mem h3
          obtain ⟨j, hj⟩ := List.getElem?_of_mem hin
          have hi' : (es.toList.map (·.key))[i]? = some e2.key := by simp [hi, hk3, ← e', hpk]
          have hj' : (es.toList.map (·.key))[j]? = some e2.key := by simp [hj]
          have hlt : i < (es.toList.map (·.key)).length := by
            rcases Nat.lt_or_ge i (es.toList.map (·.key)).length with h | h
            · exact h
            · simp [List.getElem?_eq_none h] at hi'
          have := (List.getElem?_inj hlt v.rel.nodup').1 (hi'.trans hj'.symm)
          subst this
          rw [hi] at hj
          cases hj
          rfl
        subst this
        have hc : seen.contains e3.born = true := by simpa using hs3
        rw [hns] at hc
        cases hc⟩
      -- the world behind the step
      have hL3 : L3.b < w.heap.size := v.c.rel.blk _ _ v.f3
      have hh1 : w1.heap = w.heap := by rcases hw1 with rfl | rfl <;> rfl
      have c2 := v.c.poke (o := .mapIter (some L2.b) clk (seen.push e2.born) clk) v.f3 v.hv.o3 v.i1 v.i2 hw1
      have it2 : (setBlock w1 L3.b (.mapIter (some L2.b) clk (seen.push e2.born) clk)).heap[L3.b]? = some (.mapIter (some L2.b) clk (seen.push e2.born) clk) := by
        simp [setBlock, hh1, hL3]
      have n23 : L2.b ≠ L3.b := fun e' => by have := v.i1 _ _ v.f2 e'; omega
      have mp2 : (setBlock w1 L3.b (.mapIter (some L2.b) clk (seen.push e2.born) clk)).heap[L2.b]? = some (.map es clk) := by
        simp only [setBlock, hh1]
        rw [Array.getElem?_setIfInBounds_ne (fun e' => n23 e'.symm)]
        exact v.mp
      have sz2 : (setBlock w1 L3.b (.mapIter (some L2.b) clk (seen.push e2.born) clk)).heap.size = w.heap.size := by simp [setBlock, hh1]
      generalize hW : setBlock w1 L3.b (.mapIter (some L2.b) clk (seen.push e2.born) clk) = w2 at c2 it2 mp2 sz2 hrun
      obtain ⟨key, hkey⟩ := keyed p (List.mem_append_right _ hp)
      have hk' : e2.key = p.1 := hpk.symm
      have vk : ∀ {φ : Phi}, VR φ p.1 p.1 := fun {φ} => by rw [hkey]; exact .atom rfl
      refine op_hand (v' := .tuple #[.bool true, e2.key, e2.val]) (w' := w2) rfl rfl (by
        show (do pure (Next.value (← Instr.next (a.eval (.tmp 8)) false 0)) : Sem Next).run Tryz.prog w = _
        rw [h8]
        simp only [Sem.run_bind, hrun, Result.andThen_ok, Sem.run_pure]) ?_
      change wpOps Tryz.prog _ _ _ (a.put (some 9) (.tuple #[.bool true, e2.key, e2.val])) w2
      have c3 := c2.setT (dst := some 9) (v := .tuple #[.bool true, p.1, p.2]) (v' := .tuple #[.bool true, e2.key, e2.val]) (fun x hx => by cases hx; decide) (by decide) (by rw [hk']; exact VR.mkTuple (.cons (.atom rfl) (.cons vk (.cons hv2 .nil))))
      have a3 : (a.put (some 9) (.tuple #[.bool true, e2.key, e2.val])).eval (.tmp 9) = .tuple #[.bool true, e2.key, e2.val] := by rw [eval_put (by omega)]; simp
      have a38 : (a.put (some 9) (.tuple #[.bool true, e2.key, e2.val])).eval (.tmp 8) = .pointer (some ⟨L3.b, 0, none⟩) := by rw [eval_put (by omega)]; simpa using h8
      have u31 := gN (k := 9) (v := .tuple #[.bool true, p.1, p.2]) v.t1
      have u33 := gN (k := 9) (v := .tuple #[.bool true, p.1, p.2]) v.t3
      have u38 := gN (k := 9) (v := .tuple #[.bool true, p.1, p.2]) v.t8
      generalize a.put (some 9) (.tuple #[.bool true, e2.key, e2.val]) = b3 at c3 a3 a38 ⊢
      generalize t.put (some 9) (.tuple #[.bool true, p.1, p.2]) = s3 at c3 u31 u33 u38
      have z3 := c3.size
      rw [wpOps_cons]
      refine op_hand (v' := .bool true) (w' := w2) rfl rfl (by
        show (do pure (Next.value (← Instr.extract (b3.eval (.tmp 9)) 0)) : Sem Next).run Tryz.prog w2 = _
        rw [a3]
        simp [Instr.extract]) ?_
      change wpOps Tryz.prog _ _ _ (b3.put (some 10) (.bool true)) w2
      have c4 := c3.setT (dst := some 10) (v := .bool true) (v' := .bool true) (fun x hx => by cases hx; decide) (by decide) (.atom rfl)
      have a4 : (b3.put (some 10) (.bool true)).eval (.tmp 10) = .bool true := by rw [eval_put (by omega)]; simp
      have a48 : (b3.put (some 10) (.bool true)).eval (.tmp 8) = .pointer (some ⟨L3.b, 0, none⟩) := by rw [eval_put (by omega)]; simpa using a38
      have u41 := gN (k := 10) (v := .bool true) u31
      have u43 := gN (k := 10) (v := .bool true) u33
      have u48 := gN (k := 10) (v := .bool true) u38
      generalize b3.put (some 10) (.bool true) = b4 at c4 a4 a48 ⊢
      generalize s3.put (some 10) (.bool true) = s4 at c4 u41 u43 u48
      have z4 := c4.size
      show Exit.then _ _ .normal _ _
      refine wp_seq (wp_cond_true a4 (wp_skip ?_))
      refine wp_block (wp_seq (wp_region ?_))
      show wpOps Tryz.prog _ _ [0, 1, 2, 3, 4] b4 w2
      rw [wpOps_cons]
      -- the entry
      refine op_hand (v' := .tuple #[e2.key, e2.val]) (w' := w2) rfl rfl (by
        show (do pure (Next.value (← Instr.entry (b4.eval (.tmp 8)))) : Sem Next).run Tryz.prog w2 = _
        rw [a48]
        simp only [Sem.run_bind, run_entry_at w2 L3.b L2.b clk seen es clk e2 it2 mp2 hin v.st.nodup, Result.andThen_ok, Sem.run_pure]) ?_
      change wpOps Tryz.prog _ _ _ (b4.put (some 11) (.tuple #[e2.key, e2.val])) w2
      have c5 := c4.setT (dst := some 11) (v := .tuple #[p.1, p.2]) (v' := .tuple #[e2.key, e2.val]) (fun x hx => by cases hx; decide) (by decide) (by rw [hk']; exact VR.mkTuple (.cons vk (.cons hv2 .nil)))
      have a5 : (b4.put (some 11) (.tuple #[e2.key, e2.val])).eval (.tmp 11) = .tuple #[e2.key, e2.val] := by rw [eval_put (by omega)]; simp
      have u51 := gN (k := 11) (v := .tuple #[p.1, p.2]) u41
      have u53 := gN (k := 11) (v := .tuple #[p.1, p.2]) u43
      have u58 := gN (k := 11) (v := .tuple #[p.1, p.2]) u48
      generalize b4.put (some 11) (.tuple #[e2.key, e2.val]) = b5 at c5 a5 ⊢
      generalize s4.put (some 11) (.tuple #[p.1, p.2]) = s5 at c5 u51 u53 u58
      have z5 := c5.size
      rw [wpOps_cons]
      refine op_hand (v' := e2.key) (w' := w2) rfl rfl (by
        show (do pure (Next.value (← Instr.extract (b5.eval (.tmp 11)) 0)) : Sem Next).run Tryz.prog w2 = _
        rw [a5]
        simp [Instr.extract]) ?_
      change wpOps Tryz.prog _ _ _ (b5.put (some 12) e2.key) w2
      have c6 := c5.setT (dst := some 12) (v := p.1) (v' := e2.key) (fun x hx => by cases hx; decide) (by decide) (by rw [hk']; exact vk)
      have a6 : (b5.put (some 12) e2.key).eval (.tmp 12) = e2.key := by rw [eval_put (by omega)]; simp
      have a6b : (b5.put (some 12) e2.key).eval (.tmp 11) = .tuple #[e2.key, e2.val] := by rw [eval_put (by omega)]; simpa using a5
      have u61 := gN (k := 12) (v := p.1) u51
      have u63 := gN (k := 12) (v := p.1) u53
      have u68 := gN (k := 12) (v := p.1) u58
      generalize b5.put (some 12) e2.key = b6 at c6 a6 a6b ⊢
      generalize s5.put (some 12) p.1 = s6 at c6 u61 u63 u68
      have z6 := c6.size
      rw [wpOps_cons]
      refine op_hand (v' := e2.val) (w' := w2) rfl rfl (by
        show (do pure (Next.value (← Instr.extract (b6.eval (.tmp 11)) 1)) : Sem Next).run Tryz.prog w2 = _
        rw [a6b]
        simp [Instr.extract]) ?_
      change wpOps Tryz.prog _ _ _ (b6.put (some 13) e2.val) w2
      have c7 := c6.setT (dst := some 13) (v := p.2) (v' := e2.val) (fun x hx => by cases hx; decide) (by decide) hv2
      have a7 : (b6.put (some 13) e2.val).eval (.tmp 13) = e2.val := by rw [eval_put (by omega)]; simp
      have a7b : (b6.put (some 13) e2.val).eval (.tmp 12) = e2.key := by rw [eval_put (by omega)]; simpa using a6
      have u71 := gN (k := 13) (v := p.2) u61
      have u73 := gN (k := 13) (v := p.2) u63
      have u78 := gN (k := 13) (v := p.2) u68
      generalize b6.put (some 13) e2.val = b7 at c7 a7 a7b ⊢
      generalize s6.put (some 13) p.2 = s7 at c7 u71 u73 u78
      have z7 := c7.size
      rw [wpOps_cons]
      refine op_hand (v' := e2.key) (w' := w2) rfl rfl (by
        show (pure (Next.value (b7.eval (.tmp 12))) : Sem Next).run Tryz.prog w2 = _
        rw [a7b]
        rfl) ?_
      change wpOps Tryz.prog _ _ _ (b7.put (some 4) e2.key) w2
      have c8 := c7.setT (dst := some 4) (v := p.1) (v' := e2.key) (fun x hx => by cases hx; decide) (by decide) (by rw [hk']; exact vk)
      have a8 : (b7.put (some 4) e2.key).eval (.tmp 4) = e2.key := by rw [eval_put (by omega)]; simp
      have a8b : (b7.put (some 4) e2.key).eval (.tmp 13) = e2.val := by rw [eval_put (by omega)]; simpa using a7
      have u81 := gN (k := 4) (v := p.1) u71
      have u83 := gN (k := 4) (v := p.1) u73
      have u88 := gN (k := 4) (v := p.1) u78
      generalize b7.put (some 4) e2.key = b8 at c8 a8 a8b ⊢
      generalize s7.put (some 4) p.1 = s8 at c8 u81 u83 u88
      have z8 := c8.size
      rw [wpOps_cons]
      refine op_hand (v' := e2.val) (w' := w2) rfl rfl (by
        show (pure (Next.value (b8.eval (.tmp 13))) : Sem Next).run Tryz.prog w2 = _
        rw [a8b]
        rfl) ?_
      change wpOps Tryz.prog _ _ _ (b8.put (some 5) e2.val) w2
      have c9 := c8.setT (dst := some 5) (v := p.2) (v' := e2.val) (fun x hx => by cases hx; decide) (by decide) hv2
      have a9 : (b8.put (some 5) e2.val).eval (.tmp 5) = e2.val := by rw [eval_put (by omega)]; simp
      have a9b : (b8.put (some 5) e2.val).eval (.tmp 4) = e2.key := by rw [eval_put (by omega)]; simpa using a8
      have u91 := gN (k := 5) (v := p.2) u81
      have u93 := gN (k := 5) (v := p.2) u83
      have u98 := gN (k := 5) (v := p.2) u88
      generalize b8.put (some 5) e2.val = b9 at c9 a9 a9b ⊢
      generalize s8.put (some 5) p.2 = s9 at c9 u91 u93 u98
      have z9 := c9.size
      show Exit.then _ _ .normal _ _
      refine wp_region ?_
      show wpOps Tryz.prog _ _ [0, 1, 2, 3] b9 w2
      rw [wpOps_cons]
      -- the first map
      obtain ⟨L1, hL1, hm1⟩ : ∃ L1, φ (base + 1) = some L1 ∧ b9.eval (.tmp 3) = .map (some L1.b) := by
        have := c9.tr 3 (by decide)
        rw [u93] at this
        obtain ⟨L, h1, h2⟩ := this.map_inv
        exact ⟨L, h1, h2⟩
      refine op_hand (v' := .map (some L1.b)) (w' := w2) rfl rfl (by
        show (pure (Next.value (b9.eval (.tmp 3))) : Sem Next).run Tryz.prog w2 = _
        rw [hm1]
        rfl) ?_
      change wpOps Tryz.prog _ _ _ (b9.put (some 14) (.map (some L1.b))) w2
      have d1 := c9.setT (dst := some 14) (v := .map (some (base + 1))) (v' := .map (some L1.b)) (fun x hx => by cases hx; decide) (by decide) (.map hL1)
      have x1 : (b9.put (some 14) (.map (some L1.b))).eval (.tmp 14) = .map (some L1.b) := by rw [eval_put (by omega)]; simp
      have x1a : (b9.put (some 14) (.map (some L1.b))).eval (.tmp 4) = e2.key := by rw [eval_put (by omega)]; simpa using a9b
      have x1b : (b9.put (some 14) (.map (some L1.b))).eval (.tmp 5) = e2.val := by rw [eval_put (by omega)]; simpa using a9
      have y11 := gN (k := 14) (v := .map (some (base + 1))) u91
      have y13 := gN (k := 14) (v := .map (some (base + 1))) u93
      have y18 := gN (k := 14) (v := .map (some (base + 1))) u98
      generalize b9.put (some 14) (.map (some L1.b)) = f1 at d1 x1 x1a x1b ⊢
      generalize s9.put (some 14) (.map (some (base + 1))) = r1 at d1 y11 y13 y18
      have q1 := d1.size
      rw [wpOps_cons]
      refine op_hand (v' := e2.key) (w' := w2) rfl rfl (by
        show (pure (Next.value (f1.eval (.tmp 4))) : Sem Next).run Tryz.prog w2 = _
        rw [x1a]
        rfl) ?_
      change wpOps Tryz.prog _ _ _ (f1.put (some 15) e2.key) w2
      have d2 := d1.setT (dst := some 15) (v := p.1) (v' := e2.key) (fun x hx => by cases hx; decide) (by decide) (by rw [hk']; exact vk)
      have x2 : (f1.put (some 15) e2.key).eval (.tmp 14) = .map (some L1.b) := by rw [eval_put (by omega)]; simpa using x1
      have x2a : (f1.put (some 15) e2.key).eval (.tmp 15) = e2.key := by rw [eval_put (by omega)]; simp
      have x2b : (f1.put (some 15) e2.key).eval (.tmp 5) = e2.val := by rw [eval_put (by omega)]; simpa using x1b
      have y21 := gN (k := 15) (v := p.1) y11
      have y23 := gN (k := 15) (v := p.1) y13
      have y28 := gN (k := 15) (v := p.1) y18
      generalize f1.put (some 15) e2.key = f2 at d2 x2 x2a x2b ⊢
      generalize r1.put (some 15) p.1 = r2 at d2 y21 y23 y28
      have q2 := d2.size
      rw [wpOps_cons]
      refine op_hand (v' := e2.val) (w' := w2) rfl rfl (by
        show (pure (Next.value (f2.eval (.tmp 5))) : Sem Next).run Tryz.prog w2 = _
        rw [x2b]
        rfl) ?_
      change wpOps Tryz.prog _ _ _ (f2.put (some 16) e2.val) w2
      have d3 := d2.setT (dst := some 16) (v := p.2) (v' := e2.val) (fun x hx => by cases hx; decide) (by decide) hv2
      have x3 : (f2.put (some 16) e2.val).eval (.tmp 14) = .map (some L1.b) := by rw [eval_put (by omega)]; simpa using x2
      have x3a : (f2.put (some 16) e2.val).eval (.tmp 15) = e2.key := by rw [eval_put (by omega)]; simpa using x2a
      have x3b : (f2.put (some 16) e2.val).eval (.tmp 16) = e2.val := by rw [eval_put (by omega)]; simp
      have y31 := gN (k := 16) (v := p.2) y21
      have y33 := gN (k := 16) (v := p.2) y23
      have y38 := gN (k := 16) (v := p.2) y28
      generalize f2.put (some 16) e2.val = f3 at d3 x3 x3a x3b ⊢
      generalize r2.put (some 16) p.2 = r3 at d3 y31 y33 y38
      rw [wpOps_cons]
      -- the store into the first map
      have hu := upd_step v.hv.o1 hp hnotin
      obtain ⟨w3, hrun3, _, ho⟩ := mapUpdate_sound (E := Ev) (g := 3) hu d3.rel (.map hL1) (k' := e2.key) (by rw [hk']; exact vk) hv2
      simp only at ho
      refine op_skip (w' := w3) rfl rfl (by
        show (do Instr.mapUpdate 154 (f3.eval (.tmp 14)) (f3.eval (.tmp 15)) (f3.eval (.tmp 16)); pure Next.skip : Sem Next).run Tryz.prog w2 = _
        rw [x3, x3a, x3b]
        have : Sem.run Tryz.prog (Instr.mapUpdate 154 (.map (some L1.b)) e2.key e2.val) w2 = .ok () w3 := hrun3
        simp only [Sem.run_bind, this, Result.andThen_ok, Sem.run_pure]) ?_
      obtain ⟨φ', g1, g2, g3, g4, g5, g6⟩ := ho
      have hbn : base ≤ K.n := by rw [v.hv.n]; omega
      have core := d3.toCore.step g1 g3 g4 g5 (by show base ≤ K.n; exact hbn) hbn
      have hsoil : soil base [base + 1] [] = [] := by simp only [soil, blt_add]
      rw [hsoil] at core
      have cF : ConfAt 3 base 21 φ0 w0 φ' r3 (K.set (base + 1) (.map (liftsL ++ (vis ++ [p])))) [] f3 w3 := ⟨core, d3.tr.mono g1, d3.size, d3.defers⟩
      have lt1 : base + 1 < K.n := by rw [v.hv.n]; omega
      have only : ∀ i L, i ∈ [base + 1] → φ i = some L → L = L1 := fun i L hi hL => by
        simp at hi
        subst hi
        rw [hL1] at hL
        cases hL
        rfl
      have n13 : L1.b ≠ L3.b := fun e' => by have := v.i1 _ _ hL1 e'; omega
      have n12 : L1.b ≠ L2.b := v.c.rel.inj _ _ _ _ hL1 v.f2 (by rw [v.hv.o1]; exact fun h => by cases h) (by rw [v.hv.o2]; exact fun h => by cases h) (by omega)
      have it3 : w3.heap[L3.b]? = some (.mapIter (some L2.b) clk (seen.push e2.born) clk) := by
        rw [g4.heap L3.b (by omega) (fun i L hi hL => by rw [only i L hi hL]; exact n13)]
        exact it2
      have mp3 : w3.heap[L2.b]? = some (.map es clk) := by
        have h2 : L2.b < w.heap.size := v.c.rel.blk _ _ v.f2
        rw [g4.heap L2.b (by omega) (fun i L hi hL => by rw [only i L hi hL]; exact n12)]
        exact mp2
      show Exit.inBlock 1 _ .normal _ _
      show LoopWp Tryz.prog body55 Q f3 w3
      refine ih _ ?_ f3 w3 ⟨vis ++ [p], φ', r3, _, es, clk, seen.push e2.born, L2, L3, ⟨cF, ⟨v.hv.n, ?_, ?_, ?_, ?_⟩, fun j hj => ?_, y31, y33, y38, g1 _ _ v.f2, g1 _ _ v.f3, v.b3, it3, mp3, v.rel.mono g1, v.st, fun i L hL hb => ?_, v.i2, fun q hq => ?_, ?_, fun b hb => ?_, fun q hq => ?_⟩, rfl⟩
      · rw [← hm]
        refine Go.AM.filter_lt (y := e2) (fun x _ hx => ?_) hin (by simpa using hns) (by simp)
        simp at hx ⊢
        exact hx.1
      · rw [Heap.get_set_ne (by omega) lt1]; exact v.hv.o0
      · exact Heap.get_set_self v.c.rel.wf lt1
      · rw [Heap.get_set_ne (by omega) lt1]; exact v.hv.o2
      · rw [Heap.get_set_ne (by omega) lt1]; exact v.hv.o3
      · rw [Heap.get_set_ne (by omega) lt1]; exact v.old j hj
      · cases hφ : φ i with
        | some L' =>
          have := g1 i L' hφ
          rw [hL] at this
          cases this
          exact v.i1 i _ hφ hb
        | none =>
          rcases (g5 i L hφ hL).2 with h | ⟨j, M, hj, hM, hb'⟩
          · omega
          · rw [only j M hj hM] at hb'
            exact absurd (hb'.trans hb) n13
      · rcases List.mem_append.1 hq with hq | hq
        · exact v.sub q hq
        · simp at hq; subst hq; exact hp
      · rw [List.map_append, List.nodup_append]
        refine ⟨v.nd, by simp, fun x hx y hy e' => ?_⟩
        simp at hy
        subst hy; subst e'
        obtain ⟨q, hq, h⟩ := List.mem_map.1 hx
        exact (hnotin q hq).2 h.symm
      · rcases Array.mem_push.1 hb with hb | rfl
        · obtain ⟨e4, h1, h2, q, h3, h4⟩ := v.seenok b hb
          exact ⟨e4, h1, h2, q, List.mem_append_left _ h3, h4⟩
        · exact ⟨e2, hin, rfl, p, by simp, hpk⟩
      · rcases List.mem_append.1 hq with hq | hq
        · obtain ⟨e4, h1, h2, h3⟩ := v.visok q hq
          exact ⟨e4, h1, h2, Array.mem_push.2 (.inl h3)⟩
        · simp at hq; subst hq
          exact ⟨e2, hin, hpk.symm, Array.mem_push.2 (.inr rfl)⟩

end Go.Proofs.YtfloogndmfkimaaGreatDoor

namespace Go.Proofs.YtfloogndmfkimaaGreatDoor
open Go Go.AM Go.Proofs
open Go.ChangeMaps (setBlock)
set_option maxRecDepth 100000

/-- An operation of the evaluator's. -/
theorem op_am {E : Env} {n base nt k : Nat} {ops : Array Oper} {o : Oper} {q : OpRes} {φ0 φ : Phi} {w0 w : World} {t : TT} {H : Heap} {d : List Nat} {a : Act} {Q : Exit → Act → World → Prop} {K : Act → World → Prop} (hE : EqsOk E) (hX : ExtOk E)
    (hget : ops[k]? = some o) (hg : o.guard = none) (hs : AM.step E (call E n) t H o = some q) (hd : ∀ x : Nat, o.dst = some x → x < nt) (ho : OpsOk E.P.globals.size o.op) (hnt : nt ≤ 1048576) (c : ConfAt E.P.globals.size base nt φ0 w0 φ t H d a w)
    (hK : ∀ a' w', Conf E.P.globals.size base nt φ0 w0 (t.put o.dst q.v) q.H (soil base q.wr d) a' w' → K a' w') : wpOp E.P ops Q k K a w := by
  unfold wpOp
  rw [hget]
  have : Region.wanted o (yielded ops a.tmps) = true := by unfold Region.wanted; rw [hg]
  simp only [this, if_true]
  left
  exact (step_sound hE (call_ok hE hX n) hs c.rel (fun x hx => eval_sound (ho x hx) c.tr c.rel.glob)).wp fun v' w' hout => hK _ _ (c.out hout c.lob hd hnt)

theorem body55_ok : bodyOf Ev 55 = some (Tryz.f55, code55) := by kernel_rfl

noncomputable def dbCells (H : Heap) (c0 c1 : Value) : Heap := H.push (.cells [c0, c1] 76 false)
noncomputable def evHeap (H : Heap) (c0 c1 : Value) : Heap := ((((H.push (.cells [c0, c1] 76 false)).push (.map bothL)).push (.map periodsL)).push .dead)

theorem both_eq : bothL = liftsL ++ periodsL := rfl

/-- Behind the loop everything has been visited. -/
theorem visited {base : Nat} {cs : List Value} {H0 : Heap} {φ0 : Phi} {w0 : World} {vis : List (Value × Value)} {φ : Phi} {t : TT} {K : Heap} {es : Array MapEntry} {clk : Nat} {seen : Array Nat} {L2 L3 : AM.Loc} {a : Act} {w : World}
    (v : Inv base cs H0 φ0 w0 vis φ t K es clk seen L2 L3 a w) (hm : (es.toList.filter fun e => !seen.contains e.born).length = 0) : vis.Perm periodsL := by
  have all : ∀ p, p ∈ periodsL → p ∈ vis := fun p hp => by
    obtain ⟨e, he, hk, _⟩ := v.rel.there p hp
    have hs : e.born ∈ seen := by
      have h0 : es.toList.filter (fun e => !seen.contains e.born) = [] := List.eq_nil_of_length_eq_zero hm
      have := List.filter_eq_nil_iff.1 h0 e he
      simpa using this
    obtain ⟨e', he', hb, q, hq, hqk⟩ := v.seenok _ hs
    have hee : e' = e := by
      obtain ⟨i, hi⟩ := List.getElem?_of_mem he'
      obtain ⟨j, hj⟩ := List.getElem?_of_mem he
      have hi' : (es.toList.map (·.born))[i]? = some e.born := by simp [hi, hb]
      have hj' : (es.toList.map (·.born))[j]? = some e.born := by simp [hj]
      have hlt : i < (es.toList.map (·.born)).length := by
        rcases Nat.lt_or_ge i (es.toList.map (·.born)).length with h | h
        · exact h
        · simp [List.getElem?_eq_none h] at hi'
      have := (List.getElem?_inj hlt v.st.nodup).1 (hi'.trans hj'.symm)
      subst this
      rw [hi] at hj
      cases hj
      rfl
    subst hee
    have hqp : q.1 = p.1 := hqk.trans hk
    have hqq := v.sub q hq
    have : q = p := by
      obtain ⟨i, hi⟩ := List.getElem?_of_mem hqq
      obtain ⟨j, hj⟩ := List.getElem?_of_mem hp
      have hi' : (periodsL.map (·.1))[i]? = some p.1 := by simp [hi, hqp]
      have hj' : (periodsL.map (·.1))[j]? = some p.1 := by simp [hj]
      have hlt : i < (periodsL.map (·.1)).length := by
        rcases Nat.lt_or_ge i (periodsL.map (·.1)).length with h | h
        · exact h
        · simp [List.getElem?_eq_none h] at hi'
      have := (List.getElem?_inj hlt keys_periods).1 (hi'.trans hj'.symm)
      subst this
      rw [hi] at hj
      cases hj
      rfl
    rw [← this]
    exact hq
  have n1 : vis.Nodup := List.Pairwise.of_map (·.1) (fun a b h e => h (by rw [e])) v.nd
  have n2 : periodsL.Nodup := List.Pairwise.of_map (·.1) (fun a b h e => h (by rw [e])) keys_periods
  exact (List.perm_ext_iff_of_nodup n1 n2).2 fun x => ⟨v.sub x, all x⟩

theorem evHeap_n (H : Heap) (c0 c1 : Value) : (evHeap H c0 c1).n = H.n + 4 := rfl
theorem evHeap_old (H : Heap) (c0 c1 : Value) {j : Nat} (h : j < H.n) : (evHeap H c0 c1).get j = H.get j := by
  unfold evHeap
  rw [Heap.get_push_lt (by simp; omega), Heap.get_push_lt (by simp; omega), Heap.get_push_lt (by simp; omega), Heap.get_push_lt h]
theorem evHeap_0 (H : Heap) (c0 c1 : Value) : (evHeap H c0 c1).get H.n = .cells [c0, c1] 76 false := by
  unfold evHeap
  rw [Heap.get_push_lt (by simp; omega), Heap.get_push_lt (by simp; omega), Heap.get_push_lt (by simp), Heap.get_push_self]
theorem evHeap_1 (H : Heap) (c0 c1 : Value) : (evHeap H c0 c1).get (H.n + 1) = .map bothL := by
  unfold evHeap
  rw [Heap.get_push_lt (by simp), Heap.get_push_lt (by simp)]
  exact Heap.get_push_self
theorem evHeap_2 (H : Heap) (c0 c1 : Value) : (evHeap H c0 c1).get (H.n + 2) = .map periodsL := by
  unfold evHeap
  rw [Heap.get_push_lt (by simp)]
  exact Heap.get_push_self
theorem evHeap_3 (H : Heap) (c0 c1 : Value) : (evHeap H c0 c1).get (H.n + 3) = .dead := Heap.get_push_self

/-- What it makes. -/
noncomputable def evRes (H : Heap) (c0 c1 : Value) : CallRes := ⟨.pointer (some ⟨H.n + 4, 0, none⟩), (evHeap H c0 c1).push (.cells [c0, c1, .map (some (H.n + 1)), .bool false] 156 false), []⟩

noncomputable def endCode : Code := sndC (sndC (sndC code55))

/-- The last statement: the evaluator is laid out. -/
theorem end_runs {H : Heap} {c0 c1 : Value} (k0 : cellOk c0 = true) (k1 : cellOk c1 = true) {t : TT} (t1 : t.get 1 = .pointer (some ⟨H.n, 0, none⟩)) (t3 : t.get 3 = .map (some (H.n + 1))) :
    Runs Ev 20 H.n endCode t (evHeap H c0 c1) [] fun r => r.e = .ret ∧ r.t.get 2 = .pointer (some ⟨H.n + 4, 0, none⟩) ∧ r.H = (evRes H c0 c1).H ∧ r.dirty = [] := by
  have hload : loadOp Ev (evHeap H c0 c1) 76 (t.get 1) = some ⟨.agg ⟨[c0, c1]⟩, evHeap H c0 c1, [H.n], false, []⟩ := by
    rw [t1]
    show (match loadO Ev (evHeap H c0 c1) 76 H.n 0 with | some v => some (OpRes.mk v (evHeap H c0 c1) [H.n] false []) | none => none) = _
    unfold loadO
    rw [evHeap_0]
    have ha : isAggT Ev 76 = some true := by kernel_rfl
    have hs : sizeT Ev 76 = some 2 := by kernel_rfl
    simp only [ha, hs]
    rfl
  refine .seqK (.region ?_)
  refine .cons (q := ⟨.agg ⟨[c0, c1]⟩, evHeap H c0 c1, [H.n], false, []⟩) rfl hload ?_
  have t3' := gN (k := 17) (v := .agg ⟨[c0, c1]⟩) t3
  have e17 : (t.put (some 17) (.agg ⟨[c0, c1]⟩)).get 17 = .agg ⟨[c0, c1]⟩ := gS
  show OpsRun Ev _ _ _ _ (t.put (some 17) (.agg ⟨[c0, c1]⟩)) (evHeap H c0 c1) [] _
  generalize t.put (some 17) (.agg ⟨[c0, c1]⟩) = s1 at *
  refine .cons (q := ⟨.map (some (H.n + 1)), evHeap H c0 c1, [], false, []⟩) rfl (by show done (s1.get 3) _ = _; rw [t3']; rfl) ?_
  have e17' := gN (k := 18) (v := .map (some (H.n + 1))) e17
  have e18 : (s1.put (some 18) (.map (some (H.n + 1)))).get 18 = .map (some (H.n + 1)) := gS
  show OpsRun Ev _ _ _ _ (s1.put (some 18) (.map (some (H.n + 1)))) (evHeap H c0 c1) [] _
  generalize s1.put (some 18) (.map (some (H.n + 1))) = s2 at *
  refine .cons (q := ⟨.agg ⟨[c0, c1, .map (some (H.n + 1)), .bool false]⟩, evHeap H c0 c1, [], false, []⟩) rfl (by
    show buildOp Ev _ 156 [(0, s2.get 17), (1, s2.get 18)] = _
    rw [e17', e18]
    have hz : zeroT Ev 156 = some (.agg #[.slice none 0 0, .slice none 0 0, .map none, .bool false]) := by kernel_rfl
    have hu : ∃ fs, Ev.P.underlying 156 = some (.struct fs) ∧ placesT Ev fs.toList = some [(0, 2), (2, 1), (3, 1)] := ⟨_, Tryz.underlying156, by kernel_rfl⟩
    obtain ⟨fs, hu1, hu2⟩ := hu
    unfold buildOp
    simp only [hz, hu1, hu2]
    have p1 : putAt 0 [c0, c1] [.slice none 0 0, .slice none 0 0, .map none, .bool false] = some [c0, c1, .map none, .bool false] := by simp only [putAt, putL, k0, k1]
    show (match (match putAt 0 [c0, c1] [.slice none 0 0, .slice none 0 0, .map none, .bool false] with
      | some r => fillL (fun i => ([(0, 2), (2, 1), (3, 1)] : List (Nat × Nat))[i]?) r [(1, .map (some (H.n + 1)))]
      | none => none) with | some r => done (.agg ⟨r⟩) (evHeap H c0 c1) | none => none) = _
    rw [p1]
    rfl) ?_
  have e19 : (s2.put (some 19) (.agg ⟨[c0, c1, .map (some (H.n + 1)), .bool false]⟩)).get 19 = .agg ⟨[c0, c1, .map (some (H.n + 1)), .bool false]⟩ := gS
  show OpsRun Ev _ _ _ _ (s2.put (some 19) (.agg ⟨[c0, c1, .map (some (H.n + 1)), .bool false]⟩)) (evHeap H c0 c1) [] _
  generalize s2.put (some 19) (.agg ⟨[c0, c1, .map (some (H.n + 1)), .bool false]⟩) = s3 at *
  refine .cons (q := ⟨.pointer (some ⟨H.n + 4, 0, none⟩), (evRes H c0 c1).H, [], false, []⟩) rfl (by
    show newCells (evHeap H c0 c1) (cellsL (s3.get 19)) 156 false asPtr = _
    rw [e19]
    have : ([c0, c1, .map (some (H.n + 1)), .bool false] : List Value).all cellOk = true := by
      show (cellOk c0 && (cellOk c1 && (true && (true && true)))) = true
      rw [k0, k1]
      rfl
    simp only [newCells, cellsL, this]
    rfl) ?_
  have e20 : (s3.put (some 20) (.pointer (some ⟨H.n + 4, 0, none⟩))).get 20 = .pointer (some ⟨H.n + 4, 0, none⟩) := gS
  show OpsRun Ev _ _ _ _ (s3.put (some 20) (.pointer (some ⟨H.n + 4, 0, none⟩))) (evRes H c0 c1).H [] _
  generalize s3.put (some 20) (.pointer (some ⟨H.n + 4, 0, none⟩)) = s4 at *
  refine .cons (q := ⟨.pointer (some ⟨H.n + 4, 0, none⟩), (evRes H c0 c1).H, [], false, []⟩) rfl (by show done (s4.get 20) _ = _; rw [e20]; rfl) (.nil ?_)
  exact .now rfl ⟨rfl, gS, rfl, rfl⟩

/-- The first two statements. -/
theorem start_runs {H : Heap} {c0 c1 : Value} (k0 : cellOk c0 = true) (k1 : cellOk c1 = true) {K : ARes → Prop} {n : Nat}
    (hK : ∀ t, t.get 1 = .pointer (some ⟨H.n, 0, none⟩) → K ⟨.normal, t, H.push (.cells [c0, c1] 76 false), []⟩) : Runs Ev (n + 1) H.n (fstC code55) (TT.ofArgs 0 [.agg ⟨[c0, c1]⟩] .leaf) H [] K := by
  refine .region ?_
  refine .cons (q := ⟨.pointer (some ⟨H.n, 0, none⟩), H.push (.cells [c0, c1] 76 false), [], false, []⟩) rfl (by
    show newCells H [c0, c1] 76 false asPtr = _
    have : ([c0, c1] : List Value).all cellOk = true := by
      show (cellOk c0 && (cellOk c1 && true)) = true
      rw [k0, k1]
      rfl
    simp only [newCells, this]
    rfl) ?_
  refine .cons rfl rfl (.nil ?_)
  exact hK _ (gN gS)

theorem second_runs {H1 : Heap} {base : Nat} {p : Value} {t : TT} (t1 : t.get 1 = p) {K : ARes → Prop} {n : Nat} (hK : ∀ t', t'.get 1 = p → t'.get 3 = .map (some H1.n) → K ⟨.normal, t', H1.push (.map liftsL), []⟩) :
    Runs Ev (n + 1) base (fstC (sndC code55)) t H1 [] K := by
  refine .region ?_
  refine .cons rfl (step_told (lifts_call _ _) rfl) ?_
  refine .cons (q := ⟨.map (some H1.n), H1.push (.map liftsL), [], false, []⟩) rfl (by
    show done ((t.put (some 6) (.map (some H1.n))).get 6) _ = _
    rw [gS]
    rfl) (.nil ?_)
  exact hK _ (gN (gN t1)) gS

end Go.Proofs.YtfloogndmfkimaaGreatDoor

namespace Go.Proofs.YtfloogndmfkimaaGreatDoor
open Go Go.AM Go.Proofs
open Go.ChangeMaps (setBlock)
set_option maxRecDepth 100000
set_option maxHeartbeats 4000000

theorem newEv_call {H : Heap} {c0 c1 : Value} (k0 : cellOk c0 = true) (k1 : cellOk c1 = true) : CallOk Ev 55 [.agg ⟨[c0, c1]⟩] H (evRes H c0 c1) := by
  refine callOk_of_code body55_ok rfl fun φ w a hR hc => ?_
  have ok : codeOk Ev.P.globals.size 21 code55 = true := by kernel_rfl
  have ok1 : codeOk Ev.P.globals.size 21 (fstC code55) = true := by kernel_rfl
  have ok2 : codeOk Ev.P.globals.size 21 (fstC (sndC code55)) = true := by kernel_rfl
  have ok3 : codeOk Ev.P.globals.size 21 endCode = true := by kernel_rfl
  have hb : (21 : Nat) ≤ 1048576 := by decide
  show (Code.seq (fstC code55) (sndC code55)).wp Ev.P _ a w
  refine wp_seq (runs_part eqsV extOkV (start_runs (n := 10) k0 k1 (K := fun r => r.e = .normal ∧ r.H = H.push (.cells [c0, c1] 76 false) ∧ r.dirty = [] ∧ r.t.get 1 = .pointer (some ⟨H.n, 0, none⟩)) fun t ht => ⟨rfl, rfl, rfl, ht⟩) ok1 hb hc ?_)
  rintro ⟨e, t, H1, d⟩ ⟨rfl, rfl, rfl, t1⟩ a1 w1 ⟨φ1, c1'⟩
  show (sndC code55).wp Ev.P _ a1 w1
  show (Code.seq (fstC (sndC code55)) (sndC (sndC code55))).wp Ev.P _ a1 w1
  refine wp_seq (runs_part eqsV extOkV (second_runs (n := 10) t1 (K := fun r => r.e = .normal ∧ r.H = (H.push (.cells [c0, c1] 76 false)).push (.map liftsL) ∧ r.dirty = [] ∧ r.t.get 1 = .pointer (some ⟨H.n, 0, none⟩) ∧ r.t.get 3 = .map (some (H.n + 1))) fun t' h1 h3 => ⟨rfl, rfl, rfl, h1, h3⟩) ok2 hb c1' ?_)
  rintro ⟨e, t', H2, d⟩ ⟨rfl, rfl, rfl, t1', t3'⟩ a2 w2 ⟨φ2, c2⟩
  simp only at t1 t1' t3' c2
  clear c1' t1
  show (Code.seq (fstC (sndC (sndC code55))) (sndC (sndC (sndC code55)))).wp Ev.P _ a2 w2
  refine wp_seq ?_
  show (Code.seq (fstC (fstC (sndC (sndC code55)))) (sndC (fstC (sndC (sndC code55))))).wp Ev.P _ a2 w2
  refine wp_seq (wp_region ?_)
  show wpOps Ev.P _ _ [0, 1] a2 w2
  rw [wpOps_cons]
  -- the second map is made
  refine op_am (n := 10) (q := ⟨.map (some (H.n + 2)), ((H.push (.cells [c0, c1] 76 false)).push (.map liftsL)).push (.map periodsL), [], true, []⟩) eqsV extOkV rfl rfl (step_told (periods_call 10 _) rfl) (fun x hx => by cases hx; decide) (fun x hx => by
    have : x = .func 114 := by simpa [Op.operands, Call.operands] using hx
    subst this
    rfl) hb c2 ?_
  rintro a3 w3 ⟨φ3, c3⟩
  have t1'' := gN (k := 7) (v := .map (some (H.n + 2))) t1'
  have t3'' := gN (k := 7) (v := .map (some (H.n + 2))) t3'
  have t7 : (t'.put (some 7) (.map (some (H.n + 2)))).get 7 = .map (some (H.n + 2)) := gS
  change ConfAt Ev.P.globals.size H.n 21 φ w φ3 (t'.put (some 7) (.map (some (H.n + 2)))) _ [] a3 w3 at c3
  generalize t'.put (some 7) (.map (some (H.n + 2))) = s at *
  rw [gV] at c3
  rw [wpOps_cons]
  -- its iterator
  obtain ⟨L2, hL2, he2⟩ : ∃ L2, φ3 (H.n + 2) = some L2 ∧ a3.eval (.tmp 7) = .map (some L2.b) := by
    have := c3.tr 7 (by decide)
    rw [t7] at this
    obtain ⟨L, h1, h2⟩ := this.map_inv
    exact ⟨L, h1, h2⟩
  have hobj := c3.rel.obj _ _ hL2
  have hg2 : (((H.push (.cells [c0, c1] 76 false)).push (.map liftsL)).push (.map periodsL)).get (H.n + 2) = .map periodsL := Heap.get_push_self
  rw [hg2] at hobj
  obtain ⟨es, clk, hb2, hrel, hst⟩ := hobj
  refine op_hand (v' := .pointer (some ⟨w3.heap.size, 0, none⟩)) (w' := w3.alloc (.mapIter (some L2.b) clk #[] clk)) rfl rfl (by
    show (do pure (Next.value (← Instr.range 154 (a3.eval (.tmp 7)))) : Sem Next).run Tryz.prog w3 = _
    rw [he2]
    simp only [Sem.run_bind, run_range_map w3 154 3 235 L2.b es clk Tryz.underlying154 hb2, Result.andThen_ok, Sem.run_pure]) ?_
  change wpOps Ev.P _ _ [] (a3.put (some 8) (.pointer (some ⟨w3.heap.size, 0, none⟩))) (w3.alloc (.mapIter (some L2.b) clk #[] clk))
  have sz3 := c3.size
  -- the configuration as the loop begins
  have hfresh : φ3 (H.n + 3) = none := c3.rel.fresh_id (Nat.le_refl _)
  have relP : Rel 3 φ3 (((((H.push (.cells [c0, c1] 76 false)).push (.map liftsL)).push (.map periodsL))).push .dead) w3 := c3.rel.push .dead
  have relR := relP.realize (i := H.n + 3) (by show H.n + 3 < H.n + 4; omega) hfresh (.mapIter (some L2.b) clk #[] clk) ⟨w3.heap.size, 0, 0⟩ rfl (by
    have : ((((H.push (.cells [c0, c1] 76 false)).push (.map liftsL)).push (.map periodsL)).push .dead).get (H.n + 3) = .dead := Heap.get_push_self
    rw [this]
    trivial)
  have ext : Ext φ3 (φ3.put (H.n + 3) ⟨w3.heap.size, 0, 0⟩) := .put hfresh
  have core := c3.toCore.step ext relR (Frame.push (wr := []) _) (Fresh.put (lo := H.n + 3) (wr := []) (Nat.le_refl _) (Nat.le_refl _)) (by show H.n ≤ H.n + 4; omega) (by omega : H.n ≤ H.n + 3)
  have cL : ConfAt 3 H.n 21 φ w (φ3.put (H.n + 3) ⟨w3.heap.size, 0, 0⟩) (s.put (some 8) (.pointer (some ⟨H.n + 3, 0, none⟩))) (((((H.push (.cells [c0, c1] 76 false)).push (.map liftsL)).push (.map periodsL))).push .dead) []
      (a3.put (some 8) (.pointer (some ⟨w3.heap.size, 0, none⟩))) (w3.alloc (.mapIter (some L2.b) clk #[] clk)) :=
    ⟨core, (c3.tr.mono ext).put c3.size (fun x hx => by cases hx; decide) hb (VR.ptr (L := ⟨w3.heap.size, 0, 0⟩) Phi.put_self), by rw [put_size]; exact c3.size, by rw [put_defers]; exact c3.defers⟩
  have inv : InvE H.n [c0, c1] H φ w (es.toList.filter fun e => !(#[] : Array Nat).contains e.born).length (a3.put (some 8) (.pointer (some ⟨w3.heap.size, 0, none⟩))) (w3.alloc (.mapIter (some L2.b) clk #[] clk)) := by
    have hL2lt : L2.b < w3.heap.size := c3.rel.blk _ _ hL2
    refine ⟨[], _, _, _, es, clk, #[], L2, ⟨w3.heap.size, 0, 0⟩, ⟨cL, ⟨rfl, ?_, ?_, ?_, Heap.get_push_self⟩, fun j hj => ?_, gN t1'', gN t3'', gS, ext _ _ hL2, Phi.put_self, rfl, ?_, ?_, hrel.mono ext, hst, fun i L hL hb' => ?_, c3.frame.size, (fun p hp => by cases hp), List.nodup_nil, (fun b hb' => by simp at hb'), (fun p hp => by cases hp)⟩, rfl⟩
    · rw [Heap.get_push_lt (by simp; omega), Heap.get_push_lt (by simp; omega), Heap.get_push_lt (by simp), Heap.get_push_self]
    · rw [Heap.get_push_lt (by simp), Heap.get_push_lt (by simp)]
      exact Heap.get_push_self
    · rw [Heap.get_push_lt (by simp)]
      exact Heap.get_push_self
    · rw [Heap.get_push_lt (by simp; omega), Heap.get_push_lt (by simp; omega), Heap.get_push_lt (by simp; omega), Heap.get_push_lt hj]
    · exact heap_alloc_new w3 _
    · rw [heap_alloc_old w3 _ hL2lt]
      exact hb2
    · by_cases hi : i = H.n + 3
      · exact hi
      · rw [Phi.put_ne hi] at hL
        have := c3.rel.blk _ _ hL
        simp only at hb'
        omega
  -- the loop, and what follows
  show Exit.then _ _ .normal _ _
  show (Code.block 0 (.loop body55)).wp Tryz.prog _ _ _
  refine wp_block (loop55 (fun a4 w4 h4 => ?_) _ _ _ inv).wp
  simp only [Exit.inBlock, if_true]
  obtain ⟨vis, φ4, t4, K, es4, clk4, seen4, M2, M3, v, hm⟩ := h4
  have hperm := visited v hm
  have hrel4 : Rel 3 φ4 (evHeap H c0 c1) w4 := v.c.rel.reorder (i := H.n + 1) (es := liftsL ++ vis) (es2 := bothL) (by rw [v.hv.n]; rfl) v.hv.o1 (evHeap_1 H c0 c1) (by rw [both_eq]; exact (List.perm_append_left_iff _).2 hperm) fun j hj => by
    by_cases h0 : j < H.n
    · rw [evHeap_old H c0 c1 h0, v.old j h0]
    · by_cases h1 : j = H.n
      · rw [h1, evHeap_0, v.hv.o0]
      · by_cases h2 : j = H.n + 2
        · rw [h2, evHeap_2, v.hv.o2]
        · by_cases h3 : j = H.n + 3
          · rw [h3, evHeap_3, v.hv.o3]
          · rw [Heap.get_ge (by rw [evHeap_n]; omega), Heap.get_ge (by rw [v.hv.n]; omega)]
  have c4 := v.c.heapTo hrel4 (by rw [evHeap_n]; omega)
  have c4' : ConfAt Ev.P.globals.size H.n 21 φ w φ4 t4 (evHeap H c0 c1) [] a4 w4 := by rw [gV]; exact c4
  show endCode.wp Ev.P _ a4 w4
  refine runs_part eqsV extOkV (end_runs k0 k1 v.t1 v.t3) ok3 hb c4' ?_
  rintro ⟨e, t5, H5, d5⟩ ⟨rfl, h2, rfl, rfl⟩ a5 w5 hc5
  simp only at h2
  refine ⟨.inr rfl, t5, _, [], hc5, [.pointer (some ⟨H.n + 4, 0, none⟩)], ?_, ?_⟩
  · show resultVals Ev t5 _ [.tmp 2] = _
    simp only [resultVals, h2]
  · have ho : oldV H.n 4 (.pointer (some ⟨H.n + 4, 0, none⟩)) = false := by simp only [oldV, blt_add]
    show evRes H c0 c1 = kept H (.pointer (some ⟨H.n + 4, 0, none⟩)) _ []
    unfold kept
    simp only [ho]
    rfl

end Go.Proofs.YtfloogndmfkimaaGreatDoor
