/- Contracts of the functions of rational; algebra.At at values that do not move. -/
import Derived.Test.YtfloogndmfkimaaGreatDoorC1
import Derived.Test.YtfloogndmfkimaaGreatDoorAm3

namespace Go.Proofs.YtfloogndmfkimaaGreatDoor
open Go Go.AM Go.Proofs

theorem body127 : bodyOf E2 127 = some (Tryz.f127, Tryz.f127.body.getD .skip) := by kernel_rfl

theorem div2 {a b : List UInt8} (ha : a.length ≤ 8) (hb : b.length ≤ 8) (h0 : wordV 0 b ≠ 0) (H : Heap) (n : Nat) :
    call E2 n 126 [.string ⟨⟨a⟩⟩, .string ⟨⟨b⟩⟩] H = some ⟨.tuple #[.string ⟨⟨magF (wordV 0 a / wordV 0 b)⟩⟩, .string ⟨⟨magF (wordV 0 a % wordV 0 b)⟩⟩], H, []⟩ := by
  refine call_told ?_ n
  have h1 : Nat.ble a.length 8 = true := Nat.ble_eq_true_of_le ha
  have h2 : Nat.ble b.length 8 = true := Nat.ble_eq_true_of_le hb
  have h3 : Nat.beq (wordV 0 b) 0 = false := by
    cases h : Nat.beq (wordV 0 b) 0 with
    | false => rfl
    | true => exact absurd (Nat.eq_of_beq_eq_true h) h0
  show divX [.string ⟨⟨a⟩⟩, .string ⟨⟨b⟩⟩] H = _
  simp only [divX, h1, h2, h3]
  rfl

set_option maxRecDepth 100000
set_option maxHeartbeats 4000000

theorem divMod_p (y : Bool) {a : List UInt8} {c : UInt8} {b : List UInt8} {q r : List UInt8} (hd : ∀ H n, call E2 n 126 [.string ⟨⟨a⟩⟩, .string ⟨⟨c :: b⟩⟩] H = some ⟨.tuple #[.string ⟨⟨q⟩⟩, .string ⟨⟨r⟩⟩], H, []⟩) :
    call E2 30 127 [iV false a, iV y (c :: b)] (bare 3) = some ⟨.tuple #[signed (!(false == y)) q, signed false r, .int .i64 0], bare 3, []⟩ := by
  refine call_runs rfl body127 rfl ?_
  refine .seq rfl ?_
  refine .seqK (.seq rfl ?_)
  refine .condF rfl (.now rfl ?_)
  refine .seqK (.region ?_)
  refine .cons rfl rfl (.cons rfl rfl (.cons rfl rfl (.cons rfl rfl ?_)))
  refine .cons rfl (step_told (hd _ _) rfl) ?_
  refine .cons rfl rfl (.cons rfl rfl (.cons rfl rfl (.cons rfl rfl (.cons rfl rfl (.nil ?_)))))
  refine .seqK (.seq rfl ?_)
  refine .condF rfl (.now rfl ?_)
  refine .seqK (.region ?_)
  refine .cons rfl rfl (.cons rfl rfl (.cons rfl rfl (.cons rfl rfl (.cons rfl rfl (.cons rfl rfl ?_)))))
  refine .cons rfl (step_told (made2 _ _ _ _) rfl) ?_
  refine .cons rfl rfl ?_
  refine .cons rfl (step_told (made2 _ _ _ _) rfl) ?_
  refine .cons rfl rfl (.cons rfl rfl (.cons rfl rfl (.nil ?_)))
  exact .now rfl ⟨trivial, _, rfl, rfl⟩

theorem divMod_n (y : Bool) {a : List UInt8} {c : UInt8} {b : List UInt8} {q : List UInt8} (hd : ∀ H n, call E2 n 126 [.string ⟨⟨a⟩⟩, .string ⟨⟨c :: b⟩⟩] H = some ⟨.tuple #[.string ⟨⟨q⟩⟩, .string ⟨⟨[]⟩⟩], H, []⟩) :
    call E2 30 127 [iV true a, iV y (c :: b)] (bare 3) = some ⟨.tuple #[signed (!(true == y)) q, signed false [], .int .i64 0], bare 3, []⟩ := by
  refine call_runs rfl body127 rfl ?_
  refine .seq rfl ?_
  refine .seqK (.seq rfl ?_)
  refine .condF rfl (.now rfl ?_)
  refine .seqK (.region ?_)
  refine .cons rfl rfl (.cons rfl rfl (.cons rfl rfl (.cons rfl rfl ?_)))
  refine .cons rfl (step_told (hd _ _) rfl) ?_
  refine .cons rfl rfl (.cons rfl rfl (.cons rfl rfl (.cons rfl rfl (.cons rfl rfl (.nil ?_)))))
  refine .seqK (.seq rfl ?_)
  refine .condF rfl (.now rfl ?_)
  refine .seqK (.region ?_)
  refine .cons rfl rfl (.cons rfl rfl (.cons rfl rfl (.cons rfl rfl (.cons rfl rfl (.cons rfl rfl ?_)))))
  refine .cons rfl (step_told (made2 _ _ _ _) rfl) ?_
  refine .cons rfl rfl ?_
  refine .cons rfl (step_told (made2 _ _ _ _) rfl) ?_
  refine .cons rfl rfl (.cons rfl rfl (.cons rfl rfl (.nil ?_)))
  exact .now rfl ⟨trivial, _, rfl, rfl⟩

/-- What DivMod gives. -/
def divModV (x y : Bool) (a b : List UInt8) : Value := .tuple #[signed (!(x == y)) (magF (wordV 0 a / wordV 0 b)), signed false (magF (wordV 0 a % wordV 0 b)), .int .i64 0]

theorem divMod_ok (x y : Bool) {a : List UInt8} {c : UInt8} {b : List UInt8} (ha : a.length ≤ 8) (hb : (c :: b).length ≤ 8) (h0 : wordV 0 (c :: b) ≠ 0) (hx : x = false ∨ wordV 0 a % wordV 0 (c :: b) = 0) :
    call E2 30 127 [iV x a, iV y (c :: b)] (bare 3) = some ⟨divModV x y a (c :: b), bare 3, []⟩ := by
  have hd := fun H n => div2 ha hb h0 H n
  cases x with
  | false => exact divMod_p y hd
  | true =>
    have hr := hx.resolve_left (by simp)
    unfold divModV
    rw [hr] at hd ⊢
    exact divMod_n y hd

end Go.Proofs.YtfloogndmfkimaaGreatDoor

namespace Go.Proofs.YtfloogndmfkimaaGreatDoor
open Go Go.AM Go.Proofs

def gcdV (a b : List UInt8) : List UInt8 :=
  match b with
  | [] => a
  | _ :: _ => magF (Nat.gcd (wordV 0 a) (wordV 0 b))

def gcdX : List Value → Heap → Option CallRes
  | [x, y], H => match asI x, asI y with
    | some (_, a), some (_, b) => match Nat.ble a.length 8 && Nat.ble b.length 8 with
      | true => some ⟨signed false (gcdV a b), H, []⟩
      | false => none
    | _, _ => none
  | _, _ => none

def divModX : List Value → Heap → Option CallRes
  | [x, y], H => match asI x, asI y with
    | some (p, a), some (q, b) => match Nat.ble a.length 8 && Nat.ble b.length 8 && !Nat.beq (wordV 0 b) 0 && (!p || Nat.beq (wordV 0 a % wordV 0 b) 0) with
      | true => some ⟨divModV p q a b, H, []⟩
      | false => none
    | _, _ => none
  | _, _ => none

def ext3 (f : FuncId) : Option (List Value → Heap → Option CallRes) :=
  match Nat.beq f 71 with
  | true => some gcdX
  | false => match Nat.beq f 127 with
    | true => some divModX
    | false => ext2 f

theorem gcd_all (x y : Bool) {a b : List UInt8} (ha : a.length ≤ 8) (hb : b.length ≤ 8) : ∃ n, call E2 n 71 [iV x a, iV y b] (bare 3) = some ⟨signed false (gcdV a b), bare 3, []⟩ := by
  cases b with
  | nil => exact ⟨20, gcd_zero x y a⟩
  | cons c b => exact gcd_words x y ha hb

theorem ext3_ok {E : Env} (hP : E.P = Tryz.prog) {f : FuncId} {k : List Value → Heap → Option CallRes} (hf : ext3 f = some k) {args : List Value} {H : Heap} {r : CallRes} (h : k args H = some r) : CallOk E f args H r ∧ HeapKeeps H r.H r.dirty := by
  unfold ext3 at hf
  split at hf
  · rename_i hb
    obtain rfl := Nat.eq_of_beq_eq_true hb
    cases hf
    unfold gcdX at h
    split at h
    · split at h
      · rename_i h1 h2
        split at h
        · rename_i hs
          cases h
          rw [asI_spec h1, asI_spec h2]
          simp only [Bool.and_eq_true] at hs
          obtain ⟨n, hn⟩ := gcd_all _ _ (Nat.le_of_ble_eq_true hs.1) (Nat.le_of_ble_eq_true hs.2)
          exact told_ok (E := E2) hP eqs2 extOk2 g2 hn rfl rfl H
        · cases h
      · cases h
    · cases h
  split at hf
  · rename_i hb
    obtain rfl := Nat.eq_of_beq_eq_true hb
    cases hf
    unfold divModX at h
    split at h
    · split at h
      · rename_i p a q b h1 h2
        split at h
        · rename_i hs
          cases h
          rw [asI_spec h1, asI_spec h2]
          simp only [Bool.and_eq_true, Bool.or_eq_true, Bool.not_eq_true'] at hs
          obtain ⟨⟨⟨s1, s2⟩, s3⟩, s4⟩ := hs
          have hb0 : wordV 0 b ≠ 0 := fun e => by rw [e] at s3; cases s3
          have hx : p = false ∨ wordV 0 a % wordV 0 b = 0 := s4.imp id fun e => Nat.eq_of_beq_eq_true e
          cases b with
          | nil => exact absurd rfl hb0
          | cons c b => exact told_ok (E := E2) hP eqs2 extOk2 g2 (divMod_ok p q (Nat.le_of_ble_eq_true s1) (Nat.le_of_ble_eq_true s2) hb0 hx) rfl rfl H
        · cases h
      · cases h
    · cases h
  exact ext2_ok hP hf h

/-- The third surroundings. -/
noncomputable def E3 : Env := { P := Tryz.prog, eqs := eqsFlat Tryz.prog, ext := ext3 }
theorem eqs3 : EqsOk E3 := eqsFlat_ok (by kernel_rfl)
set_option maxRecDepth 100000
theorem extOk3 : ExtOk E3 := fun f args H r h => by
  unfold told at h
  split at h
  · rename_i k hk
    exact ext3_ok rfl hk h
  · cases h
theorem g3 : E3.P.globals.size = 3 := by kernel_rfl

theorem one_ok : call E3 20 73 [] (bare 3) = some ⟨iV false [1], bare 3, []⟩ := by kernel_rfl

end Go.Proofs.YtfloogndmfkimaaGreatDoor

namespace Go.Proofs.YtfloogndmfkimaaGreatDoor
open Go Go.AM Go.Proofs

theorem magL_length : ∀ n u, (magL n u).length = n
  | 0, _ => rfl
  | n + 1, u => by simp [magL, magL_length n u]

theorem wordV_add : ∀ (l : List UInt8) (a : Nat), wordV a l = a * 256 ^ l.length + wordV 0 l
  | [], a => by simp [wordV]
  | b :: l, a => by
    rw [wordV, wordV_add l (a * 256 + b.toNat), wordV, wordV_add l (0 * 256 + b.toNat), List.length_cons, Nat.pow_succ]
    have e : (a * 256 + b.toNat) * 256 ^ l.length = a * (256 ^ l.length * 256) + b.toNat * 256 ^ l.length := by
      rw [Nat.add_mul, Nat.mul_assoc, Nat.mul_comm 256]
    rw [e, Nat.zero_mul, Nat.zero_add]
    omega

theorem wordV_magL : ∀ n u, wordV 0 (magL n u) = u % 256 ^ n
  | 0, u => by simp [magL, wordV, Nat.mod_one]
  | n + 1, u => by
    rw [magL, wordV, wordV_add, magL_length, wordV_magL n u]
    have hb : (UInt8.ofNat (u / 256 ^ n % 256)).toNat = u / 256 ^ n % 256 := by
      simp
    rw [hb, Nat.zero_mul, Nat.zero_add, Nat.pow_succ, Nat.mod_mul, Nat.mul_comm, Nat.add_comm]

theorem magF_spec {u : Nat} (hu : u < 18446744073709551616) : wordV 0 (magF u) = u ∧ (magF u).length ≤ 8 := by
  unfold magF
  cases h : Nat.beq u 0 with
  | true =>
    have := Nat.eq_of_beq_eq_true h
    subst this
    exact ⟨rfl, by simp⟩
  | false =>
    have h0 : u ≠ 0 := fun e => by subst e; cases h
    have hl : u < 2 ^ (Nat.log2 u + 1) := (Nat.log2_lt h0).1 (Nat.lt_succ_self _)
    have h64 : Nat.log2 u < 64 := (Nat.log2_lt h0).2 (by simpa using hu)
    refine ⟨?_, by rw [magL_length]; omega⟩
    rw [wordV_magL]
    refine Nat.mod_eq_of_lt (Nat.lt_of_lt_of_le hl ?_)
    rw [show 256 = 2 ^ 8 from rfl, ← Nat.pow_mul]
    exact Nat.pow_le_pow_right (by omega) (by omega)

theorem divMod3 (p q : Bool) {a b : List UInt8} (ha : a.length ≤ 8) (hb : b.length ≤ 8) (h0 : wordV 0 b ≠ 0) (hx : p = false ∨ wordV 0 a % wordV 0 b = 0) (H : Heap) (n : Nat) :
    call E3 n 127 [iV p a, iV q b] H = some ⟨divModV p q a b, H, []⟩ := by
  refine call_told ?_ n
  have h1 : Nat.ble a.length 8 = true := Nat.ble_eq_true_of_le ha
  have h2 : Nat.ble b.length 8 = true := Nat.ble_eq_true_of_le hb
  have h3 : Nat.beq (wordV 0 b) 0 = false := by
    cases h : Nat.beq (wordV 0 b) 0 with
    | false => rfl
    | true => exact absurd (Nat.eq_of_beq_eq_true h) h0
  have h4 : (!p || Nat.beq (wordV 0 a % wordV 0 b) 0) = true := by
    rcases hx with rfl | hx
    · rfl
    · rw [hx]; cases p <;> rfl
  show divModX [iV p a, iV q b] H = _
  simp only [divModX, asI, iV, h1, h2, h3, h4]
  rfl

theorem body72 : bodyOf E3 72 = some (Tryz.f72, Tryz.f72.body.getD .skip) := by kernel_rfl

set_option maxRecDepth 100000
set_option maxHeartbeats 4000000

theorem quotient_ok (p q : Bool) {a b : List UInt8} (ha : a.length ≤ 8) (hb : b.length ≤ 8) (h0 : wordV 0 b ≠ 0) (hx : p = false ∨ wordV 0 a % wordV 0 b = 0) :
    call E3 20 72 [iV p a, iV q b] (bare 3) = some ⟨signed (!(p == q)) (magF (wordV 0 a / wordV 0 b)), bare 3, []⟩ := by
  have hd := fun H n => divMod3 p q ha hb h0 hx H n
  refine call_runs rfl body72 rfl ?_
  refine .seq rfl ?_
  refine .seqK (.region ?_)
  refine .cons rfl rfl (.cons rfl rfl ?_)
  refine .cons rfl (step_told (hd _ _) rfl) ?_
  refine .cons rfl rfl (.cons rfl rfl (.cons rfl rfl (.cons rfl rfl (.cons rfl rfl (.cons rfl rfl (.cons rfl rfl (.cons rfl rfl (.cons rfl rfl (.nil ?_)))))))))
  refine .seq rfl ?_
  exact .now rfl ⟨trivial, _, rfl, rfl⟩

end Go.Proofs.YtfloogndmfkimaaGreatDoor

namespace Go.Proofs.YtfloogndmfkimaaGreatDoor
open Go Go.AM Go.Proofs

def quotientX : List Value → Heap → Option CallRes
  | [x, y], H => match asI x, asI y with
    | some (p, a), some (q, b) => match Nat.ble a.length 8 && Nat.ble b.length 8 && !Nat.beq (wordV 0 b) 0 && (!p || Nat.beq (wordV 0 a % wordV 0 b) 0) with
      | true => some ⟨signed (!(p == q)) (magF (wordV 0 a / wordV 0 b)), H, []⟩
      | false => none
    | _, _ => none
  | _, _ => none

def oneX : List Value → Heap → Option CallRes
  | [], H => some ⟨iV false [1], H, []⟩
  | _, _ => none

def ext4 (f : FuncId) : Option (List Value → Heap → Option CallRes) :=
  match Nat.beq f 72 with
  | true => some quotientX
  | false => match Nat.beq f 73 with
    | true => some oneX
    | false => ext3 f

theorem ext4_ok {E : Env} (hP : E.P = Tryz.prog) {f : FuncId} {k : List Value → Heap → Option CallRes} (hf : ext4 f = some k) {args : List Value} {H : Heap} {r : CallRes} (h : k args H = some r) : CallOk E f args H r ∧ HeapKeeps H r.H r.dirty := by
  unfold ext4 at hf
  split at hf
  · rename_i hb
    obtain rfl := Nat.eq_of_beq_eq_true hb
    cases hf
    unfold quotientX at h
    split at h
    · split at h
      · rename_i p a q b h1 h2
        split at h
        · rename_i hs
          cases h
          rw [asI_spec h1, asI_spec h2]
          simp only [Bool.and_eq_true, Bool.or_eq_true, Bool.not_eq_true'] at hs
          obtain ⟨⟨⟨s1, s2⟩, s3⟩, s4⟩ := hs
          have hb0 : wordV 0 b ≠ 0 := fun e => by rw [e] at s3; cases s3
          exact told_ok (E := E3) hP eqs3 extOk3 g3 (quotient_ok p q (Nat.le_of_ble_eq_true s1) (Nat.le_of_ble_eq_true s2) hb0 (s4.imp id fun e => Nat.eq_of_beq_eq_true e)) rfl rfl H
        · cases h
      · cases h
    · cases h
  split at hf
  · rename_i hb
    obtain rfl := Nat.eq_of_beq_eq_true hb
    cases hf
    unfold oneX at h
    split at h
    · cases h
      exact told_ok (E := E3) hP eqs3 extOk3 g3 one_ok rfl rfl H
    · cases h
  exact ext3_ok hP hf h

/-- The fourth surroundings. -/
noncomputable def E4 : Env := { P := Tryz.prog, eqs := eqsFlat Tryz.prog, ext := ext4 }
theorem eqs4 : EqsOk E4 := eqsFlat_ok (by kernel_rfl)
theorem extOk4 : ExtOk E4 := fun f args H r h => by
  unfold told at h
  split at h
  · rename_i k hk
    exact ext4_ok rfl hk h
  · cases h
theorem g4 : E4.P.globals.size = 3 := by kernel_rfl

theorem gcd4 (x y : Bool) {a b : List UInt8} (ha : a.length ≤ 8) (hb : b.length ≤ 8) (H : Heap) (n : Nat) : call E4 n 71 [iV x a, iV y b] H = some ⟨signed false (gcdV a b), H, []⟩ := by
  refine call_told ?_ n
  have h1 : Nat.ble a.length 8 = true := Nat.ble_eq_true_of_le ha
  have h2 : Nat.ble b.length 8 = true := Nat.ble_eq_true_of_le hb
  show gcdX [iV x a, iV y b] H = _
  simp only [gcdX, asI, iV, h1, h2]
  rfl

theorem quotient4 (p q : Bool) {a b : List UInt8} (ha : a.length ≤ 8) (hb : b.length ≤ 8) (h0 : wordV 0 b ≠ 0) (hx : p = false ∨ wordV 0 a % wordV 0 b = 0) (H : Heap) (n : Nat) :
    call E4 n 72 [iV p a, iV q b] H = some ⟨signed (!(p == q)) (magF (wordV 0 a / wordV 0 b)), H, []⟩ := by
  refine call_told ?_ n
  have h1 : Nat.ble a.length 8 = true := Nat.ble_eq_true_of_le ha
  have h2 : Nat.ble b.length 8 = true := Nat.ble_eq_true_of_le hb
  have h3 : Nat.beq (wordV 0 b) 0 = false := by
    cases h : Nat.beq (wordV 0 b) 0 with
    | false => rfl
    | true => exact absurd (Nat.eq_of_beq_eq_true h) h0
  have h4 : (!p || Nat.beq (wordV 0 a % wordV 0 b) 0) = true := by
    rcases hx with rfl | hx
    · rfl
    · rw [hx]; cases p <;> rfl
  show quotientX [iV p a, iV q b] H = _
  simp only [quotientX, asI, iV, h1, h2, h3, h4]
  rfl

theorem flat24 : flatK Tryz.prog 8 24 = some [.b, .s] := by kernel_rfl
theorem eqs24 : E4.eqs 24 = some [.b, .s] := by
  have e : E4.eqs 24 = eqsFlat Tryz.prog 24 := by kernel_rfl
  have e2 : eqsFlat Tryz.prog 24 = flatK Tryz.prog 8 24 := eqsFlat_at (P := Tryz.prog) (t := 24) Tryz.underlying24 Tryz.eqGuardType24
  exact (e.trans e2).trans flat24

set_option maxRecDepth 100000 in
set_option maxHeartbeats 4000000 in
theorem eql24 {d : List UInt8} {t : Bool} (ht : decide (d = [1]) = t) (H : Heap) : binOpOp E4 H .eql 24 (iV false d) (iV false [1]) = some ⟨.bool t, H, [], false, []⟩ := by
  show (match (match E4.eqs 24 with
      | some ks => (match kindsOk ks [.bool false, .string ⟨⟨d⟩⟩] with
        | true => eqCells [.bool false, .string ⟨⟨d⟩⟩] [.bool false, .string ⟨⟨[1]⟩⟩]
        | false => none)
      | none => none : Option Bool) with | some b => done (.bool b) H | none => none) = _
  rw [eqs24]
  show done (.bool ((false == false) && (decide (d = [1]) && true))) H = _
  rw [ht]
  cases t <;> rfl

theorem body27 : bodyOf E4 27 = some (Tryz.f27, Tryz.f27.body.getD .skip) := by kernel_rfl

/-- A denominator: nothing for 1. -/
def denB (t : Bool) (d : List UInt8) : List UInt8 :=
  match t with
  | true => []
  | false => d

/-- An api.Rat. -/
def rV (s : Bool) (n d : List UInt8) : Value := .agg #[.bool s, .string ⟨⟨n⟩⟩, .bool false, .string ⟨⟨d⟩⟩]

set_option maxRecDepth 100000
set_option maxHeartbeats 4000000

theorem canon_run (x : Bool) {a : List UInt8} {c : UInt8} {b g n d : List UInt8} {t : Bool} (hg : ∀ H k, call E4 k 71 [iV x a, iV false (c :: b)] H = some ⟨iV false g, H, []⟩)
    (h1 : ∀ H k, call E4 k 72 [iV x a, iV false g] H = some ⟨signed x n, H, []⟩) (h2 : ∀ H k, call E4 k 72 [iV false (c :: b), iV false g] H = some ⟨iV false d, H, []⟩) (ht : decide (d = [1]) = t) :
    call E4 30 27 [iV x a, iV false (c :: b)] (bare 3) = some ⟨rV (x && !decide (n = [])) n (denB t d), bare 3, []⟩ := by
  refine call_runs rfl body27 rfl ?_
  refine .seq rfl ?_
  refine .seqK (.seq rfl ?_)
  refine .condF rfl (.now rfl ?_)
  refine .seqK (.region ?_)
  refine .cons rfl rfl (.cons rfl rfl ?_)
  refine .cons rfl (step_told (hg _ _) rfl) ?_
  refine .cons rfl rfl (.cons rfl rfl (.nil ?_))
  refine .seqK (.drawn (l := [0, 1, 2, 3, 4, 5, 6, 7]) (by kernel_rfl) (by kernel_rfl) ?_)
  refine .cons rfl rfl rfl (.cons rfl rfl rfl ?_)
  refine .cons rfl rfl (step_told (h1 _ _) rfl) ?_
  refine .cons rfl rfl rfl (.cons rfl rfl rfl ?_)
  refine .cons rfl rfl (step_told (h2 _ _) rfl) ?_
  refine .cons rfl rfl rfl (.cons rfl rfl rfl (.nil ?_))
  refine ⟨by kernel_rfl, by kernel_rfl, by kernel_rfl, by kernel_rfl, by kernel_rfl, by kernel_rfl, by kernel_rfl, by kernel_rfl, ?_⟩
  refine .seqK (.seqK (.drawn (l := [0, 1, 2]) (by kernel_rfl) (by kernel_rfl) ?_))
  refine .cons rfl rfl rfl (.cons rfl rfl rfl ?_)
  refine .cons rfl rfl (eql24 ht _) (.nil ?_)
  refine ⟨by kernel_rfl, by kernel_rfl, by kernel_rfl, ?_⟩
  cases t with
  | true =>
    refine .condT rfl (.now rfl ?_)
    refine .seq rfl ?_
    exact .now rfl ⟨trivial, _, rfl, rfl⟩
  | false =>
    refine .condF rfl (.now rfl ?_)
    refine .seq rfl ?_
    exact .now rfl ⟨trivial, _, rfl, rfl⟩

end Go.Proofs.YtfloogndmfkimaaGreatDoor

namespace Go.Proofs.YtfloogndmfkimaaGreatDoor
open Go Go.AM Go.Proofs

/-- The fraction of a number with a sign and a positive number. -/
def fracV (x : Bool) (a b : Nat) : Value :=
  rV (x && !decide (magF (a / Nat.gcd a b) = [])) (magF (a / Nat.gcd a b)) (denB (decide (magF (b / Nat.gcd a b) = [1])) (magF (b / Nat.gcd a b)))

theorem canon_ok (x : Bool) {a : List UInt8} {c : UInt8} {b : List UInt8} (ha : a.length ≤ 8) (hb : (c :: b).length ≤ 8) (h0 : wordV 0 (c :: b) ≠ 0) :
    call E4 30 27 [iV x a, iV false (c :: b)] (bare 3) = some ⟨fracV x (wordV 0 a) (wordV 0 (c :: b)), bare 3, []⟩ := by
  have hA := wordV_64 ha
  have hB := wordV_64 hb
  have hgle : Nat.gcd (wordV 0 a) (wordV 0 (c :: b)) ≤ wordV 0 (c :: b) := Nat.gcd_le_right _ (by omega)
  have hg64 : Nat.gcd (wordV 0 a) (wordV 0 (c :: b)) < 18446744073709551616 := by omega
  have hg0 : Nat.gcd (wordV 0 a) (wordV 0 (c :: b)) ≠ 0 := fun e => h0 (Nat.eq_zero_of_gcd_eq_zero_right e)
  obtain ⟨m1, m2⟩ := magF_spec hg64
  have d1 : wordV 0 a % Nat.gcd (wordV 0 a) (wordV 0 (c :: b)) = 0 := Nat.mod_eq_zero_of_dvd (Nat.gcd_dvd_left _ _)
  have d2 : wordV 0 (c :: b) % Nat.gcd (wordV 0 a) (wordV 0 (c :: b)) = 0 := Nat.mod_eq_zero_of_dvd (Nat.gcd_dvd_right _ _)
  have hg := fun H k => gcd4 x false ha hb H k
  have h1 := fun H k => quotient4 x false ha m2 (by rw [m1]; exact hg0) (.inr (by rw [m1]; exact d1)) H k
  have h2 := fun H k => quotient4 false false hb m2 (by rw [m1]; exact hg0) (.inl rfl) H k
  rw [m1] at h1 h2
  have e : (!(x == false)) = x := by cases x <;> rfl
  rw [e] at h1
  exact canon_run x (g := magF (Nat.gcd (wordV 0 a) (wordV 0 (c :: b)))) hg h1 h2 rfl

def canonX : List Value → Heap → Option CallRes
  | [x, y], H => match asI x, asI y with
    | some (p, a), some (false, c :: b) => match Nat.ble a.length 8 && Nat.ble (c :: b).length 8 && !Nat.beq (wordV 0 (c :: b)) 0 with
      | true => some ⟨fracV p (wordV 0 a) (wordV 0 (c :: b)), H, []⟩
      | false => none
    | _, _ => none
  | _, _ => none

def ext5 (f : FuncId) : Option (List Value → Heap → Option CallRes) :=
  match Nat.beq f 27 with
  | true => some canonX
  | false => ext4 f

theorem ext5_ok {E : Env} (hP : E.P = Tryz.prog) {f : FuncId} {k : List Value → Heap → Option CallRes} (hf : ext5 f = some k) {args : List Value} {H : Heap} {r : CallRes} (h : k args H = some r) : CallOk E f args H r ∧ HeapKeeps H r.H r.dirty := by
  unfold ext5 at hf
  split at hf
  · rename_i hb
    obtain rfl := Nat.eq_of_beq_eq_true hb
    cases hf
    unfold canonX at h
    split at h
    · split at h
      · rename_i p a c b h1 h2
        split at h
        · rename_i hs
          cases h
          rw [asI_spec h1, asI_spec h2]
          simp only [Bool.and_eq_true, Bool.not_eq_true'] at hs
          obtain ⟨⟨s1, s2⟩, s3⟩ := hs
          have hb0 : wordV 0 (c :: b) ≠ 0 := fun e => by rw [e] at s3; cases s3
          exact told_ok (E := E4) hP eqs4 extOk4 g4 (canon_ok p (Nat.le_of_ble_eq_true s1) (Nat.le_of_ble_eq_true s2) hb0) rfl rfl H
        · cases h
      · cases h
    · cases h
  exact ext4_ok hP hf h

/-- The fifth surroundings. -/
noncomputable def E5 : Env := { P := Tryz.prog, eqs := eqsFlat Tryz.prog, ext := ext5 }
theorem eqs5 : EqsOk E5 := eqsFlat_ok (by kernel_rfl)
theorem extOk5 : ExtOk E5 := fun f args H r h => by
  unfold told at h
  split at h
  · rename_i k hk
    exact ext5_ok rfl hk h
  · cases h
theorem g5 : E5.P.globals.size = 3 := by kernel_rfl

end Go.Proofs.YtfloogndmfkimaaGreatDoor

namespace Go.Proofs.YtfloogndmfkimaaGreatDoor
open Go Go.AM Go.Proofs

theorem canon5 (x : Bool) {a : List UInt8} {c : UInt8} {b : List UInt8} (ha : a.length ≤ 8) (hb : (c :: b).length ≤ 8) (h0 : wordV 0 (c :: b) ≠ 0) (H : Heap) (n : Nat) :
    call E5 n 27 [iV x a, iV false (c :: b)] H = some ⟨fracV x (wordV 0 a) (wordV 0 (c :: b)), H, []⟩ := by
  refine call_told ?_ n
  have h1 : Nat.ble a.length 8 = true := Nat.ble_eq_true_of_le ha
  have h2 : Nat.ble (c :: b).length 8 = true := Nat.ble_eq_true_of_le hb
  have h3 : Nat.beq (wordV 0 (c :: b)) 0 = false := by
    cases h : Nat.beq (wordV 0 (c :: b)) 0 with
    | false => rfl
    | true => exact absurd (Nat.eq_of_beq_eq_true h) h0
  show canonX [iV x a, iV false (c :: b)] H = _
  simp only [canonX, asI, iV, h1, h2, h3]
  rfl

theorem body9 : bodyOf E5 9 = some (Tryz.f9, Tryz.f9.body.getD .skip) := by kernel_rfl

set_option maxRecDepth 100000
set_option maxHeartbeats 4000000

theorem make_ok (x : Bool) {a : List UInt8} {c : UInt8} {b : List UInt8} (ha : a.length ≤ 8) (hb : (c :: b).length ≤ 8) (h0 : wordV 0 (c :: b) ≠ 0) :
    call E5 30 9 [iV x a, iV false (c :: b)] (bare 3) = some ⟨.tuple #[fracV x (wordV 0 a) (wordV 0 (c :: b)), .int .i64 0], bare 3, []⟩ := by
  have hc := fun H n => canon5 x ha hb h0 H n
  refine call_runs rfl body9 rfl ?_
  refine .seq rfl ?_
  refine .seqK (.seq rfl ?_)
  refine .condF rfl (.now rfl ?_)
  refine .seqK (.region ?_)
  refine .cons rfl rfl (.cons rfl rfl ?_)
  refine .cons rfl (step_told (hc _ _) rfl) ?_
  refine .cons rfl rfl (.cons rfl rfl (.nil ?_))
  exact .now rfl ⟨trivial, _, rfl, rfl⟩

def makeX : List Value → Heap → Option CallRes
  | [x, y], H => match asI x, asI y with
    | some (p, a), some (false, c :: b) => match Nat.ble a.length 8 && Nat.ble (c :: b).length 8 && !Nat.beq (wordV 0 (c :: b)) 0 with
      | true => some ⟨.tuple #[fracV p (wordV 0 a) (wordV 0 (c :: b)), .int .i64 0], H, []⟩
      | false => none
    | _, _ => none
  | _, _ => none

def ext6 (f : FuncId) : Option (List Value → Heap → Option CallRes) :=
  match Nat.beq f 9 with
  | true => some makeX
  | false => ext5 f

theorem ext6_ok {E : Env} (hP : E.P = Tryz.prog) {f : FuncId} {k : List Value → Heap → Option CallRes} (hf : ext6 f = some k) {args : List Value} {H : Heap} {r : CallRes} (h : k args H = some r) : CallOk E f args H r ∧ HeapKeeps H r.H r.dirty := by
  unfold ext6 at hf
  split at hf
  · rename_i hb
    obtain rfl := Nat.eq_of_beq_eq_true hb
    cases hf
    unfold makeX at h
    split at h
    · split at h
      · rename_i p a c b h1 h2
        split at h
        · rename_i hs
          cases h
          rw [asI_spec h1, asI_spec h2]
          simp only [Bool.and_eq_true, Bool.not_eq_true'] at hs
          obtain ⟨⟨s1, s2⟩, s3⟩ := hs
          have hb0 : wordV 0 (c :: b) ≠ 0 := fun e => by rw [e] at s3; cases s3
          exact told_ok (E := E5) hP eqs5 extOk5 g5 (make_ok p (Nat.le_of_ble_eq_true s1) (Nat.le_of_ble_eq_true s2) hb0) rfl rfl H
        · cases h
      · cases h
    · cases h
  exact ext5_ok hP hf h

/-- The sixth surroundings. -/
noncomputable def E6 : Env := { P := Tryz.prog, eqs := eqsFlat Tryz.prog, ext := ext6 }
theorem eqs6 : EqsOk E6 := eqsFlat_ok (by kernel_rfl)
theorem extOk6 : ExtOk E6 := fun f args H r h => by
  unfold told at h
  split at h
  · rename_i k hk
    exact ext6_ok rfl hk h
  · cases h
theorem g6 : E6.P.globals.size = 3 := by kernel_rfl

theorem fromInt6 {n : Int} (h : isI64 n = true) (H : Heap) (k : Nat) : call E6 k 10 [.int .i64 n] H = some ⟨fromIntV n, H, []⟩ := by
  refine call_told ?_ k
  show fromIntX [.int .i64 n] H = _
  simp only [fromIntX, h]

theorem make6 (x : Bool) {a : List UInt8} {c : UInt8} {b : List UInt8} (ha : a.length ≤ 8) (hb : (c :: b).length ≤ 8) (h0 : wordV 0 (c :: b) ≠ 0) (H : Heap) (n : Nat) :
    call E6 n 9 [iV x a, iV false (c :: b)] H = some ⟨.tuple #[fracV x (wordV 0 a) (wordV 0 (c :: b)), .int .i64 0], H, []⟩ := by
  refine call_told ?_ n
  have h1 : Nat.ble a.length 8 = true := Nat.ble_eq_true_of_le ha
  have h2 : Nat.ble (c :: b).length 8 = true := Nat.ble_eq_true_of_le hb
  have h3 : Nat.beq (wordV 0 (c :: b)) 0 = false := by
    cases h : Nat.beq (wordV 0 (c :: b)) 0 with
    | false => rfl
    | true => exact absurd (Nat.eq_of_beq_eq_true h) h0
  show makeX [iV x a, iV false (c :: b)] H = _
  simp only [makeX, asI, iV, h1, h2, h3]
  rfl

theorem body4 : bodyOf E6 4 = some (Tryz.f4, Tryz.f4.body.getD .skip) := by kernel_rfl
theorem body6 : bodyOf E6 6 = some (Tryz.f6, Tryz.f6.body.getD .skip) := by kernel_rfl

theorem four : call E6 0 10 [.int .i64 4] (bare 3) = some ⟨iV false [4], bare 3, []⟩ := by kernel_rfl
theorem fromInt6_4 (H : Heap) (k : Nat) : call E6 k 10 [.int .i64 4] H = some ⟨iV false [4], H, []⟩ := by
  have h := fromInt6 (n := 4) rfl H k
  have e : fromIntV 4 = iV false [4] := by kernel_rfl
  rw [h, e]

/-- The sign and the bytes of a number. -/
theorem fromInts_4 {n : Int} (hn : isI64 n = true) (hm : (magF n.natAbs).length ≤ 8) : call E6 30 4 [.int .i64 n, .int .i64 4] (bare 3) =
    some ⟨.tuple #[fracV (decide (n < 0) && !decide (magF n.natAbs = [])) (wordV 0 (magF n.natAbs)) (wordV 0 [4]), .int .i64 0], bare 3, []⟩ := by
  have h1 := fun H k => fromInt6 hn H k
  have h2 := fun H k => fromInt6_4 H k
  have h3 := fun H k => make6 (decide (n < 0) && !decide (magF n.natAbs = [])) (a := magF n.natAbs) (c := 4) (b := []) hm (by decide) (by decide) H k
  refine call_runs rfl body4 rfl ?_
  refine .seq rfl ?_
  refine .seqK (.region ?_)
  refine .cons rfl rfl ?_
  refine .cons rfl (step_told (h1 _ _) rfl) ?_
  refine .cons rfl rfl ?_
  refine .cons rfl (step_told (h2 _ _) rfl) ?_
  refine .cons rfl (step_told (h3 _ _) rfl) ?_
  refine .cons rfl rfl (.cons rfl rfl (.cons rfl rfl (.cons rfl rfl (.nil ?_))))
  exact .now rfl ⟨trivial, _, rfl, rfl⟩

theorem ratInt {n : Int} (hn : isI64 n = true) : call E6 30 6 [.int .i64 n] (bare 3) =
    some ⟨rV (decide (n < 0) && !decide (magF n.natAbs = [])) (magF n.natAbs) [], bare 3, []⟩ := by
  have h1 := fun H k => fromInt6 hn H k
  refine call_runs rfl body6 rfl ?_
  refine .seq rfl ?_
  refine .seqK (.region ?_)
  refine .cons rfl rfl ?_
  refine .cons rfl (step_told (h1 _ _) rfl) ?_
  refine .cons rfl rfl (.cons rfl rfl (.nil ?_))
  exact .now rfl ⟨trivial, _, rfl, rfl⟩

end Go.Proofs.YtfloogndmfkimaaGreatDoor

namespace Go.Proofs.YtfloogndmfkimaaGreatDoor
open Go Go.AM Go.Proofs

/-- A value of a type that does not move, as the law builds it. -/
noncomputable def vOf (ps : List (Nat × Value)) : Value :=
  match buildOp E6 (bare 3) 48 ps with
  | some q => q.v
  | none => undef

noncomputable def zero37 : Value :=
  match zeroT E6 37 with
  | some z => z
  | none => undef

set_option maxRecDepth 100000
theorem at_num (s s' : Bool) (n d n' d' : List UInt8) : call E6 60 5 [vOf [(0, .int .i64 2), (2, rV s n d)], rV s' n' d'] (bare 3) = some ⟨.tuple #[zero37, .int .i64 14], bare 3, []⟩ := by kernel_rfl
theorem at_bool (b s' : Bool) (n' d' : List UInt8) : call E6 60 5 [vOf [(0, .int .i64 1), (1, .bool b)], rV s' n' d'] (bare 3) = some ⟨.tuple #[zero37, .int .i64 14], bare 3, []⟩ := by kernel_rfl
theorem at_period (s' : Bool) (n' d' : List UInt8) : call E6 60 5 [vOf [(0, .int .i64 4)], rV s' n' d'] (bare 3) = some ⟨.tuple #[zero37, .int .i64 14], bare 3, []⟩ := by kernel_rfl
theorem same_zero : call E6 60 8 [zero37, zero37] (bare 3) = some ⟨.bool true, bare 3, []⟩ := by kernel_rfl

end Go.Proofs.YtfloogndmfkimaaGreatDoor

namespace Go.Proofs.YtfloogndmfkimaaGreatDoor
open Go Go.AM Go.Proofs

theorem isI64_abs {n : Int} (h : isI64 n = true) : (magF n.natAbs).length ≤ 8 := by
  have h64 : n.natAbs < 18446744073709551616 := by
    have := isI64_spec h
    unfold i64 at this
    omega
  exact (magF_spec h64).2

def fromInts4V (n : Int) : Value := .tuple #[fracV (decide (n < 0) && !decide (magF n.natAbs = [])) (wordV 0 (magF n.natAbs)) (wordV 0 [4]), .int .i64 0]
def ratIntV (n : Int) : Value := rV (decide (n < 0) && !decide (magF n.natAbs = [])) (magF n.natAbs) []

def fromIntsX : List Value → Heap → Option CallRes
  | [.int .i64 n, .int .i64 (.ofNat m)], H => match isI64 n && Nat.beq m 4 with
    | true => some ⟨fromInts4V n, H, []⟩
    | false => none
  | _, _ => none

def ratIntX : List Value → Heap → Option CallRes
  | [.int .i64 n], H => match isI64 n with
    | true => some ⟨ratIntV n, H, []⟩
    | false => none
  | _, _ => none

def ext7 (f : FuncId) : Option (List Value → Heap → Option CallRes) :=
  match Nat.beq f 4 with
  | true => some fromIntsX
  | false => match Nat.beq f 6 with
    | true => some ratIntX
    | false => ext6 f

theorem ext7_ok {E : Env} (hP : E.P = Tryz.prog) {f : FuncId} {k : List Value → Heap → Option CallRes} (hf : ext7 f = some k) {args : List Value} {H : Heap} {r : CallRes} (h : k args H = some r) : CallOk E f args H r ∧ HeapKeeps H r.H r.dirty := by
  unfold ext7 at hf
  split at hf
  · rename_i hb
    obtain rfl := Nat.eq_of_beq_eq_true hb
    cases hf
    unfold fromIntsX at h
    split at h
    · split at h
      · rename_i hs
        cases h
        simp only [Bool.and_eq_true] at hs
        obtain ⟨s1, s2⟩ := hs
        rw [Nat.eq_of_beq_eq_true s2]
        exact told_ok (E := E6) hP eqs6 extOk6 g6 (fromInts_4 s1 (isI64_abs s1)) rfl rfl H
      · cases h
    · cases h
  split at hf
  · rename_i hb
    obtain rfl := Nat.eq_of_beq_eq_true hb
    cases hf
    unfold ratIntX at h
    split at h
    · split at h
      · rename_i hs
        cases h
        exact told_ok (E := E6) hP eqs6 extOk6 g6 (ratInt hs) rfl rfl H
      · cases h
    · cases h
  exact ext6_ok hP hf h

end Go.Proofs.YtfloogndmfkimaaGreatDoor

namespace Go.Proofs.YtfloogndmfkimaaGreatDoor
open Go Go.AM Go.Proofs

def liftsL : List (Value × Value) := [(.int .i64 12, .func (.func 168) #[] #[]), (.int .i64 29, .func (.func 170) #[] #[]), (.int .i64 13, .func (.func 172) #[] #[]), (.int .i64 15, .func (.func 176) #[] #[]), (.int .i64 14, .func (.func 180) #[] #[]), (.int .i64 16, .func (.func 182) #[] #[]), (.int .i64 17, .func (.func 184) #[] #[]), (.int .i64 18, .func (.func 186) #[] #[]), (.int .i64 19, .func (.func 189) #[] #[]), (.int .i64 20, .func (.func 191) #[] #[]), (.int .i64 21, .func (.func 193) #[] #[]), (.int .i64 22, .func (.func 195) #[] #[]), (.int .i64 23, .func (.func 197) #[] #[]), (.int .i64 24, .func (.func 201) #[] #[]), (.int .i64 25, .func (.func 204) #[] #[])]
def periodsL : List (Value × Value) := [(.int .i64 6, .func (.func 208) #[] #[]), (.int .i64 7, .func (.func 211) #[] #[]), (.int .i64 8, .func (.func 213) #[] #[]), (.int .i64 9, .func (.func 215) #[] #[]), (.int .i64 10, .func (.func 217) #[] #[]), (.int .i64 11, .func (.func 219) #[] #[]), (.int .i64 26, .func (.func 221) #[] #[]), (.int .i64 27, .func (.func 224) #[] #[]), (.int .i64 28, .func (.func 226) #[] #[]), (.int .i64 30, .func (.func 228) #[] #[])]
def bothL : List (Value × Value) := [(.int .i64 12, .func (.func 168) #[] #[]), (.int .i64 29, .func (.func 170) #[] #[]), (.int .i64 13, .func (.func 172) #[] #[]), (.int .i64 15, .func (.func 176) #[] #[]), (.int .i64 14, .func (.func 180) #[] #[]), (.int .i64 16, .func (.func 182) #[] #[]), (.int .i64 17, .func (.func 184) #[] #[]), (.int .i64 18, .func (.func 186) #[] #[]), (.int .i64 19, .func (.func 189) #[] #[]), (.int .i64 20, .func (.func 191) #[] #[]), (.int .i64 21, .func (.func 193) #[] #[]), (.int .i64 22, .func (.func 195) #[] #[]), (.int .i64 23, .func (.func 197) #[] #[]), (.int .i64 24, .func (.func 201) #[] #[]), (.int .i64 25, .func (.func 204) #[] #[]), (.int .i64 6, .func (.func 208) #[] #[]), (.int .i64 7, .func (.func 211) #[] #[]), (.int .i64 8, .func (.func 213) #[] #[]), (.int .i64 9, .func (.func 215) #[] #[]), (.int .i64 10, .func (.func 217) #[] #[]), (.int .i64 11, .func (.func 219) #[] #[]), (.int .i64 26, .func (.func 221) #[] #[]), (.int .i64 27, .func (.func 224) #[] #[]), (.int .i64 28, .func (.func 226) #[] #[]), (.int .i64 30, .func (.func 228) #[] #[])]

noncomputable def newEvX : List Value → Heap → Option CallRes
  | [.agg cs], H => match cs.toList.all cellOk && Nat.beq cs.toList.length 2 with
    | true => some ⟨.pointer (some ⟨H.n + 4, 0, none⟩), ((((H.push (.cells cs.toList 76 false)).push (.map bothL)).push (.map periodsL)).push .dead).push (.cells (cs.toList ++ [.map (some (H.n + 1)), .bool false]) 156 false), []⟩
    | false => none
  | _, _ => none

noncomputable def ext8 (f : FuncId) : Option (List Value → Heap → Option CallRes) :=
  match Nat.beq f 55 with
  | true => some newEvX
  | false => ext7 f

def ksInt : List CK := [.b, .s]
def ksRat : List CK := [.b, .s, .b, .s]
def ksReal : List CK := [.b, .s, .b, .s, .b, .s, .b, .s, .b]
def eqs8 (t : TypeId) : Option (List CK) :=
  match Nat.beq t 24 with
  | true => some [.b, .s]
  | false => match Nat.beq t 26 with
    | true => some [.b, .s, .b, .s]
    | false => match Nat.beq t 57 with
      | true => some [.b, .s, .b, .s, .b, .s, .b, .s, .b]
      | false => match Nat.beq t 107 with
        | true => some [.b, .s, .b, .s, .b, .s, .b, .s, .b, .s, .b, .s]
        | false => match Nat.beq t 134 with
          | true => some [.b, .s, .b, .s, .b, .s, .b, .s, .b, .b, .s, .b, .s, .b, .s, .b, .s, .b, .b, .b]
          | false => match Nat.beq t 98 with
            | true => some [.i .i64, .i .i64]
            | false => none

noncomputable def E8 : Env := { P := Tryz.prog, eqs := eqs8, ext := ext8 }

end Go.Proofs.YtfloogndmfkimaaGreatDoor
