/- The abstract machine AM, part 2: operations; one step is sound; configurations. -/
import Derived.Test.YtfloogndmfkimaaGreatDoorAm1
import Derived.Lib.ConvBytes
import Derived.Laws.BytesString

namespace Go.AM
variable {E : Env}

/-- What holds of an operation that only reads objects: in every heap that agrees where it read. -/
def LookOp (P : Program) (φ : Phi) (H : Heap) (r : OpRes) (s : Sem Value) : Prop :=
  r.H = H ∧ r.wr = [] ∧ r.rdAll = false ∧ ∀ (g : Nat) (K : Heap) (w : World), Rel g φ K w → (∀ i L, i ∈ r.rd → φ i = some L → K.get i = H.get i) → ∃ v', s.run P w = .ok v' w ∧ VR φ r.v v'

theorem LookOp.ofPure {P : Program} {φ : Phi} {H : Heap} {r : OpRes} {s : Sem Value} (h : PureOp P φ H r s) : LookOp P φ H r s := by
  obtain ⟨h1, v', h2, h3⟩ := h
  rw [h1]
  exact ⟨rfl, rfl, rfl, fun g K w _ _ => ⟨v', h2 w, h3⟩⟩

theorem load_look {φ : Phi} {H : Heap} {t : TypeId} {p p' : Value} {r : OpRes} (h : loadOp E H t p = some r) (hp : VR φ p p') : LookOp E.P φ H r (Instr.loadAt t p') := by
  have h0 := h
  unfold loadOp at h
  cases hq : ptr p with
  | none => simp [hq] at h
  | some x =>
    obtain ⟨i, o⟩ := x
    simp only [hq] at h
    cases hl : loadO E H t i o with
    | none => simp [hl] at h
    | some v =>
      simp [hl] at h
      subst h
      refine ⟨rfl, rfl, rfl, fun g K w hR hk => ?_⟩
      obtain ⟨L, hL, rfl⟩ := ptr_inv hq hp
      have hl' : loadO E K t i o = some v := by
        unfold loadO at hl ⊢
        rw [hk i L (by simp) hL]
        exact hl
      obtain ⟨v', h1, h2⟩ := loadO_sound hl' hR hL
      exact ⟨v', by simp [Instr.loadAt, Instr.sureAddr, h1], h2⟩

/-! Conversions. -/

theorem byteCells_spec {φ : Phi} : ∀ {r r' : List Value} {l : List UInt8}, byteCells r = some l → VRs φ r r' →
    ∃ ns : List Int, r' = ns.map (Value.int .u8) ∧ ∀ s : ByteArray, (ns.foldl (fun r n => r.push (UInt8.ofNat n.toNat)) s).data.toList = s.data.toList ++ l
  | [], r', l, h, hr => by
    simp [byteCells] at h
    subst h
    rw [hr.nil_left]
    exact ⟨[], rfl, fun s => by simp⟩
  | c :: r, r', l, h, hr => by
    obtain ⟨c', r'', rfl, hc, hr'⟩ := hr.cons_left
    unfold byteCells at h
    split at h
    · rename_i e; cases e
    · rename_i n rr e
      cases e
      cases q : byteCells r with
      | none => simp [q] at h
      | some m =>
        simp [q] at h
        subst h
        cases hc.int_inv
        obtain ⟨ns, rfl, ih⟩ := byteCells_spec q hr'
        refine ⟨(n : Int) :: ns, rfl, fun s => ?_⟩
        simp only [List.foldl_cons]
        rw [ih]
        simp [ByteArray.push]
    · cases h

theorem bytesToString_run {P : Program} {a : Addr} {len cap : Nat} {r' : List Value} {φ : Phi} {r : List Value} {l : List UInt8} {w : World} (hl : (loadCells a len).run P w = .ok ⟨r'⟩ w) (hb : byteCells r = some l) (hr : VRs φ r r') :
    (Conv.bytesToString (.slice (some a) len cap)).run P w = .ok (.string ⟨⟨l⟩⟩) w := by
  obtain ⟨ns, rfl, h⟩ := byteCells_spec hb hr
  have := run_bytesToString (P := P) w a len cap ns (by simpa using hl)
  rw [this]
  have h0 := h ByteArray.empty
  congr 2
  cases hs : ns.foldl (fun r n => r.push (UInt8.ofNat n.toNat)) ByteArray.empty with
  | mk d =>
    rw [hs] at h0
    simp only at h0
    have : d.toList = l := by simpa using h0
    rw [← this]

theorem bytesWorld_heap (w : World) (e : TypeId) (s : ByteArray) :
    (Lib.bytesWorld w e s).heap = w.heap.push (.cells (Lib.bytesCells w e s) e ((Lib.bytesCells w e s).size, (Lib.bytesCells w e s).size + 1)) := by
  apply Array.ext_getElem?
  intro j
  rcases Nat.lt_trichotomy j w.heap.size with h | h | h
  · rw [Lib.bytesWorld_at_old w e s j h]
    simp [Array.getElem?_push, Nat.ne_of_lt h]
  · subst h
    rw [Lib.bytesWorld_at_new]
    simp
  · rw [Array.getElem?_eq_none (by rw [Lib.bytesWorld_size]; omega), Array.getElem?_eq_none (by simp; omega)]

theorem convert_bytes_makes {φ : Phi} {src dst e : TypeId} {s : ByteArray} {n : Nat} {w : World} {d : TypeDesc} (hs : E.P.underlying src = some d) (hu : E.P.underlying dst = some (.slice e)) (he : E.P.underlying e = some (.int .u8)) :
    Makes E.P φ n (.cells (ofBytes s.data.toList) e true) (.slice (some ⟨n, 0, some 1⟩) s.size s.size) (convert src dst (.string s)) w := by
  have hsz : s.data.toList.length = s.size := by rw [Array.length_toList]; rfl
  have hc : s.size ≤ grownCap w s.size 0 e := by
    simp only [grownCap, Question.cut]
    omega
  have hCs : (Lib.bytesCells w e s).size = grownCap w s.size 0 e := by
    have : s.data.size = s.size := rfl
    simp [Lib.bytesCells, this]; omega
  refine ⟨_, _, ⟨w.heap.size, 0, grownCap w s.size 0 e⟩, _, Lib.run_convert_string_bytes (P := E.P) w src dst e s hs hu he, bytesWorld_heap w e s, ?_, ?_, ?_, rfl, fun hn => ?_, fun φ' hφ _ => ?_⟩
  · simp [Lib.bytesWorld, World.freeze, World.alloc, World.drew, -World.alloc_eq, -World.drew_eq]
  · simp [Lib.bytesWorld, World.freeze, World.alloc, World.drew, -World.alloc_eq, -World.drew_eq]
  · simp [Lib.bytesWorld, World.freeze, World.alloc, World.drew, -World.alloc_eq, -World.drew_eq]
  · have hcells : ∀ x, x ∈ ofBytes s.data.toList → VR (φ.put n ⟨w.heap.size, 0, grownCap w s.size 0 e⟩) x x := fun x hx => by
      simp only [ofBytes, List.mem_map] at hx
      obtain ⟨b, _, rfl⟩ := hx
      exact .atom rfl
    have hlen : (ofBytes s.data.toList).length = s.size := by simp only [ofBytes, List.length_map, hsz]
    refine objRel_new rfl rfl ?_ (by rw [hCs, hlen]; exact hc) ?_ (fun _ => by rw [hCs]; exact Nat.le_refl _) _ (fun k hk => ?_)
    · have : (Lib.bytesCells w e s).toList.take (ofBytes s.data.toList).length = ofBytes s.data.toList := by
        have e1 : (Lib.bytesCells w e s).toList = ofBytes s.data.toList ++ List.replicate (grownCap w s.size 0 e - s.size) (.int .u8 0) := by
          simp [Lib.bytesCells, ofBytes]
        rw [e1, List.take_left]
      rw [this]
      exact Pw.refl_of _ hcells
    · rw [List.all_eq_true]
      intro x hx
      simp only [ofBytes, List.mem_map] at hx
      obtain ⟨b, _, rfl⟩ := hx
      rfl
    · simp only [clearOf]; omega
  · exact .opn hφ hc rfl (.inr ⟨rfl, by simp⟩)

/-- Conversions, by what they do. -/
theorem convert_sound {φ : Phi} {src dst : TypeId} {x x' : Value} {H : Heap} {r : OpRes} (h : convertOp E H src dst x = some r) (hx : VR φ x x') :
    (match cls E (.convert src dst (.tmp 0)) with
      | .pure => PureOp E.P φ H r (convert src dst x')
      | .look => LookOp E.P φ H r (convert src dst x')
      | .make => ∃ o, r = ⟨r.v, H.push o, [], false, []⟩ ∧ ∀ w, Makes E.P φ H.n o r.v (convert src dst x') w
      | .heavy => False) := by
  unfold convertOp at h
  split at h
  · rename_i d k j n h1 h2
    cases hx.int_inv
    simp only [cls, h1, h2]
    have : PureOp E.P φ H r (convert src dst (.int j n)) := by
      rw [done_spec h]
      exact .mk' (v' := .int k (wrapF k n)) (fun w => by simp [convert, run_underlying h1, run_underlying h2, Conv.intToInt, wrapF_eq]) (.atom rfl)
    cases d <;> exact this
  · rename_i d s h1 h2
    cases hx.string_inv
    simp only [cls, h1, h2]
    have : PureOp E.P φ H r (convert src dst (.string s)) := by
      rw [done_spec h]
      exact .mk' (v' := .string s) (fun w => by simp [convert, run_underlying h1, run_underlying h2]) (.atom rfl)
    cases d <;> first | exact this | exact LookOp.ofPure this
  · rename_i j k n h1 h2
    cases hx.int_inv
    simp only [cls, h1, h2]
    rw [done_spec h]
    exact .mk' (v' := .string (Utf8.encode n)) (fun w => by simp [convert, run_underlying h1, run_underlying h2, Conv.intToString]) (.atom rfl)
  · rename_i d e s h1 h2
    cases hx.string_inv
    simp only [cls, h1, h2]
    cases he : E.P.underlying e with
    | none => simp [he] at h
    | some de =>
      cases de with
      | int kk =>
        cases kk <;> simp only [he] at h <;> try (cases h; done)
        split at h
        · obtain ⟨hc, rfl⟩ := newCells_spec h
          exact ⟨_, rfl, fun w => convert_bytes_makes h1 h2 he⟩
        · cases h
      | _ => simp [he] at h
  · rename_i e n c h1 h2
    cases hx.nilSlice_inv
    simp only [cls, h1, h2]
    cases he : E.P.underlying e with
    | none => simp [he] at h
    | some de =>
      cases de with
      | int kk =>
        cases kk <;> simp only [he] at h <;> try (cases h; done)
        refine LookOp.ofPure ?_
        rw [done_spec h]
        exact .mk' (v' := .string ⟨#[]⟩) (fun w => by simp [convert, run_underlying h1, run_underlying h2, run_underlying he, Conv.bytesToString]; rfl) (.atom rfl)
      | _ => simp [he] at h
  · rename_i e i o sp len cap h1 h2
    simp only [cls, h1, h2]
    cases he : E.P.underlying e with
    | none => simp [he] at h
    | some de =>
      cases de with
      | int kk =>
        cases kk <;> simp only [he] at h <;> try (cases h; done)
        cases hg : H.get i with
        | cells cs ce b =>
          simp only [hg] at h
          cases ht : takeAt o len cs with
          | none => simp [ht] at h
          | some q =>
            simp only [ht] at h
            cases hb : byteCells q with
            | none => simp [hb] at h
            | some l =>
              simp [hb] at h
              subst h
              refine ⟨rfl, rfl, rfl, fun g K w hR hk => ⟨.string ⟨⟨l⟩⟩, ?_, .atom rfl⟩⟩
              have main : ∀ L, φ i = some L → ∃ l', (loadCells ⟨L.b, L.base + o, none⟩ len).run E.P w = .ok ⟨l'⟩ w ∧ VRs φ q l' := by
                intro L hL
                have hobj := hR.obj i L hL
                rw [hk i L (by simp) hL, hg] at hobj
                obtain ⟨l', h1, h2, h3⟩ := hobj.row ht
                have := run_loadCells_list (P := E.P) w ⟨L.b, L.base + o, none⟩ l' h3
                have hlen : l'.length = len := by rw [← h1.1]; exact takeAt_len ht
                rw [hlen] at this
                exact ⟨l', this, h1⟩
              have fin : ∀ a c, x' = .slice (some a) len c → (∃ l', (loadCells a len).run E.P w = .ok ⟨l'⟩ w ∧ VRs φ q l') → (convert src dst x').run E.P w = .ok (.string ⟨⟨l⟩⟩) w := by
                intro a c hx' ⟨l', h5, h6⟩
                rw [hx', run_convert_bytes_string w src dst e (some a) len c h1 he h2]
                exact bytesToString_run h5 hb h6
              cases sp with
              | none =>
                obtain ⟨L, hL, hx'⟩ := hx.slice_inv
                exact fin _ _ hx' (main L hL)
              | some s =>
                obtain ⟨L, a, c', hL, hx', g1, g2, g3⟩ := hx.opn_inv
                rcases g3 with g3 | ⟨rfl, g3⟩
                · have hl0 : len = 0 := by omega
                  subst hl0
                  have hq0 : q = [] := by
                    have := takeAt_len ht
                    exact List.length_eq_zero_iff.1 this
                  subst hq0
                  exact fin _ _ hx' ⟨[], by simpa using run_loadCells_list (P := E.P) w a [] (by simp), .nil⟩
                · exact fin _ _ hx' (main L hL)
        | map es => simp [hg] at h
        | iter s p => simp [hg] at h
        | dead => simp [hg] at h
      | _ => simp [he] at h
  · cases h

/-! Maps. -/

theorem sameKey_spec {k q : Value} {b : Bool} (h : sameKey k q = some b) : (b = true ↔ q = k) ∧ ∃ kk, keyKind k = some kk ∧ keyKind q = some kk := by
  unfold sameKey at h
  split at h
  · rename_i j a j' c
    by_cases hj : j = j'
    · subst hj
      simp at h
      subst h
      exact ⟨by simp; exact eq_comm, _, rfl, rfl⟩
    · simp [hj] at h
  · rename_i a c
    simp only [Option.some.injEq] at h
    subst h
    refine ⟨?_, _, rfl, rfl⟩
    simp only [decide_eq_true_eq]
    constructor
    · intro e
      congr 1
      cases a; cases c
      simp only at e
      congr 1
      exact (Array.ext' e).symm
    · intro e
      cases e
      rfl
  · rename_i a c
    simp at h
    subst h
    refine ⟨?_, _, rfl, rfl⟩
    cases a <;> cases c <;> simp
  · cases h

theorem findK_spec {k : Value} : ∀ {es : List (Value × Value)} {r : Option Value}, findK k es = some r → (∀ v, r = some v → (k, v) ∈ es) ∧ (r = none → ∀ p ∈ es, p.1 ≠ k) ∧ (∀ p, es.head? = some p → ∃ kk, keyKind k = some kk ∧ keyKind p.1 = some kk)
  | [], r, h => by simp [findK] at h; subst h; simp
  | (q, v) :: es, r, h => by
    simp only [findK] at h
    cases hs : sameKey k q with
    | none => simp [hs] at h
    | some b =>
      obtain ⟨h1, kk, h2, h3⟩ := sameKey_spec hs
      cases b with
      | true =>
        simp [hs] at h
        subst h
        have : q = k := h1.1 rfl
        subst this
        exact ⟨fun u hu => by cases hu; simp, fun h => by simp at h, fun p hp => by simp at hp; subst hp; exact ⟨kk, h2, h3⟩⟩
      | false =>
        simp only [hs] at h
        obtain ⟨g1, g2, g3⟩ := findK_spec h
        refine ⟨fun u hu => List.mem_cons_of_mem _ (g1 u hu), fun hr p hp => ?_, fun p hp => by simp at hp; subst hp; exact ⟨kk, h2, h3⟩⟩
        rcases List.mem_cons.1 hp with rfl | hp
        · exact fun e => by have := h1.2 e; cases this
        · exact g2 hr p hp

/-- A key of its type, by its kind. -/
theorem bytes_beq (a c : ByteArray) : (a == c) = true ↔ c = a := by
  rw [beq_toListBytes, toList_data, toList_data, beq_iff_eq]
  constructor
  · intro e
    cases a; cases c
    simp only at e
    congr 1
    exact (Array.ext' e).symm
  · rintro rfl
    rfl

def keyFits (d : TypeDesc) (k : Value) : Bool :=
  match d, k with
  | .int _, .int .. => true
  | .string, .string _ => true
  | .bool, .bool _ => true
  | _, _ => false

theorem sameNow_spec {d : TypeDesc} {k q : Value} (h : keyFits d k = true) (hk : keyKind q = keyKind k) :
    ∃ b, Instr.sameNow d k q = some b ∧ (b = true ↔ q = k) := by
  cases d <;> cases k <;> simp [keyFits] at h <;> cases q <;> simp [keyKind] at hk
  · rename_i a b
    refine ⟨_, rfl, ?_⟩
    cases a <;> cases b <;> simp
  · rename_i j a j' c
    subst hk
    refine ⟨a == c, by simp only [Instr.sameNow, if_true], ?_⟩
    simp
    exact eq_comm
  · rename_i a c
    exact ⟨_, rfl, by rw [bytes_beq]; simp⟩

theorem findNow_spec {d : TypeDesc} {k : Value} : ∀ {es : List MapEntry} {i : Nat}, (∀ e ∈ es, ∃ b, Instr.sameNow d k e.key = some b ∧ (b = true ↔ e.key = k)) → (es.map (·.key)).Nodup →
    ((∀ e ∈ es, e.key ≠ k) → Instr.findNow d k es i = some none) ∧ (∀ e ∈ es, e.key = k → ∃ j, Instr.findNow d k es i = some (some (i + j, e.val)) ∧ es[j]? = some e)
  | [], i, _, _ => ⟨fun _ => rfl, fun e he => by simp at he⟩
  | a :: es, i, h, hn => by
    obtain ⟨b, hb, hba⟩ := h a (by simp)
    have hn' : (es.map (·.key)).Nodup := by simp at hn; simpa using hn.2
    obtain ⟨g1, g2⟩ := findNow_spec (i := i + 1) (fun e he => h e (by simp [he])) hn'
    refine ⟨fun hne => ?_, fun e he hek => ?_⟩
    · have hbf : b = false := by
        cases b with
        | false => rfl
        | true => exact absurd (hba.1 rfl) (hne a (by simp))
      simp only [Instr.findNow, hb, hbf]
      exact g1 fun e he => hne e (by simp [he])
    · rcases List.mem_cons.1 he with rfl | he
      · refine ⟨0, ?_, rfl⟩
        have hbt : b = true := hba.2 hek
        simp only [Instr.findNow, hb, hbt]
        simp
      · have hne : ¬ a.key = k := fun e' => by
          simp at hn
          exact hn.1 e he (by rw [hek, e'])
        have hbf : b = false := by
          cases b with
          | false => rfl
          | true => exact absurd (hba.1 rfl) hne
        obtain ⟨j, h1, h2⟩ := g2 e he hek
        refine ⟨j + 1, ?_, by simpa using h2⟩
        simp only [Instr.findNow, hb, hbf]
        rw [h1, show i + 1 + j = i + (j + 1) by omega]

theorem checkKey_ok {kt : TypeId} {k : Value} (h : keyOk E kt k = true) (b : Bool) (n : Nat) (w : World) : (Instr.checkKey b (n + 1) kt k).run E.P w = .ok () w := by
  unfold keyOk at h
  cases hu : E.P.underlying kt with
  | none => simp [hu] at h
  | some d => cases d <;> cases k <;> simp [hu] at h <;> simp [Instr.checkKey, run_underlying hu]

theorem keyOk_desc {kt : TypeId} {k : Value} (h : keyOk E kt k = true) : ∃ d, E.P.underlying kt = some d ∧ keyFits d k = true := by
  unfold keyOk at h
  cases hu : E.P.underlying kt with
  | none => simp [hu] at h
  | some d => exact ⟨d, rfl, by cases d <;> cases k <;> first | rfl | (simp [hu] at h)⟩

theorem keyOk_atom {φ : Phi} {kt : TypeId} {k k' : Value} (h : keyOk E kt k = true) (r : VR φ k k') : k' = k := by
  unfold keyOk at h
  cases hu : E.P.underlying kt with
  | none => simp [hu] at h
  | some d =>
    cases d <;> cases k <;> simp [hu] at h
    · exact r.bool_inv
    · exact r.int_inv
    · exact r.string_inv

/-- The search for a key. -/
theorem findKey_run {φ : Phi} {kt : TypeId} {k : Value} {es : List (Value × Value)} {es' : List MapEntry} {q : Option Value} (hk : keyOk E kt k = true) (hm : MapRel φ es es') (hf : findK k es = some q) (w : World) :
    (q = none ∧ (∀ p ∈ es, p.1 ≠ k) ∧ (Instr.findKey kt k es').run E.P w = .ok none w) ∨
    (∃ v j e, q = some v ∧ (k, v) ∈ es ∧ es'[j]? = some e ∧ e.key = k ∧ VR φ v e.val ∧ (Instr.findKey kt k es').run E.P w = .ok (some (j, e.val)) w) := by
  obtain ⟨d, hd, hdk⟩ := keyOk_desc hk
  obtain ⟨g1, g2, g3⟩ := findK_spec hf
  have hkind : ∀ e ∈ es', keyKind e.key = keyKind k := by
    intro e he
    obtain ⟨p, hp, hpk⟩ := hm.back e he
    obtain ⟨kk, hkk⟩ := hm.kinds
    cases hes : es with
    | nil => rw [hes] at hp; simp at hp
    | cons p0 r =>
      obtain ⟨k0, a1, a2⟩ := g3 p0 (by rw [hes]; rfl)
      have b1 := hkk p0 (by rw [hes]; simp)
      have b2 := hkk p hp
      rw [a1, ← hpk, b2, ← b1, a2]
  have hnow : ∀ e ∈ es', ∃ b, Instr.sameNow d k e.key = some b ∧ (b = true ↔ e.key = k) := fun e he => sameNow_spec hdk (hkind e he)
  obtain ⟨f1, f2⟩ := findNow_spec (i := 0) hnow hm.nodup'
  cases q with
  | none =>
    left
    refine ⟨rfl, g2 rfl, ?_⟩
    have := f1 fun e he hek => by
      obtain ⟨p, hp, hpk⟩ := hm.back e he
      exact g2 rfl p hp (by rw [hpk, hek])
    simp [Instr.findKey, run_underlying hd, this]
  | some v =>
    right
    have hmem := g1 v rfl
    obtain ⟨e, he, hek, hev⟩ := hm.there (k, v) hmem
    obtain ⟨j, h1, h2⟩ := f2 e he hek
    refine ⟨v, j, e, rfl, hmem, h2, hek, hev, ?_⟩
    simp [Instr.findKey, run_underlying hd, h1]

def lookTail (kt et : TypeId) (k : Value) (ok : Bool) (es : Array MapEntry) : Sem Value := do
  Instr.checkKey es.isEmpty 10000 kt k
  let (v, o) ← match ← Instr.findKey kt k es.toList with
    | some (_, v) => pure (v, true)
    | none => do pure (← zeroValue et, false)
  pure (if ok then .tuple #[v, .bool o] else v)

theorem VR.okV {φ : Phi} {v v' : Value} (h : VR φ v v') (ok b : Bool) : VR φ (AM.okV ok v b) (if ok then .tuple #[v', .bool b] else v') := by
  cases ok
  · exact h
  · exact .mkTuple (.cons h (.cons (.atom rfl) .nil))

theorem lookTail_sound {φ : Phi} {kt et : TypeId} {k z : Value} {ok : Bool} {H : Heap} {r : OpRes} {es : List (Value × Value)} {rd : List Nat} {es' : Array MapEntry} (hko : keyOk E kt k = true) (hz : zeroT E et = some z)
    (h : (match findK k es with
      | some (some v) => some ⟨AM.okV ok v true, H, rd, false, []⟩
      | some none => some ⟨AM.okV ok z false, H, rd, false, []⟩
      | none => none : Option OpRes) = some r) (hm : MapRel φ es es'.toList) (w : World) : ∃ v', (lookTail kt et k ok es').run E.P w = .ok v' w ∧ VR φ r.v v' := by
  cases hfk : findK k es with
  | none => simp [hfk] at h
  | some q =>
    rcases findKey_run hko hm hfk w with ⟨rfl, _, hrun⟩ | ⟨v, j, e, rfl, _, _, _, hv, hrun⟩
    · simp only [hfk, Option.some.injEq] at h
      subst h
      exact ⟨_, by simp [lookTail, checkKey_ok hko, hrun, run_zeroT hz], (VR.zero hz).okV ok false⟩
    · simp only [hfk, Option.some.injEq] at h
      subst h
      exact ⟨_, by simp [lookTail, checkKey_ok hko, hrun], hv.okV ok true⟩

theorem lookTail_res {k z : Value} {ok : Bool} {H : Heap} {r : OpRes} {es : List (Value × Value)} {rd : List Nat}
    (h : (match findK k es with
      | some (some v) => some ⟨AM.okV ok v true, H, rd, false, []⟩
      | some none => some ⟨AM.okV ok z false, H, rd, false, []⟩
      | none => none : Option OpRes) = some r) : r.H = H ∧ r.wr = [] ∧ r.rdAll = false ∧ r.rd = rd := by
  cases hfk : findK k es with
  | none => simp [hfk] at h
  | some q => cases q <;> simp only [hfk, Option.some.injEq] at h <;> subst h <;> exact ⟨rfl, rfl, rfl, rfl⟩

theorem lookup_look {φ : Phi} {t : TypeId} {x x' k k' : Value} {ok : Bool} {H : Heap} {r : OpRes} (h : lookupOp E H t x k ok = some r) (hx : VR φ x x') (hk : VR φ k k') : LookOp E.P φ H r (Instr.lookup t x' k' ok) := by
  unfold lookupOp at h
  cases hu : E.P.underlying t with
  | none => simp [hu] at h
  | some d =>
    cases d with
    | map kt et =>
      simp only [hu] at h
      cases hko : keyOk E kt k with
      | false => simp [hko] at h
      | true =>
        cases hz : zeroT E et with
        | none => simp [hko, hz] at h
        | some z =>
          cases he : entriesOf H x with
          | none => simp [hko, hz, he] at h
          | some p =>
            obtain ⟨es, rd⟩ := p
            simp only [hko, hz, he] at h
            cases keyOk_atom hko hk
            obtain ⟨r1, r2, r3, r4⟩ := lookTail_res h
            refine ⟨r1, r2, r3, fun g K w hR hK => ?_⟩
            rw [r4] at hK
            unfold entriesOf at he
            split at he
            · cases he
              cases hx.nilMap_inv
              obtain ⟨v', h1, h2⟩ := lookTail_sound (es := []) (rd := []) (es' := #[]) hko hz h ⟨by simp, by simp, rfl, ⟨.bool, by simp⟩, by simp, by simp⟩ w
              exact ⟨v', by rw [← h1]; simp [Instr.lookup, lookTail, run_underlying hu]; rfl, h2⟩
            · rename_i i
              obtain ⟨L, hL, rfl⟩ := hx.map_inv
              cases hg : H.get i with
              | map es0 =>
                simp [hg] at he
                obtain ⟨rfl, rfl⟩ := he
                have hobj := hR.obj i L hL
                rw [hK i L (by simp) hL, hg] at hobj
                obtain ⟨es', clk, hb, hm, _⟩ := hobj
                obtain ⟨v', h1, h2⟩ := lookTail_sound hko hz h hm w
                have hgo : (getObj L.b).run E.P w = .ok (.map es' clk) w := by simp [getObj, Sem.run, hb]
                exact ⟨v', by rw [← h1]; simp [Instr.lookup, lookTail, run_underlying hu, hgo]; rfl, h2⟩
              | cells cs e b => simp [hg] at he
              | iter s p => simp [hg] at he
              | dead => simp [hg] at he
            · cases he
    | _ => simp [hu] at h

end Go.AM

namespace Go.AM
variable {E : Env}

/-- An object is another one now, in its block. -/
theorem Rel.change {g : Nat} {φ : Phi} {H : Heap} {w w' : World} (r : Rel g φ H w) {i : Nat} {L : Loc} (hi : φ i = some L) (hl : H.get i ≠ .dead) {o' : AObj} (hsz : w'.heap.size = w.heap.size)
    (hoth : ∀ b, b ≠ L.b → w'.heap[b]? = w.heap[b]?) (ho : ObjRel φ w' o' L) : Rel g φ (H.set i o') w' := by
  have hin : i < H.n := Heap.get_lt_of_ne hl
  refine ⟨r.wf.set _ _, fun j M f => r.dom j M f, fun j M f => ?_, fun j M f => by rw [hsz]; exact r.blk j M f, fun j k M N f q x y hne => ?_, r.glob⟩
  · by_cases hj : j = i
    · subst hj
      rw [Heap.get_set_self r.wf hin]
      rw [hi] at f; cases f
      exact ho
    · rw [Heap.get_set_ne hj hin]
      by_cases hd : H.get j = .dead
      · rw [hd]; trivial
      · exact (r.obj j M f).block (hoth _ (r.inj j i M L f hi hd hl hj))
  · have hx : ∀ z, (H.set i o').get z ≠ .dead → H.get z ≠ .dead := fun z hz => by
      by_cases hzi : z = i
      · subst hzi; exact hl
      · rwa [Heap.get_set_ne hzi hin] at hz
    exact r.inj j k M N f q (hx j x) (hx k y) hne

theorem Rel.kill {g : Nat} {φ : Phi} {H : Heap} {w : World} (r : Rel g φ H w) {i : Nat} {L : Loc} (hi : φ i = some L) (hl : H.get i ≠ .dead) : Rel g φ (H.set i .dead) w :=
  r.change hi hl rfl (fun _ _ => rfl) trivial

/-- An object that nothing stood to takes over a block that no other object has. -/
theorem Rel.adopt {g : Nat} {φ : Phi} {K : Heap} {w w' : World} (r : Rel g φ K w) {n : Nat} (hn : n < K.n) (hφ : φ n = none) {L : Loc} (hb : L.b < w'.heap.size) (hsz : w.heap.size ≤ w'.heap.size)
    (hoth : ∀ b, b < w.heap.size → b ≠ L.b → w'.heap[b]? = w.heap[b]?) (hfree : ∀ j M, φ j = some M → K.get j ≠ .dead → M.b ≠ L.b) (ho : ObjRel (φ.put n L) w' (K.get n) L) : Rel g (φ.put n L) K w' := by
  have ext : Ext φ (φ.put n L) := .put hφ
  refine ⟨r.wf, fun j M e => ?_, fun j M e => ?_, fun j M e => ?_, fun j k M N e f a b hne => ?_, fun j hj => ext _ _ (r.glob j hj)⟩
  · by_cases hj : j = n
    · subst hj; exact hn
    · rw [Phi.put_ne hj] at e; exact r.dom j M e
  · by_cases hj : j = n
    · subst hj; rw [Phi.put_self] at e; cases e; exact ho
    · rw [Phi.put_ne hj] at e
      by_cases hd : K.get j = .dead
      · rw [hd]; trivial
      · exact ((r.obj j M e).block (hoth _ (r.blk j M e) (hfree j M e hd))).mono ext
  · by_cases hj : j = n
    · subst hj; rw [Phi.put_self] at e; cases e; exact hb
    · rw [Phi.put_ne hj] at e
      exact Nat.lt_of_lt_of_le (r.blk j M e) hsz
  · by_cases hj : j = n
    · subst hj
      rw [Phi.put_self] at e; cases e
      rw [Phi.put_ne (fun h => hne h.symm)] at f
      exact fun h => hfree k N f b h.symm
    · rw [Phi.put_ne hj] at e
      by_cases hk : k = n
      · subst hk
        rw [Phi.put_self] at f; cases f
        exact hfree j M e a
      · rw [Phi.put_ne hk] at f
        exact r.inj j k M N e f a b hne

/-! Maps. -/

theorem sameBits_refl {k : Value} {kk : KK} (h : keyKind k = some kk) (n : Nat) : Instr.sameBits n k k = true := by
  cases k <;> simp [keyKind] at h <;> cases n <;> simp [Instr.sameBits]
  all_goals (rw [bytes_beq])

theorem keyThatStays_same {P : Program} {k : Value} {kk : KK} (h : keyKind k = some kk) (w : World) : (Instr.keyThatStays k k).run P w = .ok k w := by
  simp [Instr.keyThatStays, sameBits_refl h]

theorem keyKind_of_keyOk {kt : TypeId} {k : Value} (h : keyOk E kt k = true) : ∃ kk, keyKind k = some kk := by
  unfold keyOk at h
  cases hu : E.P.underlying kt with
  | none => simp [hu] at h
  | some d => cases d <;> cases k <;> simp [hu] at h <;> exact ⟨_, rfl⟩

theorem setK_spec {k v : Value} : ∀ {es r : List (Value × Value)}, setK k v es = some r →
    (∃ u a b, es = a ++ (k, u) :: b ∧ r = a ++ (k, v) :: b ∧ (∀ p ∈ a, p.1 ≠ k) ∧ findK k es = some (some u)) ∨ (r = es ++ [(k, v)] ∧ (∀ p ∈ es, p.1 ≠ k) ∧ findK k es = some none)
  | [], r, h => by simp [setK] at h; subst h; right; exact ⟨rfl, by simp, rfl⟩
  | (q, u) :: es, r, h => by
    simp only [setK] at h
    cases hs : sameKey k q with
    | none => simp [hs] at h
    | some b =>
      obtain ⟨h1, kk, h2, h3⟩ := sameKey_spec hs
      cases b with
      | true =>
        simp [hs] at h
        subst h
        have : q = k := h1.1 rfl
        subst this
        left
        exact ⟨u, [], es, rfl, rfl, by simp, by simp [findK, hs]⟩
      | false =>
        simp only [hs] at h
        have hq : q ≠ k := fun e => by have := h1.2 e; cases this
        cases hr : setK k v es with
        | none => simp [hr] at h
        | some r' =>
          simp [hr] at h
          subst h
          rcases setK_spec hr with ⟨u', a, b, rfl, rfl, g1, g2⟩ | ⟨rfl, g1, g2⟩
          · left
            refine ⟨u', (q, u) :: a, b, rfl, rfl, ?_, by simp [findK, hs, g2]⟩
            intro p hp
            rcases List.mem_cons.1 hp with rfl | hp
            · exact hq
            · exact g1 p hp
          · right
            refine ⟨rfl, ?_, by simp [findK, hs, g2]⟩
            intro p hp
            rcases List.mem_cons.1 hp with rfl | hp
            · exact hq
            · exact g1 p hp

theorem MapRel.update {φ : Phi} {a b : List (Value × Value)} {k u v v' : Value} {es' : List MapEntry} {j : Nat} {e : MapEntry} (hm : MapRel φ (a ++ (k, u) :: b) es') (hj : es'[j]? = some e) (hk : e.key = k) (hv : VR φ v v') :
    MapRel φ (a ++ (k, v) :: b) (es'.modify j fun e => { e with key := k, val := v' }) := by
  have hkeys : (a ++ (k, v) :: b).map (·.1) = (a ++ (k, u) :: b).map (·.1) := by simp
  have hkeys' : (es'.modify j fun e => { e with key := k, val := v' }).map (·.key) = es'.map (·.key) := by
    apply List.ext_getElem?
    intro i
    simp only [List.getElem?_map, List.getElem?_modify]
    by_cases hi : j = i
    · subst hi; simp [hj, hk]
    · simp [hi]
  have hnd := hm.nodup'
  refine ⟨fun p hp => ?_, fun q hq => ?_, by simpa using hm.len, ?_, by rw [hkeys]; exact hm.nodup, by rw [hkeys']; exact hnd⟩
  · by_cases hpk : p.1 = k
    · have hpv : p = (k, v) := by
        have hn := hm.nodup
        rw [← hkeys] at hn
        simp only [List.map_append, List.map_cons, List.nodup_append, List.nodup_cons, List.mem_append, List.mem_cons] at hn hp
        rcases hp with hp | rfl | hp
        · exact absurd hpk (hn.2.2 p.1 (List.mem_map.2 ⟨p, hp, rfl⟩) k (by simp))
        · rfl
        · exact absurd (List.mem_map.2 ⟨p, hp, hpk⟩) hn.2.1.1
      subst hpv
      refine ⟨{ e with key := k, val := v' }, ?_, rfl, hv⟩
      refine List.mem_iff_getElem?.2 ⟨j, ?_⟩
      simp [List.getElem?_modify, hj]
    · have hp' : p ∈ a ++ (k, u) :: b := by
        simp only [List.mem_append, List.mem_cons] at hp ⊢
        rcases hp with hp | rfl | hp
        · exact .inl hp
        · exact absurd rfl hpk
        · exact .inr (.inr hp)
      obtain ⟨q, hq, h1, h2⟩ := hm.there p hp'
      refine ⟨q, ?_, h1, h2⟩
      obtain ⟨i, hi⟩ := List.mem_iff_getElem?.1 hq
      refine List.mem_iff_getElem?.2 ⟨i, ?_⟩
      have : j ≠ i := fun e' => by
        subst e'
        rw [hj] at hi
        cases hi
        exact hpk (by rw [← h1, hk])
      simp [List.getElem?_modify, this, hi]
  · have : q.key ∈ es'.map (·.key) := by rw [← hkeys']; exact List.mem_map.2 ⟨q, hq, rfl⟩
    obtain ⟨q', hq', hqk⟩ := List.mem_map.1 this
    obtain ⟨p, hp, hpk⟩ := hm.back q' hq'
    have : p.1 ∈ (a ++ (k, v) :: b).map (·.1) := by rw [hkeys]; exact List.mem_map.2 ⟨p, hp, rfl⟩
    obtain ⟨p', hp', e'⟩ := List.mem_map.1 this
    exact ⟨p', hp', by rw [e', hpk, hqk]⟩
  · obtain ⟨kk, hkk⟩ := hm.kinds
    refine ⟨kk, fun p hp => ?_⟩
    have : p.1 ∈ (a ++ (k, u) :: b).map (·.1) := by rw [← hkeys]; exact List.mem_map.2 ⟨p, hp, rfl⟩
    obtain ⟨p', hp', e'⟩ := List.mem_map.1 this
    rw [← e']
    exact hkk p' hp'

theorem MapRel.add {φ : Phi} {es : List (Value × Value)} {k v v' : Value} {es' : List MapEntry} (hm : MapRel φ es es') (hne : ∀ p ∈ es, p.1 ≠ k) (hv : VR φ v v') {kk : KK} (hk : keyKind k = some kk) (hks : ∀ p ∈ es, keyKind p.1 = some kk) (c : Nat) :
    MapRel φ (es ++ [(k, v)]) (es' ++ [{ key := k, val := v', born := c }]) := by
  refine ⟨fun p hp => ?_, fun q hq => ?_, by simp [hm.len], ⟨kk, fun p hp => ?_⟩, ?_, ?_⟩
  · rcases List.mem_append.1 hp with hp | hp
    · obtain ⟨e, he, h⟩ := hm.there p hp
      exact ⟨e, List.mem_append_left _ he, h⟩
    · simp at hp; subst hp
      exact ⟨{ key := k, val := v', born := c }, by simp, rfl, hv⟩
  · rcases List.mem_append.1 hq with hq | hq
    · obtain ⟨p, hp, h⟩ := hm.back q hq
      exact ⟨p, List.mem_append_left _ hp, h⟩
    · simp at hq; subst hq
      exact ⟨(k, v), by simp, rfl⟩
  · rcases List.mem_append.1 hp with hp | hp
    · exact hks p hp
    · simp at hp; subst hp; exact hk
  · rw [List.map_append, List.nodup_append]
    refine ⟨hm.nodup, by simp, fun x hx y hy e => ?_⟩
    simp at hy
    subst hy; subst e
    obtain ⟨p, hp, rfl⟩ := List.mem_map.1 hx
    exact hne p hp rfl
  · rw [List.map_append, List.nodup_append]
    refine ⟨hm.nodup', by simp, fun x hx y hy e => ?_⟩
    simp at hy
    subst hy; subst e
    obtain ⟨q, hq, e⟩ := List.mem_map.1 hx
    obtain ⟨p, hp, h⟩ := hm.back q hq
    exact hne p hp (by rw [h, e])

theorem mapUpdate_sound {φ : Phi} {t : TypeId} {m m' k k' v v' : Value} {H : Heap} {r : OpRes} {g : Nat} {w : World} (h : mapUpdateOp E H t m k v = some r) (hR : Rel g φ H w) (hm : VR φ m m') (hk : VR φ k k') (hv : VR φ v v') :
    ∃ w', (Instr.mapUpdate t m' k' v').run E.P w = .ok () w' ∧ r.v = undef ∧ Out g H.n φ w r.v r.H r.wr undef w' := by
  unfold mapUpdateOp at h
  cases hu : E.P.underlying t with
  | none => simp [hu] at h
  | some d =>
    cases d with
    | map kt et =>
      cases m with
      | map mi =>
        cases mi with
        | none => simp [hu] at h
        | some i =>
          simp only [hu] at h
          cases hko : keyOk E kt k with
          | false => simp [hko] at h
          | true =>
            cases hg : H.get i with
            | map es =>
              simp only [hko, hg] at h
              cases hs : setK k v es with
              | none => simp [hs] at h
              | some es2 =>
                simp [hs] at h
                subst h
                cases keyOk_atom hko hk
                obtain ⟨L, hL, rfl⟩ := hm.map_inv
                have hobj := hR.obj i L hL
                rw [hg] at hobj
                obtain ⟨es', clk, hb, hmr, hst⟩ := hobj
                have hgo : (getObj L.b).run E.P w = .ok (.map es' clk) w := by simp [getObj, Sem.run, hb]
                have hset : ∀ o : Obj, (setObj L.b o).run E.P w = .ok () { w with heap := w.heap.setIfInBounds L.b o } := fun o => by simp [setObj, Sem.run, hb]
                obtain ⟨kk, hkk⟩ := keyKind_of_keyOk hko
                have hlt := hR.blk i L hL
                have hoth : ∀ (o : Obj) b, b ≠ L.b → ({ w with heap := w.heap.setIfInBounds L.b o } : World).heap[b]? = w.heap[b]? := fun o b hne => by
                  simp only
                  rw [Array.getElem?_setIfInBounds_ne (fun e => hne e.symm)]
                have fin : ∀ (es3 : Array MapEntry) (clk' : Nat), MapRel φ es2 es3.toList → Stamps clk' es3.toList → Out g H.n φ w undef (H.set i (.map es2)) [i] undef { w with heap := w.heap.setIfInBounds L.b (.map es3 clk') } := by
                  intro es3 clk' hmr' hst'
                  refine ⟨φ, .refl φ, .undef, hR.change hL (by rw [hg]; simp) (by simp) (hoth _) ⟨es3, clk', by simp [hlt], hmr', hst'⟩, ?_, .refl, Nat.le_refl _⟩
                  exact ⟨by simp, rfl, rfl, rfl, fun b hb' hw => hoth _ b (fun e => hw i L (by simp) hL e.symm)⟩
                rcases setK_spec hs with ⟨u, a, b, rfl, rfl, g1, g2⟩ | ⟨rfl, g1, g2⟩
                · rcases findKey_run hko hmr g2 w with ⟨h0, _⟩ | ⟨v0, j, e, _, _, hj, hek, _, hrun⟩
                  · cases h0
                  · have hj' : es'[j]? = some e := by simpa using hj
                    refine ⟨_, ?_, rfl, fin (es'.modify j fun e => { e with key := k, val := v' }) clk ?_ ?_⟩
                    · have hstay : (Instr.keyThatStays (((es'[j]?).map (·.key)).getD k) k).run E.P w = .ok k w := by
                        rw [hj']
                        simp only [Option.map_some, Option.getD_some, hek]
                        exact keyThatStays_same hkk w
                      simp only [Instr.mapUpdate, Sem.run_bind, run_underlying hu, Result.andThen_ok, hgo, checkKey_ok hko, hrun, hstay, hset]
                    · have : (es'.modify j fun e => { e with key := k, val := v' }).toList = es'.toList.modify j fun e => { e with key := k, val := v' } := by
                        simp
                      rw [this]
                      exact hmr.update hj hek hv
                    · have : (es'.modify j fun e => { e with key := k, val := v' }).toList = es'.toList.modify j fun e => { e with key := k, val := v' } := by
                        simp
                      rw [this]
                      exact hst.update j k v'
                · rcases findKey_run hko hmr g2 w with ⟨_, _, hrun⟩ | ⟨v0, j, e, h0, _⟩
                  · refine ⟨_, ?_, rfl, fin (es'.push { key := k, val := v', born := clk }) (clk + 1) ?_ (by rw [Array.toList_push]; exact hst.add k v')⟩
                    · simp only [Instr.mapUpdate, Sem.run_bind, run_underlying hu, Result.andThen_ok, hgo, checkKey_ok hko, hrun, hset]
                    · rw [Array.toList_push]
                      refine hmr.add g1 hv hkk ?_ clk
                      obtain ⟨g1', g2', g3'⟩ := findK_spec g2
                      obtain ⟨kk', hkk'⟩ := hmr.kinds
                      intro p hp
                      cases hes : es with
                      | nil => rw [hes] at hp; simp at hp
                      | cons p0 r0 =>
                        obtain ⟨k0, a1, a2⟩ := g3' p0 (by rw [hes]; rfl)
                        rw [hkk' p hp, ← hkk' p0 (by rw [hes]; simp), a2, ← a1, hkk]
                  · cases h0
            | cells cs e b => simp [hko, hg] at h
            | iter s p => simp [hko, hg] at h
            | dead => simp [hko, hg] at h
      | _ => simp [hu] at h
    | _ => simp [hu] at h

theorem makeMap_makes {φ : Phi} {t : TypeId} {n : Nat} {w : World} : Makes E.P φ n (.map []) (.map (some n)) (Instr.makeMap t none) w := by
  refine ⟨.map (some w.heap.size), { w with heap := w.heap.push (.map #[] 0) }, ⟨w.heap.size, 0, 0⟩, .map #[] 0, by simp [Instr.makeMap], rfl, rfl, rfl, rfl, rfl, fun hn => ?_, fun φ' hφ _ => .map (L := ⟨w.heap.size, 0, 0⟩) hφ⟩
  exact ⟨#[], 0, by simp, ⟨by simp, by simp, rfl, ⟨.bool, by simp⟩, by simp, by simp⟩, .nil⟩

theorem range_makes {φ : Phi} {t : TypeId} {x x' : Value} {H : Heap} {r : OpRes} (h : rangeOp E H t x = some r) (hx : VR φ x x') : ∃ o, r = ⟨r.v, H.push o, [], false, []⟩ ∧ ∀ w, Makes E.P φ H.n o r.v (Instr.range t x') w := by
  unfold rangeOp at h
  cases hu : E.P.underlying t with
  | none => simp [hu] at h
  | some d =>
    cases d <;> cases x <;> simp [hu] at h
    rename_i s
    cases hx.string_inv
    rw [done_spec h]
    refine ⟨_, rfl, fun w => ⟨.pointer (some ⟨w.heap.size, 0, none⟩), { w with heap := w.heap.push (.stringIter s 0) }, ⟨w.heap.size, 0, 0⟩, .stringIter s 0, by simp [Instr.range, run_underlying hu], rfl, rfl, rfl, rfl, rfl, fun hn => ?_, fun φ' hφ _ => .ptr (L := ⟨w.heap.size, 0, 0⟩) hφ⟩⟩
    simp [ObjRel]

end Go.AM

namespace Go.AM
variable {E : Env}

theorem next_sound {φ : Phi} {it it' : Value} {b : Bool} {ty : TypeId} {H : Heap} {r : OpRes} {g : Nat} {w : World} (h : nextOp H it b = some r) (hR : Rel g φ H w) (hi : VR φ it it') :
    ∃ v' w', (Instr.next it' b ty).run E.P w = .ok v' w' ∧ Out g H.n φ w r.v r.H r.wr v' w' := by
  unfold nextOp at h
  split at h
  · rename_i i
    obtain ⟨L, hL, rfl⟩ := hi.ptr_inv
    cases hg : H.get i with
    | iter s pos =>
      simp only [hg] at h
      have hobj := hR.obj i L hL
      rw [hg] at hobj
      obtain ⟨hb, h0⟩ := hobj
      have hgo : (getObj L.b).run E.P w = .ok (.stringIter s pos) w := by simp [getObj, Sem.run, hb]
      have hset : ∀ o : Obj, (setObj L.b o).run E.P w = .ok () { w with heap := w.heap.setIfInBounds L.b o } := fun o => by simp [setObj, Sem.run, hb]
      have hlt := hR.blk i L hL
      have hsz : s.data.toList.length = s.size := by rw [Array.length_toList]; rfl
      cases hp : Nat.blt pos s.data.toList.length with
      | true =>
        simp only [hp, Option.some.injEq] at h
        subst h
        have hpos := blt_spec hp
        rw [hsz] at hpos
        refine ⟨.tuple #[.bool true, goInt pos, .int .i32 (Utf8.decode s pos).1], { w with heap := w.heap.setIfInBounds L.b (.stringIter s (pos + (Utf8.decode s pos).2)) }, ?_, φ, .refl φ, ?_, ?_, ?_, .refl, Nat.le_refl _⟩
        · simp [Instr.next, h0, hgo, hpos, hset]
        · exact .mkTuple (.cons (.atom rfl) (.cons (.atom rfl) (.cons (.atom rfl) .nil)))
        · refine hR.change hL (by rw [hg]; simp) (by simp) (fun b hne => ?_) ⟨by simp [hlt], h0⟩
          simp only
          rw [Array.getElem?_setIfInBounds_ne (fun e => hne e.symm)]
        · refine ⟨by simp, rfl, rfl, rfl, fun b hb' hw => ?_⟩
          simp only
          rw [Array.getElem?_setIfInBounds_ne (hw i L (by simp) hL)]
      | false =>
        simp only [hp, Option.some.injEq] at h
        subst h
        have hpos : ¬ pos < s.size := fun q => by rw [← hsz, ← Nat.blt_eq] at q; rw [q] at hp; cases hp
        exact ⟨.tuple #[.bool false], w, by simp [Instr.next, h0, hgo, hpos], .same hR (.mkTuple (.cons (.atom rfl) .nil)) rfl rfl rfl rfl⟩
    | cells cs e b => simp [hg] at h
    | map es => simp [hg] at h
    | dead => simp [hg] at h
  · cases h

theorem len_look {φ : Phi} {ts : Array TypeId} {ty : TypeId} {x x' : Value} {rest : List Value} {H : Heap} {r : OpRes} (h : lenOp E H ts.toList x = some r) (hx : VR φ x x') : LookOp E.P φ H r (Builtin.len_ ts ty ⟨x' :: rest⟩) := by
  unfold lenOp at h
  cases hts : ts.toList with
  | nil => simp [hts] at h
  | cons t tr =>
    have ht0 : ts[0]? = some t := by rw [← Array.getElem?_toList, hts]; rfl
    simp only [hts] at h
    have pure_ : ∀ n : Nat, done (.int .i64 (.ofNat n)) H = some r → (∀ w, (Builtin.len_ ts ty ⟨x' :: rest⟩).run E.P w = .ok (goInt n) w) → LookOp E.P φ H r (Builtin.len_ ts ty ⟨x' :: rest⟩) := by
      intro n hd hrun
      rw [done_spec hd]
      exact LookOp.ofPure (.mk' hrun (.atom rfl))
    split at h
    · rename_i s hu
      cases hx.string_inv
      have hsz : s.data.toList.length = s.size := by rw [Array.length_toList]; rfl
      rw [hsz] at h
      exact pure_ s.size h fun w => by simp [Builtin.len_, ht0, run_underlying hu]
    · rename_i n e hu
      exact pure_ _ h fun w => by simp [Builtin.len_, ht0, run_underlying hu]
    · rename_i e a n c hu
      have : ∃ a' c', x' = .slice a' n c' := by
        cases a with
        | none => cases hx.nilSlice_inv; exact ⟨_, _, rfl⟩
        | some a =>
          obtain ⟨i, o, sp⟩ := a
          cases sp with
          | none => obtain ⟨L, _, rfl⟩ := hx.slice_inv; exact ⟨_, _, rfl⟩
          | some s => obtain ⟨L, a, c', _, rfl, _⟩ := hx.opn_inv; exact ⟨_, _, rfl⟩
      obtain ⟨a', c', rfl⟩ := this
      exact pure_ _ h fun w => by simp [Builtin.len_, ht0, run_underlying hu]
    · rename_i k e hu
      cases hx.nilMap_inv
      exact pure_ 0 h fun w => by simp [Builtin.len_, ht0, run_underlying hu]
    · rename_i k e i hu
      obtain ⟨L, hL, rfl⟩ := hx.map_inv
      cases hg : H.get i with
      | map es =>
        simp only [hg, Option.some.injEq] at h
        subst h
        refine ⟨rfl, rfl, rfl, fun g K w hR hk => ?_⟩
        have hobj := hR.obj i L hL
        rw [hk i L (by simp) hL, hg] at hobj
        obtain ⟨es', clk, hb, hm, _⟩ := hobj
        have hgo : (getObj L.b).run E.P w = .ok (.map es' clk) w := by simp [getObj, Sem.run, hb]
        refine ⟨goInt es'.size, by simp [Builtin.len_, ht0, run_underlying hu, hgo], ?_⟩
        have : es.length = es'.size := by rw [hm.len]; simp
        rw [this]
        exact .atom rfl
      | cells cs e b => simp [hg] at h
      | iter s p => simp [hg] at h
      | dead => simp [hg] at h
    · cases h

theorem cap_pure {φ : Phi} {ts : Array TypeId} {ty : TypeId} {x x' : Value} {rest : List Value} {H : Heap} {r : OpRes} (h : capOp E H ts.toList x = some r) (hx : VR φ x x') : PureOp E.P φ H r (Builtin.cap_ ts ty ⟨x' :: rest⟩) := by
  unfold capOp at h
  cases hts : ts.toList with
  | nil => simp [hts] at h
  | cons t tr =>
    have ht0 : ts[0]? = some t := by rw [← Array.getElem?_toList, hts]; rfl
    simp only [hts] at h
    split at h
    · rename_i e m n hu
      cases hx.nilSlice_inv
      rw [done_spec h]
      exact .mk' (v' := goInt n) (fun w => by simp [Builtin.cap_, ht0, run_underlying hu]) (.atom rfl)
    · rename_i e i o m n hu
      obtain ⟨L, _, rfl⟩ := hx.slice_inv
      rw [done_spec h]
      exact .mk' (v' := goInt n) (fun w => by simp [Builtin.cap_, ht0, run_underlying hu]) (.atom rfl)
    · cases h

theorem pickInt_sound {φ : Phi} {mx : Bool} : ∀ {l l' : List Value} {x x' v : Value}, pickInt mx x l = some v → VR φ x x' → VRs φ l l' →
    ∃ v', VR φ v v' ∧ ∀ (P : Program) (w : World), (l'.foldlM (if mx then Builtin.max2 else Builtin.min2) x').run P w = .ok v' w
  | [], l', x, x', v, h, hx, hl => by
    simp [pickInt] at h
    subst h
    rw [hl.nil_left]
    exact ⟨x', hx, fun P w => by simp⟩
  | y :: l, l', x, x', v, h, hx, hl => by
    obtain ⟨y', l'', rfl, hy, hl'⟩ := hl.cons_left
    unfold pickInt at h
    split at h
    · rename_i e; cases e
    · rename_i v' k a k' b r e
      cases e
      cases hx.int_inv
      cases hy.int_inv
      obtain ⟨u, h1, h2⟩ := pickInt_sound h (.atom rfl) hl'
      refine ⟨u, h1, fun P w => ?_⟩
      have := h2 P w
      cases mx
      · simp only [Bool.false_eq_true, if_false] at this ⊢
        simp only [List.foldlM_cons, Sem.run_bind]
        have e : (Builtin.min2 (.int k a) (.int k' b)).run P w = .ok (.int k (match decide (b < a) with | true => b | false => a)) w := by
          by_cases hba : b < a <;> simp [Builtin.min2, hba]
        rw [e]
        exact this
      · simp only [if_true] at this ⊢
        simp only [List.foldlM_cons, Sem.run_bind]
        have e : (Builtin.max2 (.int k a) (.int k' b)).run P w = .ok (.int k (match decide (a < b) with | true => b | false => a)) w := by
          by_cases hba : a < b <;> simp [Builtin.max2, hba]
        rw [e]
        exact this
    · cases h

theorem max_pure {φ : Phi} {ts : Array TypeId} {ty : TypeId} {x x' : Value} {rest rest' : List Value} {H : Heap} {r : OpRes} (h : (match pickInt true x rest with | some v => done v H | none => none) = some r) (hx : VR φ x x') (hr : VRs φ rest rest') :
    PureOp E.P φ H r (Builtin.max_ ts ty ⟨x' :: rest'⟩) := by
  cases hp : pickInt true x rest with
  | none => simp [hp] at h
  | some v =>
    simp only [hp] at h
    rw [done_spec h]
    obtain ⟨v', h1, h2⟩ := pickInt_sound hp hx hr
    exact .mk' (fun w => by simpa [Builtin.max_] using h2 E.P w) h1

theorem min_pure {φ : Phi} {ts : Array TypeId} {ty : TypeId} {x x' : Value} {rest rest' : List Value} {H : Heap} {r : OpRes} (h : (match pickInt false x rest with | some v => done v H | none => none) = some r) (hx : VR φ x x') (hr : VRs φ rest rest') :
    PureOp E.P φ H r (Builtin.min_ ts ty ⟨x' :: rest'⟩) := by
  cases hp : pickInt false x rest with
  | none => simp [hp] at h
  | some v =>
    simp only [hp] at h
    rw [done_spec h]
    obtain ⟨v', h1, h2⟩ := pickInt_sound hp hx hr
    exact .mk' (fun w => by simpa [Builtin.min_] using h2 E.P w) h1

/-! Copy. -/

theorem lenOf_run {φ : Phi} {x x' : Value} {n : Nat} (h : lenV x = some n) (hx : VR φ x x') (P : Program) (w : World) : (Builtin.lenOf x').run P w = .ok n w := by
  cases x <;> simp [lenV] at h
  · rename_i s
    cases hx.string_inv
    subst h
    rfl
  · rename_i a m c
    subst h
    cases a with
    | none => cases hx.nilSlice_inv; rfl
    | some a =>
      obtain ⟨i, o, sp⟩ := a
      cases sp with
      | none => obtain ⟨L, _, rfl⟩ := hx.slice_inv; rfl
      | some s => obtain ⟨L, a, c', _, rfl, _⟩ := hx.opn_inv; rfl

theorem copy_sound {φ : Phi} {ts : Array TypeId} {ty : TypeId} {d d' s s' : Value} {rest : List Value} {H : Heap} {r : OpRes} {g : Nat} {w : World} (h : copyOp E H ts.toList d s = some r) (hR : Rel g φ H w) (hd : VR φ d d') (hs : VR φ s s') :
    ∃ v' w', (Builtin.copy_ ts ty ⟨d' :: s' :: rest⟩).run E.P w = .ok v' w' ∧ Out g H.n φ w r.v r.H r.wr v' w' := by
  unfold copyOp at h
  cases hts : ts.toList with
  | nil => simp [hts] at h
  | cons t tr =>
    have ht0 : ts[0]? = some t := by rw [← Array.getElem?_toList, hts]; rfl
    simp only [hts] at h
    cases he : sliceElem E t with
    | none => simp [he] at h
    | some e =>
      simp only [he] at h
      have hu := sliceElem_spec he
      cases hsz : sizeT E e with
      | none => simp [hsz] at h
      | some sz =>
        cases sz with
        | zero => simp [hsz] at h
        | succ size =>
          cases d with
          | slice base dLen dCap =>
            cases hl : lenV s with
            | none => simp [hsz, hl] at h
            | some m =>
              simp only [hsz, hl] at h
              cases hrd : readRow H (size + 1) (min m dLen) s with
              | none => simp [hrd] at h
              | some p =>
                obtain ⟨new, rdx⟩ := p
                obtain ⟨new', hf', hv, hc⟩ := readRow_sound (E := E) hrd hs hR (fun _ _ => rfl)
                have hf := hf' w rfl
                have hlen := fun w => lenOf_run hl hs E.P w
                cases base with
                | none =>
                  simp only [hrd] at h
                  cases hb : Nat.beq dLen 0 with
                  | false => simp [hb] at h
                  | true =>
                    simp only [hb] at h
                    have h0 := beq_spec hb
                    subst h0
                    rw [done_spec h]
                    cases hd.nilSlice_inv
                    refine ⟨goInt 0, w, ?_, .same hR (.atom rfl) rfl rfl rfl rfl⟩
                    have hmin : Nat.min m 0 = 0 := Nat.min_zero m
                    have hmin' : min m 0 = 0 := Nat.min_zero m
                    rw [hmin'] at hf
                    simp [Builtin.copy_, ht0, run_underlying hu, hlen, run_sizeT hsz, hmin, hf]
                | some a =>
                  obtain ⟨i, o, sp⟩ := a
                  simp only [hrd] at h
                  cases hg : H.get i with
                  | cells cs ce b =>
                    simp only [hg] at h
                    cases hp : putAt o new cs with
                    | none => simp [hp] at h
                    | some z =>
                      simp only [hp, Option.some.injEq] at h
                      subst h
                      have main : ∀ L, φ i = some L → ∀ c', d' = .slice (some ⟨L.b, L.base + o, none⟩) dLen c' → ∃ v' w', (Builtin.copy_ ts ty ⟨d' :: s' :: rest⟩).run E.P w = .ok v' w' ∧ Out g H.n φ w (.int .i64 (.ofNat (min m dLen))) (H.set i (.cells z ce b)) [i] v' w' := by
                        intro L hL c' hd'
                        subst hd'
                        obtain ⟨h1, h2, h3, h4, h5⟩ := hR.put hL hg hp hv
                        have hrun := run_storeCells_cells (P := E.P) L.b (L.base + o) new'.toList 0 w (by simpa using h2) (by simpa using h3) h1
                        refine ⟨goInt (min m dLen : Nat), _, ?_, φ, .refl φ, .atom rfl, h4, h5, .refl, Nat.le_refl _⟩
                        have hmin : Nat.min m dLen = min m dLen := rfl
                        simp [Builtin.copy_, ht0, run_underlying hu, hlen, run_sizeT hsz, hmin, hf, hrun]
                      cases sp with
                      | none => obtain ⟨L, hL, hd'⟩ := hd.slice_inv; exact main L hL _ hd'
                      | some q =>
                        obtain ⟨L, a, c', hL, hd', g1, g2, g3⟩ := hd.opn_inv
                        rcases g3 with g3 | ⟨rfl, g3⟩
                        · subst g3
                          have h0 : dLen = 0 := by omega
                          subst h0
                          have hmin : Nat.min m 0 = 0 := Nat.min_zero m
                          have hmin' : min m 0 = 0 := Nat.min_zero m
                          rw [hmin'] at hf
                          have hn0 : new = [] := by
                            have : (min m 0) = 0 := hmin'
                            rw [this] at hrd
                            have hl := readRow_len hrd
                            rw [Nat.zero_mul] at hl
                            exact List.length_eq_zero_iff.1 hl
                          subst hn0
                          have hn' : new' = #[] := by
                            have := hv.nil_left
                            exact Array.toList_eq_nil_iff.1 this
                          subst hn'
                          obtain ⟨h1, h2, h3, h4, h5⟩ := hR.put hL hg hp (vs' := []) .nil
                          subst hd'
                          refine ⟨goInt (0 : Nat), w, ?_, φ, .refl φ, by rw [hmin']; exact .atom rfl, h4, h5, .refl, Nat.le_refl _⟩
                          simp [Builtin.copy_, ht0, run_underlying hu, hlen, run_sizeT hsz, hmin, hf, storeCells]
                        · exact main L hL _ hd'
                  | map es => simp [hg] at h
                  | iter s p => simp [hg] at h
                  | dead => simp [hg] at h
          | _ => simp [hsz] at h

end Go.AM

namespace Go.AM
variable {E : Env}

/-- What follows behind the two lengths of an append. -/
def appendTail (elem : TypeId) (size : Nat) (base : Option Addr) (sLen sCap : Nat) (s : Value) (zeros : Bool) (n : Nat) (appended : Sem (Array Value)) (growfail : Sem Unit) : Sem Value := do
  let need := sLen + n
  if need ≤ sCap then
    let new ← appended
    if let some a := base then storeCells (a.add (sLen * size)) new.toList
    pure (.slice base need sCap)
  else
    if (need : Int) > IntKind.i64.max ∧ (zeros ∨ (← typeInfo elem).bytes = 0) then runtimePanic (.error "growslice: len out of range")
    if Builtin.nextslicecap need sCap * (← typeInfo elem).bytes > 2 ^ 48 then growfail
    let newCap ← choose (.appendCap need sCap elem)
    askRoom (newCap * (← typeInfo elem).bytes)
    let old ← Builtin.firstCells size sLen s
    let new ← appended
    let rest := Builtin.zeroCells (← zeroValue elem).cells (newCap - need)
    pure (.slice (some (← newRow elem (old ++ new ++ rest))) need newCap)

theorem growBy_le : ∀ (r c need : Nat), c ≤ need + (need + 768) / 4 → Builtin.growBy need r c ≤ need + (need + 768) / 4
  | 0, c, need, h => h
  | r + 1, c, need, h => by
    unfold Builtin.growBy
    split
    · exact h
    · exact growBy_le r _ need (by omega)

theorem nextslicecap_le {need cap : Nat} (h : cap < need) : Builtin.nextslicecap need cap ≤ 2 * need + 768 := by
  unfold Builtin.nextslicecap
  split
  · omega
  · split
    · omega
    · have := growBy_le 4 cap need (by omega)
      omega

theorem zeroCells_size (z : Array Value) (n : Nat) : (Builtin.zeroCells z n).size = n * z.size := by simp [Builtin.zeroCells]

/-- An append that grows: a new row. -/
theorem grow_run {elem : TypeId} {size : Nat} {base : Option Addr} {sLen sCap : Nat} {s : Value} {zeros : Bool} {n : Nat} {appended : Sem (Array Value)} {gf : Sem Unit} {w : World} {z : Value} {old new : Array Value}
    (hn : sCap < sLen + n) (hs : sizeT E elem = some size) (hz : zeroT E elem = some z) (hb : (2 * (sLen + n) + 768) * bytesT E elem ≤ 281474976710656) (hb2 : sLen + n ≤ 1099511627776)
    (ho : ∀ w' : World, w'.heap = w.heap → (Builtin.firstCells size sLen s).run E.P w' = .ok old w') (ha : ∀ w' : World, w'.heap = w.heap → appended.run E.P w' = .ok new w') :
    ∃ c, sLen + n ≤ c ∧ (appendTail elem size base sLen sCap s zeros n appended gf).run E.P w =
      .ok (.slice (some ⟨w.heap.size, 0, none⟩) (sLen + n) c) { w with heap := w.heap.push (.cells (old ++ new ++ Builtin.zeroCells z.cells (c - (sLen + n))) elem), drawn := w.drawn + 1 } := by
  obtain ⟨i, hi, hiz, _⟩ := zeroT_spec hz
  have hbytes : bytesT E elem = i.bytes := by simp [bytesT, hi]
  rw [hbytes] at hb
  let q : Question := .appendCap (sLen + n) sCap elem
  have hq : q.forced = false := rfl
  refine ⟨q.cut (w.tape w.drawn q), by show _ ≤ sLen + n + _; omega, ?_⟩
  have h1 : ¬ (sLen + n ≤ sCap) := by omega
  have hmax : IntKind.i64.max = 9223372036854775807 := by decide
  have h2 : ¬ ((((sLen + n : Nat) : Int)) > IntKind.i64.max) := by rw [hmax]; omega
  have h3 : ¬ (Builtin.nextslicecap (sLen + n) sCap * i.bytes > 2 ^ 48) := by
    have := Nat.mul_le_mul_right i.bytes (nextslicecap_le (need := sLen + n) (cap := sCap) (by omega))
    omega
  have e1 := ho { w with drawn := w.drawn + 1 } rfl
  have e2 := ha { w with drawn := w.drawn + 1 } rfl
  simp only [appendTail, h1, if_false, h2, false_and, Sem.run_bind, run_info hi, Result.andThen_ok, Sem.run_ite, Sem.run_pure, h3, run_choose, show (Question.appendCap (sLen + n) sCap elem).forced = false from rfl, Bool.false_eq_true, run_askRoom, e1, e2, run_zeroT hz, newRow, run_newObj]
  rfl

theorem append_runF {ts : Array TypeId} {ty st xt e : TypeId} {size n : Nat} {xd : TypeDesc} {base : Option Addr} {sLen sCap : Nat} {x' : Value} {rest : List Value} (h0 : ts[0]? = some st) (h1 : ts[1]? = some xt)
    (hu : E.P.underlying st = some (.slice e)) (hx : E.P.underlying xt = some xd) (hxd : ∀ k, xd ≠ .int k) (hs : sizeT E e = some size) (hl : ∀ w : World, (Builtin.lenOf x').run E.P w = .ok n w) :
    ∃ gf, ∀ w : World, (Builtin.append_ ts ty ⟨.slice base sLen sCap :: x' :: rest⟩).run E.P w = (appendTail e size base sLen sCap (.slice base sLen sCap) false n (Builtin.firstCells size n x') gf).run E.P w := by
  refine ⟨do
      if !(← Builtin.mayShare size sLen n base x') then mark .noRoom
      unsupported (.resourceLimit "append: a slice or a string whose bytes no memory bears"), fun w => ?_⟩
  cases xd <;> first
    | exact absurd rfl (hxd _)
    | (simp only [Builtin.append_, h0, h1, List.getElem?_toArray, List.getElem?_cons_zero, List.getElem?_cons_succ, Sem.run_bind, run_underlying hu, run_underlying hx, Result.andThen_ok, run_sizeT hs, Sem.run_pure, Bool.false_eq_true, if_false, hl, appendTail, Bool.not_false, if_true]
       rfl)

theorem append_runZ {ts : Array TypeId} {ty st xt e : TypeId} {size n : Nat} {k0 k1 : IntKind} {base : Option Addr} {sLen sCap : Nat} {rest : List Value} (h0 : ts[0]? = some st) (h1 : ts[1]? = some xt)
    (hu : E.P.underlying st = some (.slice e)) (hx : E.P.underlying xt = some (.int k0)) (hs : sizeT E e = some size) (hn : n ≤ 1073741824) (hb : n * bytesT E e ≤ 281474976710656) {z : Value} (hz : zeroT E e = some z) :
    ∃ gf, ∀ w : World, (Builtin.append_ ts ty ⟨.slice base sLen sCap :: .int k1 (Int.ofNat n) :: rest⟩).run E.P w =
      (appendTail e size base sLen sCap (.slice base sLen sCap) true n (if n * size = 0 then pure #[] else do pure (Builtin.zeroCells (← zeroValue e).cells n)) gf).run E.P w := by
  obtain ⟨i, hi, hiz, _⟩ := zeroT_spec hz
  have hbytes : bytesT E e = i.bytes := by simp [bytesT, hi]
  rw [hbytes] at hb
  refine ⟨runtimePanic (.error "growslice: len out of range"), fun w => ?_⟩
  have w1 : IntKind.i64.wrap (Int.ofNat n) = (n : Int) := wrap_i64 (n := n) (by omega)
  have c1 : ¬ ((n : Int) < 0) := by omega
  have c2 : ¬ ((n : Int) * (i.bytes : Int) > 2 ^ 48) := by
    have : ((n : Int) * (i.bytes : Int)) = ((n * i.bytes : Nat) : Int) := by simp
    rw [this]; omega
  simp only [Builtin.append_, h0, h1, List.getElem?_toArray, List.getElem?_cons_zero, List.getElem?_cons_succ, Sem.run_bind, run_underlying hu, run_underlying hx, Result.andThen_ok, run_sizeT hs, Sem.run_pure, if_true, asInt, asIntOf, w1, c1, if_false, run_info hi, c2, Int.toNat_natCast, appendTail, Bool.not_true, Bool.false_eq_true]
  rfl


theorem grown_spec {H : Heap} {e : TypeId} {size : Nat} {cells : List Value} {need : Nat} {rd : List Nat} {r : OpRes} (h : grown H e size cells need rd = some r) :
    cells.all cellOk = true ∧ r = ⟨.slice (some ⟨H.n, 0, some size⟩) need need, H.push (.cells cells e true), rd, false, []⟩ := by
  unfold grown at h
  cases hc : cells.all cellOk with
  | false => simp [hc] at h
  | true => simp [hc] at h; exact ⟨rfl, h.symm⟩

theorem grow_out {g : Nat} {φ : Phi} {H : Heap} {w : World} (hR : Rel g φ H w) {cells : List Value} {cs' zs : Array Value} {e el : TypeId} {size need c : Nat} (hv : VRs φ cells cs'.toList) (hc : cells.all cellOk = true)
    (hl : cells.length = need * size) (hz : zs.size = (c - need) * size) (hn : need ≤ c) :
    Out g H.n φ w (.slice (some ⟨H.n, 0, some size⟩) need need) (H.push (.cells cells e true)) [] (.slice (some ⟨w.heap.size, 0, none⟩) need c) { w with heap := w.heap.push (.cells (cs' ++ zs) el), drawn := w.drawn + 1 } := by
  have hi : φ H.n = none := hR.fresh_id (Nat.le_refl _)
  have hcs : cs'.size = need * size := by have := hv.1; simp at this; rw [← this, hl]
  have hfin : (cs' ++ zs).size = c * size := by
    rw [Array.size_append, hcs, hz, ← Nat.add_mul]
    congr 1
    omega
  let L : Loc := ⟨w.heap.size, 0, (cs' ++ zs).size⟩
  have hobj : ObjRel (φ.put H.n L) { w with heap := w.heap.push (.cells (cs' ++ zs) el) } ((H.push (.cells cells e true)).get H.n) L := by
    rw [Heap.get_push_self]
    refine objRel_new rfl rfl ?_ (by rw [hfin, hl]; exact Nat.mul_le_mul_right _ hn) hc (fun _ => Nat.le_refl _) _ (fun k _ => clearOf_zero k)
    have : (cs' ++ zs).toList.take cells.length = cs'.toList := by
      rw [Array.toList_append, List.take_append_of_le_length (by simp [hcs, hl]), List.take_of_length_le (by simp [hcs, hl])]
    rw [this]
    exact Pw.mono hv fun _ _ h => VR.mono (.put hi) h
  have hr := (hR.push (.cells cells e true)).realize (by simp) hi _ L rfl hobj
  refine ⟨φ.put H.n L, .put hi, .opn Phi.put_self hn rfl (.inr ⟨rfl, ?_⟩), hr.heap rfl, ?_, .put (Nat.le_refl _) (Nat.le_refl _), Nat.le_succ _⟩
  · show 0 + 0 + c * size = (cs' ++ zs).size
    rw [hfin]; omega
  · have f := Frame.push (φ := φ) (wr := []) (w := w) (.cells (cs' ++ zs) el)
    exact ⟨f.size, rfl, rfl, rfl, f.heap⟩

theorem appendTo_sound {φ : Phi} {e : TypeId} {size : Nat} {s s' : Value} {H : Heap} {new : List Value} {new' : Array Value} {n : Nat} {rdx : List Nat} {r : OpRes} {g : Nat} {w : World} {z : Value} {ap : Sem (Array Value)}
    (h : appendTo E H e size s new n rdx = some r) (hR : Rel g φ H w) (hs : VR φ s s') (hsz : sizeT E e = some size) (hz : zeroT E e = some z) (hzl : (cellsL z).length = size)
    (hv : VRs φ new new'.toList) (hc : new.all cellOk = true) (hl : new.length = n * size) (h1 : 1 ≤ size) (ha : ∀ w' : World, w'.heap = w.heap → ap.run E.P w' = .ok new' w') :
    ∃ base sLen sCap, s' = .slice base sLen sCap ∧ ∀ (zeros : Bool) (gf : Sem Unit), ∃ v' w', (appendTail e size base sLen sCap s' zeros n ap gf).run E.P w = .ok v' w' ∧ Out g H.n φ w r.v r.H r.wr v' w' := by
  have hzs : z.cells.size = size := by rw [← Array.length_toList, cells_toList, hzl]
  have hn' : new'.size = n * size := by have := hv.1; simp at this; rw [← this, hl]
  unfold appendTo at h
  split at h
  · rename_i len cap
    cases hb : (Nat.beq len 0 && Nat.beq cap 0 && Nat.ble ((2 * n + 768) * bytesT E e) 281474976710656 && Nat.ble n 1099511627776) with
    | false => simp [hb] at h
    | true =>
      simp only [hb] at h
      simp only [Bool.and_eq_true] at hb
      obtain ⟨⟨⟨b1, b2⟩, b3⟩, b4⟩ := hb
      have b1 := beq_spec b1
      have b2 := beq_spec b2
      have b3 := ble_spec b3
      have b4 := ble_spec b4
      subst b1; subst b2
      cases hs.nilSlice_inv
      refine ⟨none, 0, 0, rfl, fun zeros gf => ?_⟩
      cases n with
      | zero =>
        simp only [Option.some.injEq] at h
        subst h
        exact ⟨.slice none 0 0, w, by simp [appendTail, ha w rfl], .same hR (.atom rfl) rfl rfl rfl rfl⟩
      | succ n =>
        obtain ⟨g1, rfl⟩ := grown_spec h
        obtain ⟨c, hcn, hrun⟩ := grow_run (E := E) (base := none) (sLen := 0) (sCap := 0) (s := .slice none 0 0) (zeros := zeros) (n := n + 1) (appended := ap) (gf := gf) (w := w) (old := #[]) (new := new') (by omega) hsz hz (by simpa using b3) (by omega) (fun w' _ => by simp [Builtin.firstCells]) ha
        refine ⟨_, _, hrun, ?_⟩
        simp only [Nat.zero_add, Array.empty_append]
        exact grow_out hR hv hc hl (by rw [zeroCells_size, hzs]) (by omega)
  · rename_i i o sp len cap
    cases hg : H.get i with
    | cells cs ce cb =>
      simp only [hg] at h
      cases ht : takeAt o (len * size) cs with
      | none => simp [ht] at h
      | some old =>
        cases hb : (Nat.ble ((2 * (len + n) + 768) * bytesT E e) 281474976710656 && Nat.ble (len + n) 1099511627776) with
        | false => simp [ht, hb] at h
        | true =>
          simp only [ht, hb] at h
          simp only [Bool.and_eq_true] at hb
          have b3 := ble_spec hb.1
          have b4 := ble_spec hb.2
          have hold := takeAt_len ht
          -- the old cells, read in the world
          have rd : ∀ L, φ i = some L → ∃ old' : Array Value, VRs φ old old'.toList ∧ old.all cellOk = true ∧ ∀ w' : World, w'.heap = w.heap → (loadCells ⟨L.b, L.base + o, none⟩ (len * size)).run E.P w' = .ok old' w' := by
            intro L hL
            have hobj := hR.obj i L hL
            rw [hg] at hobj
            obtain ⟨l', h1, h2, h3⟩ := hobj.row ht
            refine ⟨⟨l'⟩, h1, h2, fun w' hw => ?_⟩
            have := run_loadCells_list (P := E.P) w' ⟨L.b, L.base + o, none⟩ l' (fun j v hj => by
              have := h3 j v hj
              simp only [World.cell?] at this ⊢
              rw [hw]; exact this)
            have hlen : l'.length = len * size := by rw [← h1.1]; exact hold
            rw [hlen] at this
            exact this
          cases sp with
          | none =>
            obtain ⟨L, hL, rfl⟩ := hs.slice_inv
            refine ⟨_, _, _, rfl, fun zeros gf => ?_⟩
            cases hle : Nat.ble (len + n) cap with
            | true =>
              simp only [hle] at h
              cases hp : putAt (o + len * size) new cs with
              | none => simp [hp] at h
              | some q =>
                simp only [hp, Option.some.injEq] at h
                subst h
                have hlec := ble_spec hle
                obtain ⟨p1, p2, p3, p4, p5⟩ := hR.put hL hg hp hv
                have hrun := run_storeCells_cells (P := E.P) L.b (L.base + (o + len * size)) new'.toList 0 w (by simpa using p2) (by simpa using p3) p1
                refine ⟨.slice (some ⟨L.b, L.base + o, none⟩) (len + n) cap, _, ?_, φ, .refl φ, .slice hL, p4, p5, .refl, Nat.le_refl _⟩
                simp only [appendTail, hlec, if_true, Sem.run_bind, ha w rfl, Result.andThen_ok, addr_add]
                rw [show L.base + o + len * size = L.base + (o + len * size) by omega, hrun]
                rfl
            | false =>
              have hlec : cap < len + n := by
                rcases Nat.lt_or_ge cap (len + n) with q | q
                · exact q
                · have q' : len + n ≤ cap := q
                  rw [← Nat.ble_eq] at q'; rw [q'] at hle; cases hle
              simp only [hle] at h
              cases hlc : Nat.ble len cap with
              | false => simp [hlc] at h
              | true =>
                simp only [hlc] at h
                obtain ⟨g1, rfl⟩ := grown_spec h
                obtain ⟨old', o1, o2, o3⟩ := rd L hL
                obtain ⟨c, hcn, hrun⟩ := grow_run (E := E) (base := some ⟨L.b, L.base + o, none⟩) (sLen := len) (sCap := cap) (s := .slice (some ⟨L.b, L.base + o, none⟩) len cap) (zeros := zeros) (n := n) (appended := ap) (gf := gf) (w := w) (old := old') (new := new') hlec hsz hz b3 b4
                  (fun w' hw => by simp only [Builtin.firstCells]; exact o3 w' hw) ha
                refine ⟨_, _, hrun, grow_out hR ?_ g1 ?_ (by rw [zeroCells_size, hzs]) hcn⟩
                · rw [Array.toList_append]; exact Pw.append o1 hv
                · rw [List.length_append, hold, hl, ← Nat.add_mul]
          | some sz =>
            obtain ⟨L, a, c', hL, rfl, g1, g2, g3⟩ := hs.opn_inv
            refine ⟨_, _, _, rfl, fun zeros gf => ?_⟩
            cases n with
            | zero =>
              simp only [Option.some.injEq] at h
              subst h
              have hnil : new'.toList = [] := by
                have : new' = #[] := Array.eq_empty_of_size_eq_zero (by omega)
                rw [this]
              refine ⟨.slice (some a) len c', w, ?_, .same hR (.opn hL g1 g2 g3) rfl rfl rfl rfl⟩
              simp [appendTail, g1, ha w rfl, hnil, storeCells]
            | succ n =>
              cases hq : (cb && (old ++ new).all cellOk && Nat.beq sz size) with
              | false => simp only [hq] at h; cases h
              | true =>
                simp only [hq, Option.some.injEq] at h
                subst h
                simp only [Bool.and_eq_true] at hq
                obtain ⟨⟨hcb, hall⟩, hqs⟩ := hq
                have hqs := beq_spec hqs
                subst hqs
                subst hcb
                obtain ⟨old', o1, o2, o3⟩ := rd L hL
                have hlive : H.get i ≠ .dead := by rw [hg]; simp
                have hK := hR.kill hL hlive
                have hin : i < H.n := Heap.get_lt_of_ne hlive
                have hφn : φ H.n = none := hR.fresh_id (Nat.le_refl _)
                by_cases hlec : len + (n + 1) ≤ c'
                · -- in place
                  rcases g3 with g3 | ⟨rfl, g3⟩
                  · omega
                  · have hobj := hR.obj i L hL
                    rw [hg] at hobj
                    obtain ⟨C, el, fr, hb, hcc, hf, ho⟩ := hobj
                    obtain ⟨ho1, ho2⟩ := ho rfl
                    have hmul : len * sz + (n + 1) * sz ≤ c' * sz := by rw [← Nat.add_mul]; exact Nat.mul_le_mul_right _ hlec
                    have hnl : new'.toList.length = (n + 1) * sz := by simpa using hn'
                    have p1 : ∀ v ∈ new'.toList, v.oneCell' = true := by
                      intro v hv'
                      obtain ⟨k, hk⟩ := List.getElem?_of_mem hv'
                      have hk' : k < new.length := by
                        rcases Nat.lt_or_ge k new.length with h | h
                        · exact h
                        · rw [List.getElem?_eq_none (by rw [← hv.1]; exact h)] at hk; cases hk
                      have := hv.2 k new[k] v (by simp [hk']) hk
                      rw [this.cellOk]
                      exact List.all_eq_true.1 hc _ (List.getElem_mem hk')
                    have hrun := run_storeCells_cells (P := E.P) L.b (L.base + o + len * sz) new'.toList 0 w
                      (fun j hj => by
                        have : L.base + o + len * sz + j < C.size := by omega
                        simp [World.cell?, hb, this])
                      (fun j hj => by
                        have hq := ho2 (L.base + o + len * sz + j) (by omega) (by omega)
                        unfold clearOf at hq
                        simp only [World.frozen?, hb, Nat.add_zero]
                        simpa using hq) p1
                    obtain ⟨s1, s2, s3, s4, s5⟩ := setCells_rest L.b new'.toList (L.base + o + len * sz) w
                    let L' : Loc := ⟨L.b, L.base + o, L.fin⟩
                    have ext : Ext φ (φ.put H.n L') := .put hφn
                    have hKp := hK.push (.cells (old ++ new) e true)
                    have hrel : Rel g (φ.put H.n L') ((H.set i .dead).push (.cells (old ++ new) e true)) (w.setCells L.b (L.base + o + len * sz) new'.toList) := by
                      refine hKp.adopt (n := H.n) (by simp) hφn (L := L') (by rw [s1]; exact hR.blk i L hL) (by rw [s1]; exact Nat.le_refl _) (fun b _ hne => s5 b hne) (fun j M hj hd => ?_) ?_
                      · have hjn := hR.dom j M hj
                        rw [Heap.get_push_lt (by simpa using hjn)] at hd
                        have hji : j ≠ i := fun e' => by subst e'; rw [Heap.get_set_self hR.wf hin] at hd; exact hd rfl
                        rw [Heap.get_set_ne hji hin] at hd
                        exact hR.inj j i M L hj hL hd hlive hji
                      · have : ((H.set i .dead).push (.cells (old ++ new) e true)).get H.n = .cells (old ++ new) e true := Heap.get_push_self (H := H.set i .dead)
                        rw [this]
                        refine ⟨setRow C (L.base + o + len * sz) new'.toList, el, fr, heap_setCells L.b _ _ w C el fr hb, fun k v hk => ?_, fun k k1 k2 => ?_, fun _ => ⟨by rw [setRow_size]; exact ho1, fun k k1 k2 => ho2 k (by simp only [L'] at k1; omega) k2⟩⟩
                        · by_cases hko : k < old.length
                          · rw [List.getElem?_append_left hko] at hk
                            have := takeAt_get ht hk
                            obtain ⟨v', q1, q2, q3⟩ := hcc (o + k) v this
                            refine ⟨v', ?_, q2.mono ext, q3⟩
                            rw [setRow_out _ _ _ _ (.inl (by simp only [L']; omega))]
                            simp only [L']
                            rwa [show L.base + o + k = L.base + (o + k) by omega]
                          · rw [List.getElem?_append_right (by omega)] at hk
                            obtain ⟨v', q1, q2⟩ := hv.get hk
                            refine ⟨v', ?_, q2.mono ext, List.all_eq_true.1 hc v (List.mem_of_getElem? hk)⟩
                            have := setRow_in new'.toList (L.base + o + len * sz) C (k - old.length) v' (by omega) q1
                            simp only [L']
                            rwa [show L.base + o + len * sz + (k - old.length) = L.base + o + k by omega] at this
                        · simp only [L', List.length_append, hold, hl] at k1 k2
                          exact ho2 k (by omega) (by omega)
                    refine ⟨.slice (some ⟨L.b, L.base + o, none⟩) (len + (n + 1)) c', _, ?_, φ.put H.n L', ext, .opn Phi.put_self hlec rfl (.inr ⟨rfl, g3⟩), hrel, ?_, ?_, Nat.le_succ _⟩
                    · simp only [appendTail, hlec, if_true, Sem.run_bind, ha w rfl, Result.andThen_ok, addr_add, hrun]
                      rfl
                    · exact ⟨by rw [s1]; exact Nat.le_refl _, s2, s3, s4, fun b hb' hw => s5 b (fun e' => hw i L (by simp) hL e'.symm)⟩
                    · intro j M hj hj'
                      by_cases hjn : j = H.n
                      · subst hjn
                        rw [Phi.put_self] at hj'; cases hj'
                        exact ⟨Nat.le_refl _, .inr ⟨i, L, by simp, hL, rfl⟩⟩
                      · rw [Phi.put_ne hjn, hj] at hj'; cases hj'
                · -- a new row
                  have g4 : ∀ w' : World, w'.heap = w.heap → (Builtin.firstCells sz len (.slice (some a) len c')).run E.P w' = .ok old' w' := by
                    intro w' hw
                    rcases g3 with g3 | ⟨rfl, g3⟩
                    · have hl0 : len = 0 := by omega
                      subst hl0
                      have : old' = #[] := by
                        have h0 := o1.1
                        rw [hold] at h0
                        simp at h0
                        exact Array.eq_empty_of_size_eq_zero h0.symm
                      rw [this]
                      simp only [Builtin.firstCells, Nat.zero_mul]
                      simpa using run_loadCells_list (P := E.P) w' a [] (by simp)
                    · simp only [Builtin.firstCells]; exact o3 w' hw
                  obtain ⟨c, hcn, hrun⟩ := grow_run (E := E) (base := some a) (sLen := len) (sCap := c') (s := .slice (some a) len c') (zeros := zeros) (n := n + 1) (appended := ap) (gf := gf) (w := w) (old := old') (new := new') (by omega) hsz hz b3 b4 g4 ha
                  obtain ⟨φ', q1, q2, q3, q4, q5, q8⟩ := grow_out hK (e := e) (el := e) (cells := old ++ new) (cs' := old' ++ new') (zs := Builtin.zeroCells z.cells (c - (len + (n + 1)))) (size := sz) (need := len + (n + 1)) (c := c) (by rw [Array.toList_append]; exact Pw.append o1 hv) hall (by rw [List.length_append, hold, hl, ← Nat.add_mul]) (by rw [zeroCells_size, hzs]) hcn
                  refine ⟨_, _, hrun, φ', q1, q2, q3, ⟨q4.size, q4.os, q4.output, q4.tape, fun b hb' hw => q4.heap b hb' (fun j M hj => by simp at hj)⟩, fun j M hj hj' => ?_, Nat.le_succ _⟩
                  obtain ⟨q6, q⟩ := q5 j M hj hj'
                  rcases q with q | ⟨_, _, q, _⟩
                  · exact ⟨q6, .inl q⟩
                  · simp at q
    | map es => simp [hg] at h
    | iter s p => simp [hg] at h
    | dead => simp [hg] at h
  · cases h


theorem timesL_all {z : List Value} (h : z.all cellOk = true) : ∀ n, (timesL z n).all cellOk = true
  | 0 => rfl
  | n + 1 => by rw [timesL, List.all_append, h, timesL_all h n]; rfl

theorem append_sound {φ : Phi} {ts : Array TypeId} {ty : TypeId} {s s' x x' : Value} {rest : List Value} {H : Heap} {r : OpRes} {g : Nat} {w : World} (h : appendOp E H ts.toList s x = some r) (hR : Rel g φ H w) (hs : VR φ s s') (hx : VR φ x x') :
    ∃ v' w', (Builtin.append_ ts ty ⟨s' :: x' :: rest⟩).run E.P w = .ok v' w' ∧ Out g H.n φ w r.v r.H r.wr v' w' := by
  unfold appendOp at h
  split at h
  · rename_i st xt tr hts
    have h0 : ts[0]? = some st := by rw [← Array.getElem?_toList, hts]; rfl
    have h1 : ts[1]? = some xt := by rw [← Array.getElem?_toList, hts]; rfl
    cases he : sliceElem E st with
    | none => simp [he] at h
    | some e =>
      cases hxt : E.P.underlying xt with
      | none => simp [he, hxt] at h
      | some xd =>
        cases hsz : sizeT E e with
        | none => simp [he, hxt, hsz] at h
        | some sz =>
          cases sz with
          | zero => simp [he, hxt, hsz] at h
          | succ size =>
            cases hz : zeroT E e with
            | none => simp [he, hxt, hsz, hz] at h
            | some z =>
              simp only [he, hxt, hsz, hz] at h
              cases hb : Nat.beq (cellsL z).length (size + 1) with
              | false => simp [hb] at h
              | true =>
                cases ha : appended E H e (size + 1) xd x with
                | none => simp [hb, ha] at h
                | some p =>
                  obtain ⟨new, n, rdx⟩ := p
                  simp only [hb, ha] at h
                  have hzl := beq_spec hb
                  have hu := sliceElem_spec he
                  have hzs : z.cells.size = size + 1 := by rw [← Array.length_toList, cells_toList, hzl]
                  have notInt : (∀ k, xd ≠ .int k) → (match lenV x with
                      | some n => match readRow H (size + 1) n x with
                        | some (new, rd) => some (new, n, rd)
                        | none => none
                      | none => none : Option (List Value × Nat × List Nat)) = some (new, n, rdx) → ∃ v' w', (Builtin.append_ ts ty ⟨s' :: x' :: rest⟩).run E.P w = .ok v' w' ∧ Out g H.n φ w r.v r.H r.wr v' w' := by
                    intro hni ha
                    cases hl : lenV x with
                    | none => simp [hl] at ha
                    | some m =>
                      simp only [hl] at ha
                      cases hr : readRow H (size + 1) m x with
                      | none => simp [hr] at ha
                      | some p =>
                        obtain ⟨l, rd⟩ := p
                        simp only [hr, Option.some.injEq, Prod.mk.injEq] at ha
                        obtain ⟨rfl, rfl, rfl⟩ := ha
                        obtain ⟨l', r1, r2, r3⟩ := readRow_sound (E := E) hr hx hR (fun _ _ => rfl)
                        obtain ⟨base, sLen, sCap, rfl, hfin⟩ := appendTo_sound (ap := Builtin.firstCells (size + 1) m x') (new' := l') h hR hs hsz hz hzl r2 r3 (readRow_len hr) (by omega) r1
                        obtain ⟨gf, hrun⟩ := append_runF (ts := ts) (ty := ty) (base := base) (sLen := sLen) (sCap := sCap) (x' := x') (rest := rest) h0 h1 hu hxt hni hsz (fun w => lenOf_run hl hx E.P w)
                        rw [hrun]
                        exact hfin false gf
                  cases xd with
                  | int k0 =>
                    simp only [appended] at ha
                    cases x with
                    | int k1 m =>
                      cases m with
                      | negSucc m => simp [hz] at ha
                      | ofNat m =>
                        simp only [hz] at ha
                        cases hq : (Nat.ble m 1073741824 && Nat.ble (m * bytesT E e) 281474976710656 && Nat.beq (cellsL z).length (size + 1)) with
                        | false => simp only [hq] at ha; cases ha
                        | true =>
                          cases hzo : (cellsL z).all cellOk with
                          | false => simp only [hq, hzo] at ha; cases ha
                          | true =>
                          simp only [hq, hzo, Option.some.injEq, Prod.mk.injEq] at ha
                          obtain ⟨rfl, rfl, rfl⟩ := ha
                          simp only [Bool.and_eq_true] at hq
                          have q1 := ble_spec hq.1.1
                          have q2 := ble_spec hq.1.2
                          cases hx.int_inv
                          have hzt := zeros_toList z.cells m (by omega)
                          have hzt' : (Builtin.zeroCells z.cells m).toList = timesL (cellsL z) m := by rw [← cells_toList]; exact hzt
                          obtain ⟨base, sLen, sCap, rfl, hfin⟩ := appendTo_sound (ap := if m * (size + 1) = 0 then pure #[] else do pure (Builtin.zeroCells (← zeroValue e).cells m)) (new' := Builtin.zeroCells z.cells m) h hR hs hsz hz hzl
                            (by rw [hzt']; exact ((VR.zero hz).cells).times m) (timesL_all hzo m) (by rw [timesL_len, hzl]) (by omega) (fun w' hw => by
                            by_cases hm : m * (size + 1) = 0
                            · have : m = 0 := by
                                rcases Nat.mul_eq_zero.1 hm with h | h
                                · exact h
                                · omega
                              subst this
                              simp [Builtin.zeroCells]
                            · simp [hm, run_zeroT hz])
                          obtain ⟨gf, hrun⟩ := append_runZ (ts := ts) (ty := ty) (base := base) (sLen := sLen) (sCap := sCap) (k1 := k1) (rest := rest) h0 h1 hu hxt hsz q1 q2 hz
                          rw [hrun]
                          exact hfin true gf
                    | _ => simp at ha
                  | _ => exact notInt (fun k => by simp) ha
  · cases h

end Go.AM

namespace Go.AM
variable {E : Env}

theorem VR.ptr_spot {φ : Phi} {v v' : Value} (r : VR φ v v') (i o s : Nat) : v ≠ .pointer (some ⟨i, o, some s⟩) := by
  intro e
  cases r <;> cases e
  rename_i h
  simp [atomV] at h

def EqsOk (E : Env) : Prop := ∀ t ks, E.eqs t = some ks → EqOk E.P t ks

theorem eval_sound {g : Nat} {φ : Phi} {t : TT} {a : Act} {x : Operand} (hx : operandOk g x = true) (hT : TR φ t a.tmps) (hG : ∀ i, i < g → φ i = some ⟨i, 0, 0⟩) : VR φ (eval t x) (a.eval x) := by
  cases x with
  | tmp k => exact hT k (blt_spec hx)
  | const v => exact .plain 4 hx
  | global k => exact .ptr (L := ⟨k, 0, 0⟩) (hG k (blt_spec hx))
  | func f => exact .func rfl rfl (by simp) (by simp)

/-- The operands of an operation are served. -/
def OpsOk (g : Nat) (op : Op) : Prop := ∀ x, x ∈ op.operands → operandOk g x = true

theorem parts_sound {φ : Phi} {t : TT} {a : Act} {ps : Array (Nat × Operand)} (h : ∀ p, p ∈ ps.toList → VR φ (eval t p.2) (a.eval p.2)) :
    Pw (fun x y : Nat × Value => x.1 = y.1 ∧ VR φ x.2 y.2) (ps.toList.map fun p => (p.1, eval t p.2)) (ps.toList.map fun p => (p.1, a.eval p.2)) :=
  Pw.map_same _ fun p hp => ⟨rfl, h p hp⟩

theorem parts_array (ps : Array (Nat × Operand)) (f : Operand → Value) : (ps.map fun (i, x) => (i, f x)) = ⟨ps.toList.map fun p => (p.1, f p.2)⟩ := by
  apply Array.ext'
  simp

/-- An operation that touches no object. -/
theorem step_pure {call : FuncId → List Value → Heap → Option CallRes} {φ : Phi} {t : TT} {a : Act} {H : Heap} {o : Oper} {r : OpRes} (hE : EqsOk E) (hc : cls E o.op = .pure) (hs : step E call t H o = some r)
    (ev : ∀ x, x ∈ o.op.operands → VR φ (eval t x) (a.eval x)) :
    r = ⟨r.v, H, [], false, []⟩ ∧ ∃ v', (∀ w, (execOp a.eval o).run E.P w = .ok (.value v') w) ∧ VR φ r.v v' := by
  have fin : ∀ s : Sem Value, PureOp E.P φ H r s → execOp a.eval o = (do pure (.value (← s))) → r = ⟨r.v, H, [], false, []⟩ ∧ ∃ v', (∀ w, (execOp a.eval o).run E.P w = .ok (.value v') w) ∧ VR φ r.v v' := by
    rintro s ⟨h1, v', h2, h3⟩ he
    exact ⟨h1, v', fun w => by rw [he]; simp [h2 w], h3⟩
  obtain ⟨dst, op, ty, pos, after, guard⟩ := o
  cases op <;> simp only [cls] at hc <;> try (cases hc; done)
  case move x =>
    simp only [step] at hs
    rw [done_spec hs]
    exact ⟨rfl, a.eval x, fun w => rfl, ev x (by simp [Op.operands])⟩
  case assign x =>
    simp only [step] at hs
    rw [done_spec hs]
    exact ⟨rfl, a.eval x, fun w => rfl, ev x (by simp [Op.operands])⟩
  case pick c x y =>
    simp only [step] at hs
    have hcv := ev c (by simp [Op.operands])
    split at hs
    · rename_i e
      rw [e] at hcv
      have := hcv.bool_inv
      rw [done_spec hs]
      exact ⟨rfl, a.eval x, fun w => by simp [execOp, this, asBool], ev x (by simp [Op.operands])⟩
    · rename_i e
      rw [e] at hcv
      have := hcv.bool_inv
      rw [done_spec hs]
      exact ⟨rfl, a.eval y, fun w => by simp [execOp, this, asBool], ev y (by simp [Op.operands])⟩
    · cases hs
  case build t' ps =>
    simp only [step] at hs
    have hp := parts_sound (ps := ps) (fun p hp => ev p.2 (by simp [Op.operands]; exact ⟨p.1, by simpa using hp⟩))
    obtain ⟨v', h1, h2, h3⟩ := build_sound (w := default) hs hp
    exact fin _ ⟨h3, v', h1, h2⟩ (by simp only [execOp, parts_array])
  case nilCheck x =>
    have hx := ev x (by simp [Op.operands])
    simp only [step] at hs
    split at hs
    · rename_i b e
      rw [e] at hx
      rw [done_spec hs]
      obtain ⟨i, o, sp⟩ := b
      cases sp with
      | some s => exact absurd rfl (hx.ptr_spot i o s)
      | none =>
        obtain ⟨L, hL, h'⟩ := hx.ptr_inv
        exact ⟨rfl, _, fun w => by simp only [execOp, h']; rfl, .ptr hL⟩
    · rename_i f fs cs e
      rw [e] at hx
      rw [done_spec hs]
      obtain ⟨a', b', h', _⟩ := hx.func_inv
      rw [h'] at hx
      exact ⟨rfl, _, fun w => by simp only [execOp, h']; rfl, hx⟩
    · rename_i m fs cs e
      rw [e] at hx
      split at hs
      · rename_i ty' v rest hfs
        cases hm : methodF E ty' m with
        | none => simp [hm] at hs
        | some fid =>
          simp only [hm] at hs
          rw [done_spec hs]
          obtain ⟨a', b', h', ha', hb'⟩ := hx.func_inv
          rw [h'] at hx
          rw [hfs] at ha'
          obtain ⟨q, l, hl, hq, _⟩ := ha'.cons_left
          obtain ⟨u, rfl, hu⟩ := hq.iface_inv
          have h0 : a'[0]? = some (.iface ty' u) := by rw [← Array.getElem?_toList, hl]; rfl
          refine ⟨rfl, _, fun w => ?_, hx⟩
          have hna : (nilAhead (E.P.types.size + Made.depth) ty' u m).run E.P w = .ok (some false) w := by
            unfold methodF at hm
            cases hi : E.P.info? ty' with
            | none => simp [hi] at hm
            | some info =>
              simp only [hi] at hm
              cases hf : info.methods.toList.find? (·.name == m) with
              | none => simp [hf] at hm
              | some mt =>
                simp only [hf] at hm
                have hf' : info.methods.find? (·.name == m) = some mt := by rw [← Array.find?_toList]; exact hf
                cases hp : mt.path.toList with
                | cons p ps => simp [hp] at hm
                | nil =>
                  cases hfn : mt.func with
                  | none => simp [hp, hfn] at hm
                  | some q =>
                    obtain ⟨f', pr⟩ := q
                    simp only [hp, hfn] at hm
                    rw [show E.P.types.size + Made.depth = (E.P.types.size + 99) + 1 from rfl]
                    generalize E.P.types.size + 99 = fuel
                    cases pr with
                    | true => simp [nilAhead, run_info hi, hf', hp, followBlind, hfn]
                    | false =>
                      cases hut : E.P.underlying ty' with
                      | none => simp [hut] at hm
                      | some dd => cases dd <;> simp [hut] at hm <;> simp [nilAhead, run_info hi, hf', hp, followBlind, hfn, run_underlying hut]
          simp only [execOp, h']
          simp [h0, hna]
      · cases hs
    · rename_i ty' v e
      rw [e] at hx
      rw [done_spec hs]
      obtain ⟨u, h', hu⟩ := hx.iface_inv
      rw [h'] at hx
      exact ⟨rfl, _, fun w => by simp only [execOp, h']; rfl, hx⟩
    · cases hs
  case binOp op t' x y yt =>
    simp only [step] at hs
    exact fin _ (binOp_pure hE hs (ev x (by simp [Op.operands])) (ev y (by simp [Op.operands])) x y) rfl
  case unOp op t' x =>
    simp only [step] at hs
    exact fin _ (unOp_pure hs (ev x (by simp [Op.operands]))) rfl
  case convert src dst' x =>
    simp only [step] at hs
    have h := convert_sound hs (ev x (by simp [Op.operands]))
    have hc' : cls E (.convert src dst' (.tmp 0)) = .pure := hc
    rw [hc'] at h
    exact fin _ h rfl
  case makeInterface t' x =>
    simp only [step] at hs
    exact fin _ (makeInterface_pure hs (ev x (by simp [Op.operands]))) rfl
  case makeFunc fn first captured =>
    simp only [step] at hs
    have h1 : VRs φ (first.toList.map (eval t)) (first.map a.eval).toList := by
      rw [Array.toList_map]
      exact Pw.map_same _ fun x hx => ev x (by simp [Op.operands]; exact .inl (by simpa using hx))
    have h2 : VRs φ (captured.toList.map (eval t)) (captured.map a.eval).toList := by
      rw [Array.toList_map]
      exact Pw.map_same _ fun x hx => ev x (by simp [Op.operands]; exact .inr (by simpa using hx))
    split at hs
    · rw [done_spec hs]
      exact ⟨rfl, _, fun w => rfl, .func h1.1 h2.1 h1.2 h2.2⟩
    · rw [done_spec hs]
      exact ⟨rfl, _, fun w => rfl, .func h1.1 h2.1 h1.2 h2.2⟩
    · cases hs
  case slice t' x lo hi mx =>
    simp only [step] at hs
    refine fin _ (slice_pure hs (ev x (by simp [Op.operands])) ?_ ?_ ?_ ?_ ?_) rfl
    · intro v hv
      cases lo with
      | none => simp [mapOpt] at hv
      | some l => simp [mapOpt] at hv; subst hv; exact ⟨_, rfl, ev l (by simp [Op.operands])⟩
    · intro h; cases lo <;> simp [mapOpt] at h ⊢
    · intro v hv
      cases hi with
      | none => simp [mapOpt] at hv
      | some l => simp [mapOpt] at hv; subst hv; exact ⟨_, rfl, ev l (by simp [Op.operands])⟩
    · intro h; cases hi <;> simp [mapOpt] at h ⊢
    · intro h; cases mx <;> simp [mapOpt] at h ⊢
  case fieldAddr s x f =>
    simp only [step] at hs
    exact fin _ (fieldAddr_pure hs (ev x (by simp [Op.operands]))) rfl
  case field t' x f =>
    simp only [step] at hs
    exact fin _ (field_pure hs (ev x (by simp [Op.operands]))) rfl
  case indexAddr t' x ix =>
    simp only [step] at hs
    exact fin _ (indexAddr_pure hs (ev x (by simp [Op.operands])) (ev ix (by simp [Op.operands]))) rfl
  case index t' x ix =>
    simp only [step] at hs
    exact fin _ (index_pure hs (ev x (by simp [Op.operands])) (ev ix (by simp [Op.operands]))) rfl
  case extract x k =>
    simp only [step] at hs
    exact fin _ (extract_pure hs (ev x (by simp [Op.operands]))) rfl
  case call c =>
    cases hcal : c.callee with
    | value f => simp [hcal] at hc
    | invoke r m => simp [hcal] at hc
    | builtin b =>
      have hargs : VRs φ (c.args.toList.map (eval t)) (c.args.map a.eval).toList := by
        rw [Array.toList_map]
        exact Pw.map_same _ fun x hx => ev x (by simp [Op.operands, Call.operands, hcal]; simpa using hx)
      simp only [step, hcal] at hs
      simp only [hcal] at hc
      cases hl : c.args.toList.map (eval t) with
      | nil => rw [hl] at hs; cases b <;> simp [builtinOp] at hs
      | cons x xs =>
        rw [hl] at hs hargs
        obtain ⟨x', xs', hx', hxx, hxs⟩ := hargs.cons_left
        have harr : c.args.map a.eval = ⟨x' :: xs'⟩ := by apply Array.ext'; rw [hx']
        cases b <;> simp only at hc <;> try (cases hc; done)
        case cap =>
          simp only [builtinOp] at hs
          refine fin _ (cap_pure (ts := c.argTypes) (ty := ty) (rest := xs') hs hxx) ?_
          simp only [execOp, resolve, hcal, harr]
          rfl
        case max =>
          simp only [builtinOp] at hs
          refine fin _ (max_pure (ts := c.argTypes) (ty := ty) hs hxx hxs) ?_
          simp only [execOp, resolve, hcal, harr]
          rfl
        case min =>
          simp only [builtinOp] at hs
          refine fin _ (min_pure (ts := c.argTypes) (ty := ty) hs hxx hxs) ?_
          simp only [execOp, resolve, hcal, harr]
          rfl

/-- An operation that only looks. -/
theorem step_look {call : FuncId → List Value → Heap → Option CallRes} {φ : Phi} {t : TT} {a : Act} {H : Heap} {o : Oper} {r : OpRes} (hc : cls E o.op = .look) (hs : step E call t H o = some r)
    (ev : ∀ x, x ∈ o.op.operands → VR φ (eval t x) (a.eval x)) :
    r.H = H ∧ r.wr = [] ∧ r.rdAll = false ∧ ∀ (g' : Nat) (K : Heap) (w : World), Rel g' φ K w → (∀ i L, i ∈ r.rd → φ i = some L → K.get i = H.get i) → ∃ v', (execOp a.eval o).run E.P w = .ok (.value v') w ∧ VR φ r.v v' := by
  have fin : ∀ s : Sem Value, LookOp E.P φ H r s → execOp a.eval o = (do pure (.value (← s))) → r.H = H ∧ r.wr = [] ∧ r.rdAll = false ∧ ∀ (g' : Nat) (K : Heap) (w : World), Rel g' φ K w → (∀ i L, i ∈ r.rd → φ i = some L → K.get i = H.get i) → ∃ v', (execOp a.eval o).run E.P w = .ok (.value v') w ∧ VR φ r.v v' := by
    rintro s ⟨h1, h2, h3, h4⟩ he
    refine ⟨h1, h2, h3, fun g' K w hR hK => ?_⟩
    obtain ⟨v', e1, e2⟩ := h4 g' K w hR hK
    exact ⟨v', by rw [he]; simp [e1], e2⟩
  obtain ⟨dst, op, ty, pos, after, guard⟩ := o
  cases op <;> simp only [cls] at hc <;> try (cases hc; done)
  case load t' x =>
    simp only [step] at hs
    exact fin _ (load_look hs (ev x (by simp [Op.operands]))) rfl
  case lookup t' x k ok =>
    simp only [step] at hs
    exact fin _ (lookup_look hs (ev x (by simp [Op.operands])) (ev k (by simp [Op.operands]))) rfl
  case convert src dst' x =>
    simp only [step] at hs
    have h := convert_sound hs (ev x (by simp [Op.operands]))
    have hc' : cls E (.convert src dst' (.tmp 0)) = .look := hc
    rw [hc'] at h
    exact fin _ h rfl
  case call c =>
    cases hcal : c.callee with
    | value f => simp [hcal] at hc
    | invoke r m => simp [hcal] at hc
    | builtin b =>
      have hargs : VRs φ (c.args.toList.map (eval t)) (c.args.map a.eval).toList := by
        rw [Array.toList_map]
        exact Pw.map_same _ fun x hx => ev x (by simp [Op.operands, Call.operands, hcal]; simpa using hx)
      simp only [step, hcal] at hs
      simp only [hcal] at hc
      cases hl : c.args.toList.map (eval t) with
      | nil => rw [hl] at hs; cases b <;> simp [builtinOp] at hs
      | cons x xs =>
        rw [hl] at hs hargs
        obtain ⟨x', xs', hx', hxx, hxs⟩ := hargs.cons_left
        have harr : c.args.map a.eval = ⟨x' :: xs'⟩ := by apply Array.ext'; rw [hx']
        cases b <;> simp only at hc <;> try (cases hc; done)
        case len =>
          simp only [builtinOp] at hs
          refine fin _ (len_look (ts := c.argTypes) (ty := ty) (rest := xs') hs hxx) ?_
          simp only [execOp, resolve, hcal, harr]
          rfl

/-- An operation that makes an object. -/
theorem step_make {call : FuncId → List Value → Heap → Option CallRes} {φ : Phi} {t : TT} {a : Act} {H : Heap} {o : Oper} {r : OpRes} (hc : cls E o.op = .make) (hs : step E call t H o = some r)
    (ev : ∀ x, x ∈ o.op.operands → VR φ (eval t x) (a.eval x)) :
    ∃ ob s, r = ⟨r.v, H.push ob, [], false, []⟩ ∧ execOp a.eval o = (do pure (.value (← s))) ∧ ∀ w, Makes E.P φ H.n ob r.v s w := by
  obtain ⟨dst, op, ty, pos, after, guard⟩ := o
  cases op <;> simp only [cls] at hc <;> try (cases hc; done)
  case alloc e =>
    simp only [step] at hs
    cases hz : zeroT E e with
    | none => simp [hz] at hs
    | some z =>
      simp only [hz] at hs
      obtain ⟨h1, rfl⟩ := newCells_spec hs
      exact ⟨_, _, rfl, rfl, fun w => alloc_makes hz h1 _⟩
  case box e x =>
    simp only [step] at hs
    obtain ⟨h1, rfl⟩ := newCells_spec hs
    exact ⟨_, _, rfl, rfl, fun w => box_makes (ev x (by simp [Op.operands])) h1⟩
  case buildSlice t' len ps =>
    simp only [step] at hs
    have hp := parts_sound (ps := ps) (fun p hp => ev p.2 (by simp [Op.operands]; exact ⟨p.1, by simpa using hp⟩))
    obtain ⟨ob, h1, _⟩ := buildSlice_makes hs hp default
    refine ⟨ob, Instr.buildSlice t' len ⟨ps.toList.map fun p => (p.1, a.eval p.2)⟩, h1, by simp only [execOp, parts_array], fun w => ?_⟩
    obtain ⟨ob', h2, h3⟩ := buildSlice_makes hs hp w
    have : ob = ob' := by
      have e : (H.push ob) = (H.push ob') := by
        have := h1.symm.trans h2
        exact congrArg OpRes.H this
      exact Heap.push_inj e
    subst this
    exact h3
  case makeSlice t' l c =>
    simp only [step] at hs
    have hl := ev l (by simp [Op.operands])
    have hcc := ev c (by simp [Op.operands])
    obtain ⟨ob, h1, _⟩ := makeSlice_makes (φ := φ) hs default
    have hints : a.eval l = eval t l ∧ a.eval c = eval t c := by
      unfold makeSliceOp at hs
      split at hs
      · rename_i e1 e2
        rw [e1] at hl
        rw [e2] at hcc
        exact ⟨by rw [e1]; exact hl.int_inv, by rw [e2]; exact hcc.int_inv⟩
      · cases hs
    refine ⟨ob, _, h1, by simp only [execOp, hints]; rfl, fun w => ?_⟩
    obtain ⟨ob', h2, h3⟩ := makeSlice_makes (φ := φ) hs w
    have : ob = ob' := by
      have e : (H.push ob) = (H.push ob') := by
        have := h1.symm.trans h2
        exact congrArg OpRes.H this
      exact Heap.push_inj e
    subst this
    exact h3
  case makeMap t' r' =>
    simp only [step] at hs
    cases r' with
    | some q => simp at hs
    | none =>
      simp only [done, Option.some.injEq] at hs
      subst hs
      exact ⟨_, _, rfl, rfl, fun w => makeMap_makes⟩
  case range t' x =>
    simp only [step] at hs
    obtain ⟨ob, h1, h2⟩ := range_makes hs (ev x (by simp [Op.operands]))
    exact ⟨ob, _, h1, rfl, h2⟩
  case convert src dst' x =>
    simp only [step] at hs
    have h := convert_sound hs (ev x (by simp [Op.operands]))
    have hc' : cls E (.convert src dst' (.tmp 0)) = .make := hc
    rw [hc'] at h
    obtain ⟨ob, h1, h2⟩ := h
    exact ⟨ob, _, h1, rfl, h2⟩
  case call c =>
    cases hcal : c.callee with
    | value f => simp [hcal] at hc
    | invoke r m => simp [hcal] at hc
    | builtin b => cases b <;> simp [hcal] at hc

end Go.AM

namespace Go.AM
variable {E : Env}

def OpGives (P : Program) (o : Oper) (a : Act) (w : World) (post : Value → World → Prop) : Prop :=
  (∃ v' w', (execOp a.eval o).run P w = .ok (.value v') w' ∧ post v' w') ∨
  (∃ w', (execOp a.eval o).run P w = .ok .skip w' ∧ post undef w') ∨
  (∃ f args w', (execOp a.eval o).run P w = .ok (.enter f args) w' ∧ Calls P f args w' fun e w'' => ∃ v', e = .returned v' ∧ post v' w'')

theorem OpGives.wp {P : Program} {o : Oper} {a : Act} {w : World} {post : Value → World → Prop} {K : Act → World → Prop} {Q : Exit → Act → World → Prop} (h : OpGives P o a w post)
    (hk : ∀ v' w', post v' w' → K (a.put o.dst v') w') : o.wp P a w K Q := by
  unfold Oper.wp
  rcases h with ⟨v', w', h1, h2⟩ | ⟨w', h1, h2⟩ | ⟨f, args, w', h1, h2⟩
  · rw [h1]; exact hk v' w' h2
  · rw [h1]; exact hk undef w' h2
  · rw [h1]
    refine h2.mono fun e w'' he => ?_
    obtain ⟨v', rfl, hp⟩ := he
    exact hk v' w'' hp

theorem OpGives.mono {P : Program} {o : Oper} {a : Act} {w : World} {post post' : Value → World → Prop} (h : OpGives P o a w post) (hp : ∀ v' w', post v' w' → post' v' w') : OpGives P o a w post' := by
  rcases h with ⟨v', w', h1, h2⟩ | ⟨w', h1, h2⟩ | ⟨f, args, w', h1, h2⟩
  · exact .inl ⟨v', w', h1, hp _ _ h2⟩
  · exact .inr (.inl ⟨w', h1, hp _ _ h2⟩)
  · exact .inr (.inr ⟨f, args, w', h1, h2.mono fun e w'' ⟨v', he, hq⟩ => ⟨v', he, hp _ _ hq⟩⟩)

/-- What a call comes to, in every world that the heap stands to. -/
def CallOk (E : Env) (f : FuncId) (args : List Value) (H : Heap) (r : CallRes) : Prop :=
  ∀ (φ : Phi) (w : World) (args' : List Value), Rel E.P.globals.size φ H w → VRs φ args args' →
    (∃ v' w', (callFunc f ⟨args'⟩).run E.P w = .ok (.value v') w' ∧ Out E.P.globals.size H.n φ w r.v r.H r.dirty v' w') ∨
    ((callFunc f ⟨args'⟩).run E.P w = .ok (.enter f ⟨args'⟩) w ∧ Calls E.P f ⟨args'⟩ w fun e w' => ∃ v', e = .returned v' ∧ Out E.P.globals.size H.n φ w r.v r.H r.dirty v' w')

/-- What a call leaves as it was, in the abstract heap. -/
def HeapKeeps (H H' : Heap) (wr : List Nat) : Prop := H.n ≤ H'.n ∧ ∀ x, x < H.n → x ∉ wr → H'.get x = H.get x

def CallsOk (E : Env) (call : FuncId → List Value → Heap → Option CallRes) : Prop := ∀ f args H r, call f args H = some r → CallOk E f args H r ∧ HeapKeeps H r.H r.dirty

theorem OpGives.ofCall {φ : Phi} {H : Heap} {w : World} {r : CallRes} {f : FuncId} {args args' : List Value} {o : Oper} {a : Act} (h : CallOk E f args H r) (hR : Rel E.P.globals.size φ H w) (ha : VRs φ args args')
    (he : (execOp a.eval o).run E.P w = (callFunc f ⟨args'⟩).run E.P w) : OpGives E.P o a w fun v' w' => Out E.P.globals.size H.n φ w r.v r.H r.dirty v' w' := by
  rcases h φ w args' hR ha with ⟨v', w', h1, h2⟩ | ⟨h1, h2⟩
  · exact .inl ⟨v', w', he.trans h1, h2⟩
  · exact .inr (.inr ⟨f, _, w, he.trans h1, h2⟩)

theorem method_run {t : TypeId} {name : String} {f : FuncId} (h : methodF E t name = some f) (v : Value) (w : World) : (method (E.P.types.size + Made.depth) t v name).run E.P w = .ok (f, v) w := by
  unfold methodF at h
  cases hi : E.P.info? t with
  | none => simp [hi] at h
  | some info =>
    simp only [hi] at h
    cases hf : info.methods.toList.find? (·.name == name) with
    | none => simp [hf] at h
    | some mt =>
      simp only [hf] at h
      have hf' : info.methods.find? (·.name == name) = some mt := by rw [← Array.find?_toList]; exact hf
      cases hp : mt.path.toList with
      | cons p ps => simp [hp] at h
      | nil =>
        cases hfn : mt.func with
        | none => simp [hp, hfn] at h
        | some q =>
          obtain ⟨f', pr⟩ := q
          simp only [hp, hfn] at h
          rw [show E.P.types.size + Made.depth = (E.P.types.size + 99) + 1 from rfl]
          generalize E.P.types.size + 99 = fuel
          cases hut : E.P.underlying t with
          | none => simp [hut] at h
          | some dd =>
            cases dd <;> cases pr <;> simp [hut] at h <;> subst h <;>
              simp [method, run_info hi, hf', hp, follow, hfn, receiverAt, run_underlying hut, Place.get]

theorem array_tail (x : Value) (b : Array Value) : (#[x] ++ b).extract 1 (#[x] ++ b).size = b := by
  apply Array.ext'
  rw [Array.toList_extract, List.extract_eq_take_drop]
  simp only [Array.toList_append, List.cons_append, List.nil_append, List.drop_succ_cons, List.drop_zero, Array.size_append]
  exact List.take_of_length_le (by simp)

/-- A call of a function. -/
theorem step_call {call : FuncId → List Value → Heap → Option CallRes} {φ : Phi} {t : TT} {a : Act} {H : Heap} {o : Oper} {r : OpRes} {w : World} {c : Call} (hop : o.op = .call c) (hb : ∀ b, c.callee ≠ .builtin b) (hC : CallsOk E call)
    (hs : step E call t H o = some r) (hR : Rel E.P.globals.size φ H w) (ev : ∀ x, x ∈ c.operands → VR φ (eval t x) (a.eval x)) :
    OpGives E.P o a w fun v' w' => Out E.P.globals.size H.n φ w r.v r.H r.wr v' w' := by
  obtain ⟨dst, op, ty, pos, after, guard⟩ := o
  simp only at hop
  subst hop
  have hargs : VRs φ (c.args.toList.map (eval t)) (c.args.map a.eval).toList := by
    rw [Array.toList_map]
    exact Pw.map_same _ fun x hx => ev x (by simp only [Call.operands, Array.mem_append]; exact .inr (by simpa using hx))
  have hs' : (match target E t c with
      | some (f, args) => match call f args H with
        | some r => some (⟨r.v, r.H, [], true, r.dirty⟩ : OpRes)
        | none => none
      | none => none) = some r := by
    simp only [step] at hs
    cases hcal : c.callee with
    | builtin b => exact absurd hcal (hb b)
    | value f => exact hs
    | invoke q m => exact hs
  cases htg : target E t c with
  | none => simp [htg] at hs'
  | some q =>
    obtain ⟨f, args⟩ := q
    simp only [htg] at hs'
    cases hca : call f args H with
    | none => simp [hca] at hs'
    | some cr =>
      simp only [hca, Option.some.injEq] at hs'
      subst hs'
      have hok := (hC f args H cr hca).1
      unfold target at htg
      cases hcal : c.callee with
      | builtin b => exact absurd hcal (hb b)
      | value fo =>
        simp only [hcal] at htg
        have hf := ev fo (by simp [Call.operands, hcal])
        split at htg
        · rename_i g first captured e
          simp only [Option.some.injEq, Prod.mk.injEq] at htg
          obtain ⟨rfl, rfl⟩ := htg
          rw [e] at hf
          obtain ⟨f', c', he, h1, h2⟩ := hf.func_inv
          refine OpGives.ofCall hok hR (args' := f'.toList ++ ((c.args.map a.eval).toList ++ c'.toList)) (Pw.append h1 (Pw.append hargs h2)) ?_
          have harr : ((f' ++ c.args.map a.eval) ++ c') = ⟨f'.toList ++ ((c.args.map a.eval).toList ++ c'.toList)⟩ := by
            apply Array.ext'; simp
          simp only [execOp, resolve, hcal, he, Deferred.ofValue, Sem.run_bind, Sem.run_pure, Result.andThen_ok, invoke, harr]
        · cases htg
      | invoke ro name =>
        simp only [hcal] at htg
        have hf := ev ro (by simp [Call.operands, hcal])
        split at htg
        · rename_i ty' v e
          cases hm : methodF E ty' name with
          | none => simp [hm] at htg
          | some fid =>
            simp only [hm, Option.some.injEq, Prod.mk.injEq] at htg
            obtain ⟨rfl, rfl⟩ := htg
            rw [e] at hf
            obtain ⟨u, he, hu⟩ := hf.iface_inv
            refine OpGives.ofCall hok hR (args' := u :: (c.args.map a.eval).toList) (.cons hu hargs) ?_
            have h0 : (#[Value.iface ty' u] ++ c.args.map a.eval)[0]? = some (.iface ty' u) := by rw [Array.getElem?_append_left (by simp)]; rfl
            have hex := array_tail (.iface ty' u) (c.args.map a.eval)
            have harr : (#[u] ++ c.args.map a.eval) = ⟨u :: (c.args.map a.eval).toList⟩ := by apply Array.ext'; simp
            simp only [execOp, resolve, hcal, Sem.run_bind, Sem.run_pure, Result.andThen_ok, invoke, he, h0, hex, callMethod, run_program, method_run hm, harr]
        · cases htg

/-- Any operation: what it comes to. -/
theorem step_sound {call : FuncId → List Value → Heap → Option CallRes} {φ : Phi} {t : TT} {a : Act} {H : Heap} {o : Oper} {r : OpRes} {w : World} (hE : EqsOk E) (hC : CallsOk E call)
    (hs : step E call t H o = some r) (hR : Rel E.P.globals.size φ H w) (ev : ∀ x, x ∈ o.op.operands → VR φ (eval t x) (a.eval x)) :
    OpGives E.P o a w fun v' w' => Out E.P.globals.size H.n φ w r.v r.H r.wr v' w' := by
  cases hc : cls E o.op with
  | pure =>
    obtain ⟨h1, v', h2, h3⟩ := step_pure hE hc hs ev
    rw [h1]
    exact .inl ⟨v', w, h2 w, .same hR h3 rfl rfl rfl rfl⟩
  | look =>
    obtain ⟨h1, h2, h3, h4⟩ := step_look hc hs ev
    obtain ⟨v', e1, e2⟩ := h4 _ H w hR (fun _ _ _ _ => rfl)
    refine .inl ⟨v', w, e1, ?_⟩
    rw [h1]
    exact .same hR e2 rfl rfl rfl rfl
  | make =>
    obtain ⟨ob, s, h1, h2, h3⟩ := step_make hc hs ev
    obtain ⟨v', w', e1, e2⟩ := (h3 w).out hR
    rw [h1]
    exact .inl ⟨v', w', by rw [h2]; simp [e1], e2⟩
  | heavy =>
    obtain ⟨dst, op, ty, pos, after, guard⟩ := o
    cases op <;> try (simp only [cls] at hc; cases hc; done)
    case store t' x v =>
      simp only [step] at hs
      obtain ⟨w', h1, h2, h3⟩ := store_sound hs hR (ev x (by simp [Op.operands])) (ev v (by simp [Op.operands]))
      exact .inr (.inl ⟨w', by simp [execOp, h1], h3⟩)
    case mapUpdate t' m k v =>
      simp only [step] at hs
      obtain ⟨w', h1, h2, h3⟩ := mapUpdate_sound hs hR (ev m (by simp [Op.operands])) (ev k (by simp [Op.operands])) (ev v (by simp [Op.operands]))
      exact .inr (.inl ⟨w', by simp [execOp, h1], h3⟩)
    case insert t' m k v =>
      simp only [step] at hs
      obtain ⟨w', h1, h2, h3⟩ := mapUpdate_sound hs hR (ev m (by simp [Op.operands])) (ev k (by simp [Op.operands])) (ev v (by simp [Op.operands]))
      exact .inr (.inl ⟨w', by simp [execOp, h1], h3⟩)
    case next it b =>
      simp only [step] at hs
      obtain ⟨v', w', h1, h2⟩ := next_sound (E := E) (ty := ty) hs hR (ev it (by simp [Op.operands]))
      exact .inl ⟨v', w', by simp [execOp, h1], h2⟩
    case call c =>
      cases hcal : c.callee with
      | value f => exact step_call rfl (fun b h => by rw [hcal] at h; cases h) hC hs hR ev
      | invoke q m => exact step_call rfl (fun b h => by rw [hcal] at h; cases h) hC hs hR ev
      | builtin b =>
        have hargs : VRs φ (c.args.toList.map (eval t)) (c.args.map a.eval).toList := by
          rw [Array.toList_map]
          exact Pw.map_same _ fun x hx => ev x (by simp [Op.operands, Call.operands, hcal]; simpa using hx)
        simp only [step, hcal] at hs
        cases b <;> try (simp [builtinOp] at hs; done)
        case append =>
          unfold builtinOp at hs
          split at hs <;> try (rename_i h1 _; cases h1; done)
          · rename_i s x rest _ hl
            rw [hl] at hargs
            obtain ⟨s', l1, e1, hs1, hr1⟩ := hargs.cons_left
            obtain ⟨x', l2, rfl, hx1, _⟩ := hr1.cons_left
            have harr : c.args.map a.eval = ⟨s' :: x' :: l2⟩ := by apply Array.ext'; rw [e1]
            obtain ⟨v', w', h1, h2⟩ := append_sound (ts := c.argTypes) (ty := ty) (rest := l2) hs hR hs1 hx1
            exact .inl ⟨v', w', by simp [execOp, resolve, hcal, harr, invoke, builtin, h1], h2⟩
          · cases hs
        case copy =>
          unfold builtinOp at hs
          split at hs <;> try (rename_i h1 _; cases h1; done)
          · rename_i s x rest _ hl
            rw [hl] at hargs
            obtain ⟨s', l1, e1, hs1, hr1⟩ := hargs.cons_left
            obtain ⟨x', l2, rfl, hx1, _⟩ := hr1.cons_left
            have harr : c.args.map a.eval = ⟨s' :: x' :: l2⟩ := by apply Array.ext'; rw [e1]
            obtain ⟨v', w', h1, h2⟩ := copy_sound (ts := c.argTypes) (ty := ty) (rest := l2) hs hR hs1 hx1
            exact .inl ⟨v', w', by simp [execOp, resolve, hcal, harr, invoke, builtin, h1], h2⟩
          · cases hs
        all_goals (simp [cls, hcal] at hc)
    case convert src dst' x =>
      simp only [cls] at hc
      split at hc <;> cases hc
    all_goals (simp [step] at hs)

end Go.AM

namespace Go.AM
variable {E : Env}

/-- The evaluator's heap stands to a world; 'φ0', 'w0': as the call began. -/
structure Core (g base : Nat) (φ0 : Phi) (w0 : World) (φ : Phi) (H : Heap) (d : List Nat) (w : World) : Prop where
  ext : Ext φ0 φ
  rel : Rel g φ H w
  lob : base ≤ H.n
  frame : Frame φ0 d w0 w
  old : ∀ i L, i < base → φ i = some L → φ0 i = some L
  dlt : ∀ i, i ∈ d → i < base
  new : ∀ i L, base ≤ i → φ i = some L → w0.heap.size ≤ L.b ∨ ∃ j M, j ∈ d ∧ φ0 j = some M ∧ M.b = L.b

/-- The evaluator's state stands to an act and a world. -/
structure ConfAt (g base nt : Nat) (φ0 : Phi) (w0 : World) (φ : Phi) (t : TT) (H : Heap) (d : List Nat) (a : Act) (w : World) : Prop extends Core g base φ0 w0 φ H d w where
  tr : TR φ t a.tmps
  size : a.tmps.size = nt
  defers : a.defers = []

def Conf (g base nt : Nat) (φ0 : Phi) (w0 : World) (t : TT) (H : Heap) (d : List Nat) (a : Act) (w : World) : Prop := ∃ φ, ConfAt g base nt φ0 w0 φ t H d a w

theorem soil_sub (base : Nat) : ∀ (wr d : List Nat) (x : Nat), x ∈ d → x ∈ soil base wr d
  | [], _, _, h => h
  | y :: wr, d, x, h => by
    simp only [soil]
    split
    · exact soil_sub base wr d x h
    · split
      · exact soil_sub base wr d x h
      · exact soil_sub base wr _ x (by simp [h])

theorem soil_new (base : Nat) : ∀ (wr d : List Nat) (x : Nat), x ∈ wr → x < base → x ∈ soil base wr d
  | [], _, _, h, _ => by simp at h
  | y :: wr, d, x, h, hx => by
    simp only [soil]
    rcases List.mem_cons.1 h with rfl | h
    · have : Nat.blt x base = true := by rw [Nat.blt_eq]; exact hx
      simp only [this]
      split
      · rename_i hm
        refine soil_sub base wr d x ?_
        obtain ⟨z, hz, e⟩ := List.any_eq_true.1 hm
        rw [beq_spec e]; exact hz
      · exact soil_sub base wr _ x (by simp)
    · split
      · exact soil_new base wr d x h hx
      · split
        · exact soil_new base wr d x h hx
        · exact soil_new base wr _ x h hx

theorem soil_lt (base : Nat) : ∀ (wr d : List Nat), (∀ i, i ∈ d → i < base) → ∀ i, i ∈ soil base wr d → i < base
  | [], _, h, i, hi => h i hi
  | y :: wr, d, h, i, hi => by
    simp only [soil] at hi
    split at hi
    · exact soil_lt base wr d h i hi
    · rename_i hb
      split at hi
      · exact soil_lt base wr d h i hi
      · refine soil_lt base wr _ (fun j hj => ?_) i hi
        rcases List.mem_cons.1 hj with rfl | hj
        · exact blt_spec hb
        · exact h j hj

theorem TR.put {φ : Phi} {t : TT} {a : Act} {nt : Nat} {dst : Option Tmp} {v v' : Value} (h : TR φ t a.tmps) (hs : a.tmps.size = nt) (hd : ∀ d : Nat, dst = some d → d < nt) (hb : nt ≤ 1048576) (hv : VR φ v v') : TR φ (t.put dst v) (a.put dst v').tmps := by
  cases dst with
  | none => exact h
  | some d =>
    have h1 : (d : Nat) < nt := hd d rfl
    have h2 : (d : Nat) < a.tmps.size := by rw [hs]; exact h1
    have h3 : (d : Nat) < 1048576 := Nat.lt_of_lt_of_le h1 hb
    exact h.set h2 h3 hv

theorem put_size {a : Act} {dst : Option Tmp} {v : Value} : (a.put dst v).tmps.size = a.tmps.size := by cases dst <;> simp [Act.put]
theorem put_defers {a : Act} {dst : Option Tmp} {v : Value} : (a.put dst v).defers = a.defers := by cases dst <;> rfl

/-- A step. -/
theorem Core.step {g base lo : Nat} {φ0 φ φ' : Phi} {w0 w w' : World} {H H' : Heap} {d wr : List Nat} (c : Core g base φ0 w0 φ H d w)
    (e1 : Ext φ φ') (e3 : Rel g φ' H' w') (e4 : Frame φ wr w w') (e5 : Fresh lo φ φ' wr w) (e6 : base ≤ H'.n) (hlo : base ≤ lo) : Core g base φ0 w0 φ' H' (soil base wr d) w' := by
  refine ⟨c.ext.trans e1, e3, e6, ?_, ?_, soil_lt base wr d c.dlt, ?_⟩
  · refine ⟨Nat.le_trans c.frame.size e4.size, e4.os.trans c.frame.os, e4.output.trans c.frame.output, e4.tape.trans c.frame.tape, fun b hb' hw => ?_⟩
    rw [e4.heap b (Nat.lt_of_lt_of_le hb' c.frame.size) (fun i L hi hL => ?_), c.frame.heap b hb' (fun i L hi hL => hw i L (soil_sub base wr d i hi) hL)]
    by_cases hib : i < base
    · exact hw i L (soil_new base wr d i hi hib) (c.old i L hib hL)
    · rcases c.new i L (by omega) hL with q | ⟨j, M, hj, hM, q⟩
      · omega
      · rw [← q]
        exact hw j M (soil_sub base wr d j hj) hM
  · intro i L hi hL
    cases hφ : φ i with
    | some M =>
      have := e1 i M hφ
      rw [hL] at this; cases this
      exact c.old i _ hi hφ
    | none =>
      have := (e5 i L hφ hL).1
      omega
  · intro i L hi hL
    cases hφ : φ i with
    | some M =>
      have := e1 i M hφ
      rw [hL] at this; cases this
      rcases c.new i _ hi hφ with q | ⟨j, N, hj, hN, q⟩
      · exact .inl q
      · exact .inr ⟨j, N, soil_sub base wr d j hj, hN, q⟩
    | none =>
      rcases (e5 i L hφ hL).2 with q | ⟨j, M, hj, hM, q⟩
      · exact .inl (Nat.le_trans c.frame.size q)
      · by_cases hjb : j < base
        · exact .inr ⟨j, M, soil_new base wr d j hj hjb, c.old j M hjb hM, q⟩
        · rcases c.new j M (by omega) hM with q' | ⟨k, N, hk, hN, q'⟩
          · exact .inl (by omega)
          · exact .inr ⟨k, N, soil_sub base wr d k hk, hN, q'.trans q⟩

/-- A step from a configuration. -/
theorem ConfAt.out {g base nt lo : Nat} {φ0 φ : Phi} {w0 w w' : World} {t : TT} {H H' : Heap} {d wr : List Nat} {a : Act} {dst : Option Tmp} {v v' : Value} (c : ConfAt g base nt φ0 w0 φ t H d a w)
    (h : Out g lo φ w v H' wr v' w') (hlo : base ≤ lo) (hd : ∀ x : Nat, dst = some x → x < nt) (hb : nt ≤ 1048576) : Conf g base nt φ0 w0 (t.put dst v) H' (soil base wr d) (a.put dst v') w' := by
  obtain ⟨φ', e1, e2, e3, e4, e5, e6⟩ := h
  exact ⟨φ', c.toCore.step e1 e3 e4 e5 (Nat.le_trans hlo e6) hlo, (c.tr.mono e1).put c.size hd hb e2, by rw [put_size]; exact c.size, by rw [put_defers]; exact c.defers⟩

theorem ConfAt.skip {g base nt : Nat} {φ0 φ : Phi} {w0 w : World} {t : TT} {H : Heap} {d : List Nat} {a : Act} {dst : Option Tmp} (c : ConfAt g base nt φ0 w0 φ t H d a w) (hd : ∀ x : Nat, dst = some x → x < nt) (hb : nt ≤ 1048576) :
    ConfAt g base nt φ0 w0 φ (t.put dst undef) H d (a.put dst undef) w :=
  ⟨c.toCore, c.tr.put c.size hd hb .undef, by rw [put_size]; exact c.size, by rw [put_defers]; exact c.defers⟩

theorem VR.bool_right {φ : Phi} {v v' : Value} (r : VR φ v v') {b : Bool} (h : v' = .bool b) : v = .bool b := by
  cases r <;> cases h
  rfl

theorem wants_eq {φ : Phi} {t : TT} {a : Act} {ops : Array Oper} {o : Oper} (hT : ∀ j want p (d : Nat), o.guard = some (j, want) → ops.toList[j]? = some p → p.dst = some d → VR φ (t.get d) (a.tmps.getD d undef)) :
    wants t ops.toList o = Region.wanted o (yielded ops a.tmps) := by
  unfold wants Region.wanted
  cases hgd : o.guard with
  | none => rfl
  | some q =>
    obtain ⟨j, want⟩ := q
    simp only
    unfold yielded
    rw [← Array.getElem?_toList]
    cases hj : ops.toList[j]? with
    | none => rfl
    | some p =>
      simp only [Option.bind_some]
      cases hp : p.dst with
      | none => rfl
      | some d =>
        simp only [Option.bind_some]
        have hv := hT j want p d hgd hj hp
        have hg : a.tmps.getD d undef = (a.tmps[d]?).getD undef := by simp
        cases hx : a.tmps[d]? with
        | none =>
          rw [hg, hx] at hv
          simp only [Option.getD_none] at hv
          cases ht : t.get d with
          | bool b => rw [ht] at hv; have := hv.bool_inv; cases this
          | _ => rfl
        | some x =>
          rw [hg, hx] at hv
          simp only [Option.getD_some] at hv
          cases ht : t.get d with
          | bool b =>
            rw [ht] at hv
            rw [hv.bool_inv]
            cases b <;> cases want <;> rfl
          | _ =>
            cases x with
            | bool b => have := hv.bool_right rfl; rw [ht] at this; cases this
            | _ => rfl

/-- A region's operations are served. -/
def RegionOk (g nt : Nat) (ops : Array Oper) : Prop := ∀ o, o ∈ ops.toList → (∀ d : Nat, o.dst = some d → d < nt) ∧ OpsOk g o.op

theorem regionOk_of {g nt : Nat} {id : Nat} {ops : Array Oper} {dr : Bool} (h : codeOk g nt (.region id ops dr) = true) : RegionOk g nt ops := by
  simp only [codeOk, List.all_eq_true, Bool.and_eq_true] at h
  intro o ho
  obtain ⟨h1, h2⟩ := h o ho
  refine ⟨fun d hd => ?_, fun x hx => h2 x (by simpa using hx)⟩
  rw [hd] at h1
  exact blt_spec h1

theorem runOps_sound {call : FuncId → List Value → Heap → Option CallRes} {base nt : Nat} {φ0 : Phi} {w0 : World} {ops : Array Oper} {Q : Exit → Act → World → Prop} {r : ARes} (hE : EqsOk E) (hC : CallsOk E call) (hb : nt ≤ 1048576)
    (hok : RegionOk E.P.globals.size nt ops) (hQ : ∀ a' w', Conf E.P.globals.size base nt φ0 w0 r.t r.H r.dirty a' w' → Q .normal a' w') :
    ∀ (n k : Nat) (t : TT) (H : Heap) (d : List Nat) (a : Act) (w : World), ops.size - k = n → k ≤ ops.size → runOps E call base ops.toList (ops.toList.drop k) t H d = some r →
      Conf E.P.globals.size base nt φ0 w0 t H d a w → wpOps E.P ops Q (List.range' k n) a w
  | 0, k, t, H, d, a, w, hn, hk, hr, hc => by
    have : ops.toList.drop k = [] := List.drop_eq_nil_of_le (by simp; omega)
    rw [this] at hr
    simp only [runOps, Option.some.injEq] at hr
    subst hr
    exact hQ a w hc
  | n + 1, k, t, H, d, a, w, hn, hk, hr, hc => by
    have hlt : k < ops.size := by omega
    have hlt' : k < ops.toList.length := by simpa using hlt
    have hdrop : ops.toList.drop k = ops.toList[k] :: ops.toList.drop (k + 1) := List.drop_eq_getElem_cons hlt'
    rw [hdrop] at hr
    simp only [runOps] at hr
    have hmem : ops.toList[k] ∈ ops.toList := List.getElem_mem hlt'
    have hget : ops[k]? = some ops.toList[k] := by simp [hlt]
    obtain ⟨hd, ho⟩ := hok _ hmem
    obtain ⟨φ, c⟩ := hc
    have hw := wants_eq (φ := φ) (t := t) (a := a) (ops := ops) (o := ops.toList[k]) (fun j want p x hgd hj hp => c.tr x (Nat.lt_of_lt_of_le ((hok p (List.mem_of_getElem? hj)).1 x hp) hb))
    rw [List.range'_succ, wpOps_cons]
    unfold wpOp
    simp only [hget]
    cases hwt : wants t ops.toList ops.toList[k] with
    | false =>
      rw [hwt] at hr hw
      simp only at hr
      rw [← hw]
      simp only [Bool.false_eq_true, if_false]
      exact runOps_sound hE hC hb hok hQ n (k + 1) _ H d _ w (by omega) (by omega) hr ⟨φ, c.skip hd hb⟩
    | true =>
      rw [hwt] at hr hw
      simp only at hr
      rw [← hw]
      simp only [if_true]
      cases hs : step E call t H ops.toList[k] with
      | none => simp only [hs] at hr; cases hr
      | some q =>
        simp only [hs] at hr
        left
        refine (step_sound hE hC hs c.rel (fun x hx => eval_sound (ho x hx) c.tr c.rel.glob)).wp fun v' w' hout => ?_
        exact runOps_sound hE hC hb hok hQ n (k + 1) _ q.H _ _ w' (by omega) (by omega) hr (c.out hout c.lob hd hb)

end Go.AM

namespace Go.AM
variable {E : Env}

/-- Nothing is written; at most one object is new. -/
def Light (H : Heap) (r : OpRes) : Prop := r.wr = [] ∧ (r.H = H ∨ ∃ ob, r.H = H.push ob)

theorem light_done {v : Value} {H : Heap} {r : OpRes} (h : done v H = some r) : Light H r := by
  rw [done_spec h]; exact ⟨rfl, .inl rfl⟩

theorem light_push {v : Value} {H : Heap} {ob : AObj} {r : OpRes} (h : done v (H.push ob) = some r) : Light H r := by
  rw [done_spec h]; exact ⟨rfl, .inr ⟨ob, rfl⟩⟩

theorem light_look {v : Value} {H : Heap} {rd : List Nat} {r : OpRes} (h : some (⟨v, H, rd, false, []⟩ : OpRes) = some r) : Light H r := by
  cases h; exact ⟨rfl, .inl rfl⟩

theorem light_newCells {H : Heap} {cs : List Value} {e : TypeId} {b : Bool} {mk : Addr → Value} {r : OpRes} (h : newCells H cs e b mk = some r) : Light H r := by
  obtain ⟨_, rfl⟩ := newCells_spec h
  exact ⟨rfl, .inr ⟨_, rfl⟩⟩

theorem light_build {H : Heap} {t : TypeId} {ps : List (Nat × Value)} {r : OpRes} (h : buildOp E H t ps = some r) : Light H r := by
  unfold buildOp at h
  repeat' split at h
  all_goals first | exact light_done h | cases h

theorem light_buildSlice {H : Heap} {t : TypeId} {n : Nat} {ps : List (Nat × Value)} {r : OpRes} (h : buildSliceOp E H t n ps = some r) : Light H r := by
  unfold buildSliceOp at h
  repeat' split at h
  all_goals first | exact light_newCells h | cases h

theorem light_makeSlice {H : Heap} {t : TypeId} {l c : Value} {r : OpRes} (h : makeSliceOp E H t l c = some r) : Light H r := by
  unfold makeSliceOp at h
  repeat' split at h
  all_goals first | exact light_newCells h | cases h

theorem light_load {H : Heap} {t : TypeId} {p : Value} {r : OpRes} (h : loadOp E H t p = some r) : Light H r ∧ ∀ x, x ∈ r.rd → x < H.n := by
  unfold loadOp at h
  split at h
  · rename_i i o _
    cases hl : loadO E H t i o with
    | none => simp [hl] at h
    | some v =>
      simp only [hl] at h
      refine ⟨light_look h, ?_⟩
      cases h
      intro x hx
      simp only [List.mem_singleton] at hx
      subst hx
      refine Heap.get_lt_of_ne fun hd => ?_
      simp [loadO, hd] at hl
  · cases h

theorem light_fieldAddr {H : Heap} {s : TypeId} {p : Value} {f : Nat} {r : OpRes} (h : fieldAddrOp E H s p f = some r) : Light H r := by
  unfold fieldAddrOp at h
  repeat' split at h
  all_goals first | exact light_done h | cases h

theorem light_field {H : Heap} {s : TypeId} {p : Value} {f : Nat} {r : OpRes} (h : fieldOp E H s p f = some r) : Light H r := by
  unfold fieldOp at h
  repeat' split at h
  all_goals first | exact light_done h | cases h

theorem light_indexAddr {H : Heap} {s : TypeId} {p i : Value} {r : OpRes} (h : indexAddrOp E H s p i = some r) : Light H r := by
  unfold indexAddrOp at h
  repeat' split at h
  all_goals first | exact light_done h | cases h

theorem light_index {H : Heap} {s : TypeId} {p i : Value} {r : OpRes} (h : indexOp E H s p i = some r) : Light H r := by
  unfold indexOp at h
  repeat' split at h
  all_goals first | exact light_done h | cases h

theorem light_slice {H : Heap} {s : TypeId} {x : Value} {lo hi mx : Option Value} {r : OpRes} (h : sliceOp E H s x lo hi mx = some r) : Light H r := by
  unfold sliceOp at h
  repeat' split at h
  all_goals first | exact light_done h | cases h

theorem light_binOp {H : Heap} {op : BinOp} {t : TypeId} {x y : Value} {r : OpRes} (h : binOpOp E H op t x y = some r) : Light H r := by
  unfold binOpOp at h
  repeat' split at h
  all_goals first | exact light_done h | cases h

theorem light_unOp {H : Heap} {op : UnOp} {x : Value} {r : OpRes} (h : unOpOp H op x = some r) : Light H r := by
  unfold unOpOp at h
  repeat' split at h
  all_goals first | exact light_done h | cases h

theorem light_convert {H : Heap} {src dst : TypeId} {x : Value} {r : OpRes} (h : convertOp E H src dst x = some r) : Light H r ∧ ∀ z, z ∈ r.rd → z < H.n := by
  unfold convertOp at h
  repeat' split at h
  all_goals first
    | (refine ⟨light_done h, ?_⟩; rw [done_spec h]; simp; done)
    | (refine ⟨light_newCells h, ?_⟩; obtain ⟨_, rfl⟩ := newCells_spec h; simp; done)
    | (cases h; done)
    | skip
  rename_i cs e b hg _ _ _
  refine ⟨light_look h, ?_⟩
  cases h
  intro z hz
  simp only [List.mem_singleton] at hz
  subst hz
  exact Heap.get_lt_of_ne fun hd => by simp_all

theorem light_lookup {H : Heap} {t : TypeId} {x k : Value} {ok : Bool} {r : OpRes} (h : lookupOp E H t x k ok = some r) : Light H r ∧ ∀ z, z ∈ r.rd → z < H.n := by
  unfold lookupOp at h
  split at h
  · split at h
    · rename_i es rd hk hz he
      have hrd : ∀ z, z ∈ rd → z < H.n := by
        unfold entriesOf at he
        split at he
        · cases he; simp
        · split at he
          · rename_i hg
            cases he
            intro z hz
            simp only [List.mem_singleton] at hz
            subst hz
            exact Heap.get_lt_of_ne fun hd => by rw [hd] at hg; cases hg
          · cases he
        · cases he
      split at h
      · refine ⟨light_look h, ?_⟩; cases h; exact hrd
      · refine ⟨light_look h, ?_⟩; cases h; exact hrd
      · cases h
    · cases h
  · cases h

theorem light_len {H : Heap} {ts : List TypeId} {x : Value} {r : OpRes} (h : lenOp E H ts x = some r) : Light H r ∧ ∀ z, z ∈ r.rd → z < H.n := by
  unfold lenOp at h
  repeat' split at h
  all_goals first
    | (refine ⟨light_done h, ?_⟩; rw [done_spec h]; simp; done)
    | (cases h; done)
    | skip
  rename_i es hg
  refine ⟨light_look h, ?_⟩
  cases h
  intro z hz
  simp only [List.mem_singleton] at hz
  subst hz
  exact Heap.get_lt_of_ne fun hd => by rw [hd] at hg; cases hg

theorem light_cap {H : Heap} {ts : List TypeId} {x : Value} {r : OpRes} (h : capOp E H ts x = some r) : Light H r := by
  unfold capOp at h
  repeat' split at h
  all_goals first | exact light_done h | cases h

theorem light_range {H : Heap} {t : TypeId} {x : Value} {r : OpRes} (h : rangeOp E H t x = some r) : Light H r := by
  unfold rangeOp at h
  repeat' split at h
  all_goals first | exact light_push h | cases h

theorem keeps_set {H : Heap} {i : Nat} {ob : AObj} (h : i < H.n) : HeapKeeps H (H.set i ob) [i] :=
  ⟨Nat.le_refl _, fun x hx hw => Heap.get_set_ne (by simpa using hw) h⟩

theorem keeps_light {H : Heap} {r : OpRes} (h : Light H r) : HeapKeeps H r.H r.wr := by
  obtain ⟨h1, h2 | ⟨ob, h2⟩⟩ := h
  · rw [h2]; exact ⟨Nat.le_refl _, fun _ _ _ => rfl⟩
  · rw [h2]; exact ⟨by simp, fun x hx _ => Heap.get_push_lt hx⟩

theorem keeps_store {H : Heap} {t : TypeId} {p v : Value} {r : OpRes} (h : storeOp E H t p v = some r) : HeapKeeps H r.H r.wr := by
  unfold storeOp at h
  split at h
  · split at h
    · rename_i cs e b hg
      split at h
      · split at h
        · cases h
          exact keeps_set (Heap.get_lt_of_ne fun hd => by rw [hd] at hg; cases hg)
        · cases h
      · cases h
    · cases h
  · cases h

theorem keeps_mapUpdate {H : Heap} {t : TypeId} {m k v : Value} {r : OpRes} (h : mapUpdateOp E H t m k v = some r) : HeapKeeps H r.H r.wr := by
  unfold mapUpdateOp at h
  split at h
  · split at h
    · rename_i hg
      split at h
      · cases h
        exact keeps_set (Heap.get_lt_of_ne fun hd => by rw [hd] at hg; cases hg)
      · cases h
    · cases h
  · cases h

theorem keeps_next {H : Heap} {it : Value} {b : Bool} {r : OpRes} (h : nextOp H it b = some r) : HeapKeeps H r.H r.wr := by
  unfold nextOp at h
  split at h
  · split at h
    · rename_i hg
      split at h
      · split at h
        cases h
        exact keeps_set (Heap.get_lt_of_ne fun hd => by rw [hd] at hg; cases hg)
      · cases h
        exact ⟨Nat.le_refl _, fun _ _ _ => rfl⟩
    · cases h
  · cases h

theorem keeps_grown {H : Heap} {e : TypeId} {size : Nat} {cells : List Value} {need : Nat} {rd : List Nat} {r : OpRes} (h : grown H e size cells need rd = some r) : HeapKeeps H r.H r.wr := by
  unfold grown at h
  split at h
  · cases h
    exact ⟨by simp, fun x hx _ => Heap.get_push_lt hx⟩
  · cases h

theorem keeps_appendTo {H : Heap} {e : TypeId} {size : Nat} {s : Value} {new : List Value} {n : Nat} {rdx : List Nat} {r : OpRes} (h : appendTo E H e size s new n rdx = some r) : HeapKeeps H r.H r.wr := by
  unfold appendTo at h
  split at h
  · split at h
    · split at h
      · cases h; exact ⟨Nat.le_refl _, fun _ _ _ => rfl⟩
      · exact keeps_grown h
    · cases h
  · rename_i i o sp len cap
    cases hg : H.get i with
    | map es => simp [hg] at h
    | iter s p => simp [hg] at h
    | dead => simp [hg] at h
    | cells cs ce cb =>
      have hi : i < H.n := Heap.get_lt_of_ne fun hd => by rw [hd] at hg; cases hg
      simp only [hg] at h
      split at h
      · split at h
        · split at h
          · split at h
            · cases h
              exact keeps_set hi
            · cases h
          · split at h
            · exact keeps_grown h
            · cases h
        · split at h
          · cases h; exact ⟨Nat.le_refl _, fun _ _ _ => rfl⟩
          · split at h
            · cases h
              refine ⟨by simp, fun x hx hw => ?_⟩
              have hx' : x < (H.set i .dead).n := hx
              rw [Heap.get_push_lt hx', Heap.get_set_ne (by simpa using hw) hi]
            · cases h
      · cases h
  · cases h

theorem keeps_append {H : Heap} {ts : List TypeId} {s x : Value} {r : OpRes} (h : appendOp E H ts s x = some r) : HeapKeeps H r.H r.wr := by
  unfold appendOp at h
  repeat' split at h
  all_goals first | exact keeps_appendTo h | cases h

theorem keeps_copy {H : Heap} {ts : List TypeId} {d s : Value} {r : OpRes} (h : copyOp E H ts d s = some r) : HeapKeeps H r.H r.wr := by
  unfold copyOp at h
  split at h
  · split at h
    · split at h
      · split at h
        · split at h
          · exact keeps_light (light_done h)
          · cases h
        · split at h
          · rename_i hg
            split at h
            · cases h
              exact keeps_set (Heap.get_lt_of_ne fun hd => by rw [hd] at hg; cases hg)
            · cases h
          · cases h
        · cases h
      · cases h
    · cases h
  · cases h

/-- The class of an operation that is no call of a function. -/
theorem step_light {call : FuncId → List Value → Heap → Option CallRes} {t : TT} {H : Heap} {o : Oper} {r : OpRes} (hs : step E call t H o = some r) (hc : cls E o.op ≠ .heavy) : Light H r := by
  obtain ⟨dst, op, ty, pos, after, guard⟩ := o
  cases op <;> try (simp only [cls] at hc; exact absurd rfl hc)
  all_goals simp only [step] at hs
  case move x => exact light_done hs
  case assign x => exact light_done hs
  case pick c a b => repeat' split at hs
                     all_goals first | exact light_done hs | cases hs
  case alloc e => split at hs
                  · exact light_newCells hs
                  · cases hs
  case box e x => exact light_newCells hs
  case build t' ps => exact light_build hs
  case buildSlice t' n ps => exact light_buildSlice hs
  case load t' a => exact (light_load hs).1
  case nilCheck x =>
    split at hs
    · exact light_done hs
    · exact light_done hs
    · split at hs
      · split at hs
        · exact light_done hs
        · cases hs
      · cases hs
    · exact light_done hs
    · cases hs
  case binOp => exact light_binOp hs
  case unOp => exact light_unOp hs
  case convert => exact (light_convert hs).1
  case makeInterface t' x => split at hs
                             · cases hs
                             · exact light_done hs
                             · cases hs
  case makeFunc => repeat' split at hs
                   all_goals first | exact light_done hs | cases hs
  case makeMap t' r' =>
    split at hs
    · exact light_push hs
    · cases hs
  case makeSlice => exact light_makeSlice hs
  case slice => exact light_slice hs
  case fieldAddr => exact light_fieldAddr hs
  case field => exact light_field hs
  case indexAddr => exact light_indexAddr hs
  case index => exact light_index hs
  case lookup => exact (light_lookup hs).1
  case range => exact light_range hs
  case extract => repeat' split at hs
                  all_goals first | exact light_done hs | cases hs
  case call c =>
    cases hcal : c.callee with
    | value f => simp [cls, hcal] at hc
    | invoke q m => simp [cls, hcal] at hc
    | builtin b =>
      simp only [hcal] at hs
      cases b <;> try (simp [cls, hcal] at hc; done)
      all_goals
        cases hl : c.args.toList.map (eval t) with
        | nil => rw [hl] at hs; cases hs
        | cons x xs => ?_
      all_goals (rw [hl] at hs; simp only [builtinOp] at hs)
      case builtin.len.cons => exact (light_len hs).1
      case builtin.cap.cons => exact light_cap hs
      all_goals
        split at hs
        · exact light_done hs
        · cases hs

/-- What an operation that looks has looked at was there. -/
theorem step_looked {call : FuncId → List Value → Heap → Option CallRes} {t : TT} {H : Heap} {o : Oper} {r : OpRes} (hs : step E call t H o = some r) (hc : cls E o.op = .look) : ∀ x, x ∈ r.rd → x < H.n := by
  obtain ⟨dst, op, ty, pos, after, guard⟩ := o
  cases op <;> simp only [cls] at hc <;> try (cases hc; done)
  all_goals simp only [step] at hs
  case load t' a => exact (light_load hs).2
  case convert => exact (light_convert hs).2
  case lookup => exact (light_lookup hs).2
  case call c =>
    cases hcal : c.callee with
    | value f => simp [hcal] at hc
    | invoke q m => simp [hcal] at hc
    | builtin b =>
      simp only [hcal] at hs hc
      cases b <;> try (simp at hc; done)
      cases hl : c.args.toList.map (eval t) with
      | nil => rw [hl] at hs; cases hs
      | cons x xs =>
        rw [hl] at hs
        simp only [builtinOp] at hs
        exact (light_len hs).2

theorem step_heapKeeps {call : FuncId → List Value → Heap → Option CallRes} {t : TT} {H : Heap} {o : Oper} {r : OpRes} (hC : CallsOk E call) (hs : step E call t H o = some r) : HeapKeeps H r.H r.wr := by
  by_cases hh : cls E o.op = .heavy
  case neg => exact keeps_light (step_light hs hh)
  obtain ⟨dst, op, ty, pos, after, guard⟩ := o
  cases op <;> simp only [cls] at hh <;> try (cases hh; done)
  all_goals simp only [step] at hs
  case store => exact keeps_store hs
  case mapUpdate => exact keeps_mapUpdate hs
  case insert => exact keeps_mapUpdate hs
  case next => exact keeps_next hs
  case convert => exact keeps_light (light_convert hs).1
  case call c =>
    have calls : ∀ z : Option (FuncId × List Value), (match z with
        | some (f, args) => match call f args H with
          | some r => some (⟨r.v, r.H, [], true, r.dirty⟩ : OpRes)
          | none => none
        | none => none) = some r → HeapKeeps H r.H r.wr := by
      intro z hz
      split at hz
      · rename_i f args
        cases hca : call f args H with
        | none => simp [hca] at hz
        | some cr =>
          simp only [hca, Option.some.injEq] at hz
          subst hz
          exact (hC f args H cr hca).2
      · cases hz
    cases hcal : c.callee with
    | value f => simp only [hcal] at hs; exact calls _ hs
    | invoke q m => simp only [hcal] at hs; exact calls _ hs
    | builtin b =>
      simp only [hcal] at hs hh
      cases hl : c.args.toList.map (eval t) with
      | nil => rw [hl] at hs; cases b <;> simp [builtinOp] at hs
      | cons x xs =>
        rw [hl] at hs
        cases b <;> try (simp at hh; done)
        all_goals try (simp [builtinOp] at hs; done)
        case append =>
          cases xs with
          | nil => simp [builtinOp] at hs
          | cons y ys => simp only [builtinOp] at hs; exact keeps_append hs
        case copy =>
          cases xs with
          | nil => simp [builtinOp] at hs
          | cons y ys => simp only [builtinOp] at hs; exact keeps_copy hs
  all_goals cases hs

end Go.AM
