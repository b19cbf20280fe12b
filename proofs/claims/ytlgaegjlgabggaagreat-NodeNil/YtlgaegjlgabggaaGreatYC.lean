/- A reckoner of single operations: what each looks at, and what comes of it. No program in sight. -/
import Derived.Test.YtlgaegjlgabggaaGreatYB
namespace Go.X
open Go

structure R5 where
  ro : List (Operand × V)
  rh : List (Nat × Ob)
  fr : List Nat
  x : V
  dh : List (Nat × Option Ob)

structure R5.OK (P : Program) (N : Nat) (o : Oper) (st : St) (r : R5) : Prop where
  run : OpRun P N o r.ro r.rh r.fr r.x r.dh
  h1 : AllP (fun p => ev st.T p.1 = some p.2) r.ro
  h2 : AllP (fun p => lookH st.H p.1 = some p.2) r.rh
  h3 : AllP (fun k => look st.H k = none) r.fr

/-- A number for a new object. -/
def nxtA : List (Nat × Option Ob) → Nat → Nat
  | [], acc => acc
  | (k, _) :: r, acc => match Nat.blt k 1000 && Nat.ble acc k with
    | true => nxtA r (k + 1)
    | false => nxtA r acc
def nxt (H : List (Nat × Option Ob)) : Nat := nxtA H 0
theorem nxtA_spec : ∀ (H : List (Nat × Option Ob)) (acc : Nat), acc ≤ nxtA H acc ∧ ∀ k, k < 1000 → look H k ≠ none → k < nxtA H acc
  | [], acc => ⟨Nat.le_refl _, fun k _ h => absurd rfl h⟩
  | (j, o) :: r, acc => by
    simp only [nxtA]
    split
    · rename_i h
      simp only [Bool.and_eq_true] at h
      have h2 : acc ≤ j := Nat.ble_eq ▸ h.2
      obtain ⟨h3, h4⟩ := nxtA_spec r (j + 1)
      refine ⟨by omega, fun k hk hl => ?_⟩
      rw [look_cons] at hl
      by_cases e : j = k
      · subst e; omega
      · rw [if_neg e] at hl; exact h4 k hk hl
    · rename_i h
      obtain ⟨h3, h4⟩ := nxtA_spec r acc
      refine ⟨h3, fun k hk hl => ?_⟩
      rw [look_cons] at hl
      by_cases e : j = k
      · subst e
        have : ¬ acc ≤ j := fun hle => by
          rw [lt_blt hk, (Nat.ble_eq ▸ hle : Nat.ble acc j = true)] at h; cases h
        omega
      · rw [if_neg e] at hl; exact h4 k hk hl
theorem nxt_free {H : List (Nat × Option Ob)} {j : Nat} (h : nxt H ≤ j) (hj : j < 1000) : look H j = none := by
  cases e : look H j with
  | none => rfl
  | some o => have := (nxtA_spec H 0).2 j hj (by rw [e]; simp); unfold nxt at h; omega

section
variable {P : Program} {N : Nat} {d : Option Tmp} {ty : TypeId} {pos : String} {after : Array Edge} {g : Option (Nat × Bool)}

theorem R5.OK.mk1 {o : Oper} {st : St} {x : Operand} {y v : V} (h : OpRun P N o [(x, y)] [] [] v []) (hx : ev st.T x = some y) : R5.OK P N o st ⟨[(x, y)], [], [], v, []⟩ := ⟨h, ⟨hx, trivial⟩, trivial, trivial⟩
theorem R5.OK.mk2 {o : Oper} {st : St} {x z : Operand} {y q v : V} (h : OpRun P N o [(x, y), (z, q)] [] [] v []) (hx : ev st.T x = some y) (hz : ev st.T z = some q) : R5.OK P N o st ⟨[(x, y), (z, q)], [], [], v, []⟩ := ⟨h, ⟨hx, hz, trivial⟩, trivial, trivial⟩

def moveEv (st : St) (x : Operand) : Option R5 := match ev st.T x with
  | some y => some ⟨[(x, y)], [], [], y, []⟩
  | none => none
theorem moveEv_ok {st : St} {x : Operand} {r : R5} (hd : dlt N d = true) (h : moveEv st x = some r) : r.OK P N ⟨d, .move x, ty, pos, after, g⟩ st ∧ r.OK P N ⟨d, .assign x, ty, pos, after, g⟩ st := by
  unfold moveEv at h
  split at h
  · cases h; rename_i hx; exact ⟨.mk1 (OpRun.move x _ hd) hx, .mk1 (OpRun.assign x _ hd) hx⟩
  · cases h

def pickEv (st : St) (c x y : Operand) : Option R5 := match ev st.T c with
  | some (.v (.bool true)) => match ev st.T x with
    | some v => some ⟨[(c, .v (.bool true)), (x, v)], [], [], v, []⟩
    | none => none
  | some (.v (.bool false)) => match ev st.T y with
    | some v => some ⟨[(c, .v (.bool false)), (y, v)], [], [], v, []⟩
    | none => none
  | _ => none
theorem pickEv_ok {st : St} {c x y : Operand} {r : R5} (hd : dlt N d = true) (h : pickEv st c x y = some r) : r.OK P N ⟨d, .pick c x y, ty, pos, after, g⟩ st := by
  unfold pickEv at h
  split at h
  · split at h
    · cases h; exact .mk2 (OpRun.pickT c x y true _ hd rfl) (by assumption) (by assumption)
    · cases h
  · split at h
    · cases h; exact .mk2 (OpRun.pickF c x y false _ hd rfl) (by assumption) (by assumption)
    · cases h
  · cases h

def allocEv (P : Program) (st : St) (t : TypeId) : Option R5 := match zeroP P t with
  | some z => match zgood z && Nat.blt (nxt st.H) 1000 with
    | true => some ⟨[], [], [nxt st.H], .ptr (nxt st.H) 0, [(nxt st.H, some ⟨zflat z, false⟩)]⟩
    | false => none
  | none => none
theorem allocEv_ok {st : St} {t : TypeId} {r : R5} (hd : dlt N d = true) (h : allocEv P st t = some r) : r.OK P N ⟨d, .alloc t, ty, pos, after, g⟩ st := by
  unfold allocEv at h
  split at h
  · rename_i z hz
    split at h
    · rename_i hb
      simp only [Bool.and_eq_true] at hb
      cases h
      exact ⟨OpRun.allocF t z _ hd hb.2 (zeroP_run hz) hb.1, trivial, trivial, ⟨nxt_free (Nat.le_refl _) (blt_lt hb.2), trivial⟩⟩
    · cases h
  · cases h

def boxEv (st : St) (x : Operand) : Option R5 := match ev st.T x with
  | some y => match y.noTup && Nat.blt (nxt st.H) 1000 with
    | true => some ⟨[(x, y)], [], [nxt st.H], .ptr (nxt st.H) 0, [(nxt st.H, some ⟨y, false⟩)]⟩
    | false => none
  | none => none
theorem boxEv_ok {st : St} {t : TypeId} {x : Operand} {r : R5} (hd : dlt N d = true) (h : boxEv st x = some r) : r.OK P N ⟨d, .box t x, ty, pos, after, g⟩ st := by
  unfold boxEv at h
  split at h
  · rename_i z hz
    split at h
    · rename_i hb
      simp only [Bool.and_eq_true] at hb
      cases h
      exact ⟨OpRun.box x t _ _ hd hb.2 hb.1, ⟨hz, trivial⟩, trivial, ⟨nxt_free (Nat.le_refl _) (blt_lt hb.2), trivial⟩⟩
    · cases h
  · cases h

/- Several operands. -/
def evs (T : List (Nat × V)) : List Operand → Option (List V)
  | [] => some []
  | x :: r => match ev T x, evs T r with
    | some y, some ys => some (y :: ys)
    | _, _ => none
theorem evs_ok {T : List (Nat × V)} : ∀ {xs : List Operand} {ys : List V}, evs T xs = some ys → xs.length = ys.length ∧ AllP (fun p => ev T p.1 = some p.2) (zipO xs ys)
  | [], ys, h => by simp only [evs] at h; cases h; exact ⟨rfl, trivial⟩
  | x :: r, ys, h => by
    simp only [evs] at h
    split at h
    · rename_i y ys' h1 h2
      cases h
      obtain ⟨h3, h4⟩ := evs_ok h2
      exact ⟨by simp [h3], h1, h4⟩
    · cases h

def buildEv (P : Program) (st : St) (t : TypeId) (ps : List (Nat × Operand)) : Option R5 := match evs st.T (ps.map (·.2)), zeroP P t, P.underlying t with
  | some ys, some zv, some (.struct fl) => match zv.cells.toList.all good, sizesP P fl.toList with
    | true, some ns => match fillV (fun i => (placesOf fl.toList ns)[i]?) (zcellsV zv) (ps.map (·.1)) ys with
      | some r => some ⟨zipO (ps.map (·.2)) ys, [], [], .agg r, []⟩
      | none => none
    | _, _ => none
  | some ys, some zv, some (.array _ e) => match zv.cells.toList.all good, szP P e with
    | true, some sz => match fillV (fun i => some (i * sz, sz)) (zcellsV zv) (ps.map (·.1)) ys with
      | some r => some ⟨zipO (ps.map (·.2)) ys, [], [], .agg r, []⟩
      | none => none
    | _, _ => none
  | _, _, _ => none
theorem pairs_eq (ps : Array (Nat × Operand)) : ps = ((ps.toList.map (·.1)).zip (ps.toList.map (·.2))).toArray := by
  rw [unzipPairs]
theorem buildEv_ok {st : St} {t : TypeId} {ps : Array (Nat × Operand)} {r : R5} (hd : dlt N d = true) (h : buildEv P st t ps.toList = some r) : r.OK P N ⟨d, .build t ps, ty, pos, after, g⟩ st := by
  unfold buildEv at h
  rw [pairs_eq ps]
  split at h
  · rename_i ys zv fl h1 h2 h3
    split at h
    · rename_i ns h4 h5
      split at h
      · rename_i r' h6
        cases h
        obtain ⟨hl, ha⟩ := evs_ok h1
        exact ⟨OpRun.buildF t _ _ ys fl.toList ns zv r' hd (fun w => by simpa using run_underlying h3 w) (sizesP_run h5) (zeroP_run h2) h4 h6 hl, ha, trivial, trivial⟩
      · cases h
    · cases h
  · rename_i ys zv n e h1 h2 h3
    split at h
    · rename_i sz h4 h5
      split at h
      · rename_i r' h6
        cases h
        obtain ⟨hl, ha⟩ := evs_ok h1
        exact ⟨OpRun.buildAF t e n sz _ _ ys zv r' hd (run_underlying h3) (szP_run h5) (zeroP_run h2) h4 h6 hl, ha, trivial, trivial⟩
      · cases h
    · cases h
  · cases h

def buildSliceEv (P : Program) (st : St) (t : TypeId) (n : Nat) (ps : List (Nat × Operand)) : Option R5 := match evs st.T (ps.map (·.2)), P.underlying t with
  | some ys, some (.slice e) => match zeroP P e, szP P e with
    | some zv, some sz => match zv.cells.toList.all good && Nat.beq zv.cells.toList.length sz && Nat.blt 0 sz && Nat.ble (n * sz) 16777216 && Nat.blt (nxt st.H) 1000 with
      | true => match fillV (fun i => some (i * sz, sz)) (rep n (zcellsV zv)) (ps.map (·.1)) ys with
        | some r => match Nat.beq r.length (n * sz) with
          | true => some ⟨zipO (ps.map (·.2)) ys, [], [nxt st.H], .osl (nxt st.H) 0 n sz (some n), [(nxt st.H, some ⟨.agg r, false⟩)]⟩
          | false => none
        | none => none
      | false => none
    | _, _ => none
  | _, _ => none
theorem buildSliceEv_ok {st : St} {t : TypeId} {n : Nat} {ps : Array (Nat × Operand)} {r : R5} (hd : dlt N d = true) (h : buildSliceEv P st t n ps.toList = some r) : r.OK P N ⟨d, .buildSlice t n ps, ty, pos, after, g⟩ st := by
  unfold buildSliceEv at h
  rw [pairs_eq ps]
  split at h
  · rename_i ys e h1 h2
    split at h
    · rename_i zv sz h3 h4
      split at h
      · rename_i hb
        simp only [Bool.and_eq_true] at hb
        obtain ⟨⟨⟨⟨b1, b2⟩, b3⟩, b4⟩, b5⟩ := hb
        split at h
        · rename_i r' h6
          split at h
          · rename_i h7
            cases h
            obtain ⟨hl, ha⟩ := evs_ok h1
            exact ⟨OpRun.buildSliceF t e n sz _ _ _ ys zv r' hd b5 (run_underlying h2) (szP_run h4) (zeroP_run h3) b1 (Nat.eq_of_beq_eq_true b2) (blt_lt b3) (Nat.ble_eq ▸ b4) h6 (Nat.eq_of_beq_eq_true h7) hl, ha, trivial, ⟨nxt_free (Nat.le_refl _) (blt_lt b5), trivial⟩⟩
          · cases h
        · cases h
      · cases h
    · cases h
  · cases h

def loadEv (P : Program) (st : St) (t : TypeId) (x : Operand) : Option R5 := match ev st.T x with
  | some (.ptr k off) => match lookH st.H k, P.underlying t, szP P t with
    | some ob, some de, some sz => match aggD de with
      | true => match Nat.beq (cut ob.c.flat off sz).length sz && Nat.blt 0 sz with
        | true => some ⟨[(x, .ptr k off)], [(k, ob)], [], .agg (cut ob.c.flat off sz), []⟩
        | false => none
      | false => match ob.c.flat[off]? with
        | some y => match y.isOne with
          | true => some ⟨[(x, .ptr k off)], [(k, ob)], [], y, []⟩
          | false => none
        | none => none
    | _, _, _ => none
  | _ => none
theorem loadEv_ok {st : St} {t : TypeId} {x : Operand} {r : R5} (hd : dlt N d = true) (h : loadEv P st t x = some r) : r.OK P N ⟨d, .load t x, ty, pos, after, g⟩ st := by
  unfold loadEv at h
  split at h
  · rename_i k off hx
    split at h
    · rename_i ob de sz ho hde hsz
      split at h
      · rename_i ha
        split at h
        · rename_i hb
          simp only [Bool.and_eq_true] at hb
          cases h
          exact ⟨OpRun.loadFA t x k off sz ob hd (fun w => by rw [aggP_run hde, ha]) (szP_run hsz) (Nat.eq_of_beq_eq_true hb.1) (blt_lt hb.2), ⟨hx, trivial⟩, ⟨ho, trivial⟩, trivial⟩
        · cases h
      · rename_i ha
        split at h
        · rename_i y hy
          split at h
          · rename_i h1
            cases h
            exact ⟨OpRun.loadF1 t x k off ob y hd (fun w => by rw [aggP_run hde, ha]) hy h1, ⟨hx, trivial⟩, ⟨ho, trivial⟩, trivial⟩
          · cases h
        · cases h
    · cases h
  · cases h

def storeEv (P : Program) (st : St) (t : TypeId) (x z : Operand) : Option R5 := match ev st.T x, ev st.T z with
  | some (.ptr k off), some y => match lookH st.H k, szP P t with
    | some ob, some sz => match Nat.beq y.flat.length sz && y.noTup && Nat.beq (cut ob.c.flat off sz).length sz && Nat.blt 0 sz with
      | true => some ⟨[(x, .ptr k off), (z, y)], [(k, ob)], [], .tup [], [(k, some ⟨.agg (splice ob.c.flat off y.flat), ob.grow⟩)]⟩
      | false => none
    | _, _ => none
  | _, _ => none
theorem storeEv_ok {st : St} {t : TypeId} {x z : Operand} {r : R5} (h : storeEv P st t x z = some r) : r.OK P N ⟨none, .store t x z, ty, pos, after, g⟩ st := by
  unfold storeEv at h
  split at h
  · rename_i k off y hx hz
    split at h
    · rename_i ob sz ho hsz
      split at h
      · rename_i hb
        simp only [Bool.and_eq_true] at hb
        obtain ⟨⟨⟨b1, b2⟩, b3⟩, b4⟩ := hb
        cases h
        exact ⟨OpRun.storeF t x z k off sz ob y (szP_run hsz) (Nat.eq_of_beq_eq_true b1) b2 (Nat.eq_of_beq_eq_true b3) (blt_lt b4), ⟨hx, hz, trivial⟩, ⟨ho, trivial⟩, trivial⟩
      · cases h
    · cases h
  · cases h

def nilCheckEv (st : St) (x : Operand) : Option R5 := match ev st.T x with
  | some (.ptr k off) => some ⟨[(x, .ptr k off)], [], [], .ptr k off, []⟩
  | _ => none
theorem nilCheckEv_ok {st : St} {x : Operand} {r : R5} (hd : dlt N d = true) (h : nilCheckEv st x = some r) : r.OK P N ⟨d, .nilCheck x, ty, pos, after, g⟩ st := by
  unfold nilCheckEv at h
  split at h
  · cases h; exact .mk1 (OpRun.nilCheckP x _ _ hd) (by assumption)
  · cases h

def fieldAddrEv (P : Program) (st : St) (s : TypeId) (x : Operand) (i : Nat) : Option R5 := match ev st.T x, P.underlying s with
  | some (.ptr k off), some (.struct fields) => match fields.toList[i]? with
    | some f => match szP P f.type with
      | some fsz => match Nat.beq fsz 0 with
        | false => some ⟨[(x, .ptr k off)], [], [], .ptr k (off + f.offset), []⟩
        | true => none
      | none => none
    | none => none
  | _, _ => none
theorem fieldAddrEv_ok {st : St} {s : TypeId} {x : Operand} {i : Nat} {r : R5} (hd : dlt N d = true) (h : fieldAddrEv P st s x i = some r) : r.OK P N ⟨d, .fieldAddr s x i, ty, pos, after, g⟩ st := by
  unfold fieldAddrEv at h
  split at h
  · rename_i k off fields hx hu
    split at h
    · rename_i f hf
      split at h
      · rename_i fsz hs
        split at h
        · cases h
          exact .mk1 (OpRun.fieldAddr s x i k off fsz fields f hd (run_underlying hu) (by simpa using hf) (szP_run hs) (by assumption)) hx
        · cases h
      · cases h
    · cases h
  · cases h

def fieldEv (P : Program) (st : St) (s : TypeId) (x : Operand) (i : Nat) : Option R5 := match ev st.T x, P.underlying s with
  | some (.agg fs), some (.struct fields) => match fields.toList[i]? with
    | some f => match szP P f.type, P.underlying f.type with
      | some fsz, some de => match partV (aggD de) (V.flats fs) f.offset fsz with
        | some y => some ⟨[(x, .agg fs)], [], [], y, []⟩
        | none => none
      | _, _ => none
    | none => none
  | _, _ => none
theorem partV_cases {b : Bool} {l : List V} {off sz : Nat} {y : V} (h : partV b l off sz = some y) : (b = true ∧ y = .agg (cut l off sz)) ∨ (b = false ∧ l[off]? = some y ∧ y.isOne = true) := by
  unfold partV at h
  split at h
  · cases h; exact .inl ⟨rfl, rfl⟩
  · split at h
    · split at h
      · cases h; exact .inr ⟨rfl, by assumption, by assumption⟩
      · cases h
    · cases h
theorem fieldEv_ok {st : St} {s : TypeId} {x : Operand} {i : Nat} {r : R5} (hd : dlt N d = true) (h : fieldEv P st s x i = some r) : r.OK P N ⟨d, .field s x i, ty, pos, after, g⟩ st := by
  unfold fieldEv at h
  split at h
  · rename_i fs fields hx hu
    split at h
    · rename_i f hf
      split at h
      · rename_i fsz de hs hde
        split at h
        · rename_i y hy
          cases h
          exact .mk1 (OpRun.fieldF s x i fsz (aggD de) fields f fs y hd (run_underlying hu) (by simpa using hf) (aggP_run hde) (szP_run hs) (partV_cases hy)) hx
        · cases h
      · cases h
    · cases h
  · cases h

/-- An index: within its bounds. -/
def idx (i : Int) (n : Nat) : Bool := match i with
  | .ofNat m => Nat.blt m n
  | _ => false
theorem idx_ok {i : Int} {n : Nat} (h : idx i n = true) : 0 ≤ i ∧ i < n := by
  unfold idx at h
  split at h
  · have := blt_lt h
    constructor
    · exact Int.natCast_nonneg _
    · exact Int.ofNat_lt.2 this
  · cases h

def indexAddrEv (P : Program) (st : St) (t : TypeId) (x z : Operand) : Option R5 := match ev st.T x, ev st.T z, P.underlying t with
  | some (.ptr k off), some (.v (.int kd i)), some (.array n e) => match szP P e, idx i n with
    | some sz, true => some ⟨[(x, .ptr k off), (z, .v (.int kd i))], [], [], .ptr k (off + i.toNat * sz), []⟩
    | _, _ => none
  | some (.osl k off n sz' cap), some (.v (.int kd i)), some (.slice e) => match szP P e, idx i n with
    | some sz, true => match Nat.beq sz sz' with
      | true => some ⟨[(x, .osl k off n sz' cap), (z, .v (.int kd i))], [], [], .ptr k (off + i.toNat * sz'), []⟩
      | false => none
    | _, _ => none
  | _, _, _ => none
theorem indexAddrEv_ok {st : St} {t : TypeId} {x z : Operand} {r : R5} (hd : dlt N d = true) (h : indexAddrEv P st t x z = some r) : r.OK P N ⟨d, .indexAddr t x z, ty, pos, after, g⟩ st := by
  unfold indexAddrEv at h
  split at h
  · rename_i k off kd i n e hx hz hu
    split at h
    · rename_i sz hs hi
      cases h
      exact .mk2 (OpRun.indexAddrP t e x z k off n sz kd i hd (run_underlying hu) (szP_run hs) (idx_ok hi).1 (idx_ok hi).2) hx hz
    · cases h
  · rename_i k off n sz' cap kd i e hx hz hu
    split at h
    · rename_i sz hs hi
      split at h
      · rename_i he
        have he := Nat.eq_of_beq_eq_true he
        subst he
        cases h
        exact .mk2 (OpRun.indexAddrO t e x z k off n sz cap kd i hd (run_underlying hu) (szP_run hs) (idx_ok hi).1 (idx_ok hi).2) hx hz
      · cases h
    · cases h
  · cases h

def indexEv (P : Program) (st : St) (t : TypeId) (x z : Operand) : Option R5 := match ev st.T x, ev st.T z, P.underlying t with
  | some (.agg fs), some (.v (.int kd i)), some (.array n e) => match szP P e, P.underlying e, idx i n with
    | some sz, some de, true => match partV (aggD de) (V.flats fs) (i.toNat * sz) sz with
      | some y => some ⟨[(x, .agg fs), (z, .v (.int kd i))], [], [], y, []⟩
      | none => none
    | _, _, _ => none
  | _, _, _ => none
theorem indexEv_ok {st : St} {t : TypeId} {x z : Operand} {r : R5} (hd : dlt N d = true) (h : indexEv P st t x z = some r) : r.OK P N ⟨d, .index t x z, ty, pos, after, g⟩ st := by
  unfold indexEv at h
  split at h
  · rename_i fs kd i n e hx hz hu
    split at h
    · rename_i sz de hs hde hi
      split at h
      · rename_i y hy
        cases h
        exact .mk2 (OpRun.indexF t e x z kd n sz (aggD de) fs i y hd (run_underlying hu) (aggP_run hde) (szP_run hs) (idx_ok hi).1 (idx_ok hi).2 (partV_cases hy)) hx hz
      · cases h
    · cases h
  · cases h

def extractEv (st : St) (x : Operand) (i : Nat) : Option R5 := match ev st.T x with
  | some (.tup l) => match l[i]? with
    | some y => some ⟨[(x, .tup l)], [], [], y, []⟩
    | none => none
  | _ => none
theorem extractEv_ok {st : St} {x : Operand} {i : Nat} {r : R5} (hd : dlt N d = true) (h : extractEv st x i = some r) : r.OK P N ⟨d, .extract x i, ty, pos, after, g⟩ st := by
  unfold extractEv at h
  split at h
  · split at h
    · cases h; exact .mk1 (OpRun.extract x i _ _ hd (by assumption)) (by assumption)
    · cases h
  · cases h

def s2apEv (P : Program) (st : St) (t : TypeId) (x : Operand) : Option R5 := match ev st.T x, P.underlying t with
  | some (.osl k off m sz cap), some (.array n _) => match Nat.ble n m && Nat.blt 0 n with
    | true => some ⟨[(x, .osl k off m sz cap)], [], [], .ptr k off, []⟩
    | false => none
  | _, _ => none
theorem s2apEv_ok {st : St} {t : TypeId} {x : Operand} {r : R5} (hd : dlt N d = true) (h : s2apEv P st t x = some r) : r.OK P N ⟨d, .sliceToArrayPointer t x, ty, pos, after, g⟩ st := by
  unfold s2apEv at h
  split at h
  · rename_i k off m sz cap n e hx hu
    split at h
    · rename_i hb
      simp only [Bool.and_eq_true] at hb
      cases h
      exact .mk1 (OpRun.s2apF t e x k off n m sz cap hd (run_underlying hu) (Nat.ble_eq ▸ hb.1) (blt_lt hb.2)) hx
    · cases h
  · cases h

def makeFuncEv (st : St) (f : Fn) (xs cs : List Operand) : Option R5 := match evs st.T xs, evs st.T cs with
  | some ys, some zs => match ys.all is0 && zs.all is0 with
    | true => some ⟨zipO xs ys ++ zipO cs zs, [], [], .fn f ys zs, []⟩
    | false => none
  | _, _ => none
theorem makeFuncEv_ok {st : St} {f : Fn} {xs cs : Array Operand} {r : R5} (hd : dlt N d = true) (h : makeFuncEv st f xs.toList cs.toList = some r) : r.OK P N ⟨d, .makeFunc f xs cs, ty, pos, after, g⟩ st := by
  unfold makeFuncEv at h
  split at h
  · rename_i ys zs h1 h2
    split at h
    · rename_i hb
      simp only [Bool.and_eq_true] at hb
      cases h
      obtain ⟨l1, a1⟩ := evs_ok h1
      obtain ⟨l2, a2⟩ := evs_ok h2
      have := OpRun.makeFuncF (P := P) (N := N) (d := d) (ty := ty) (pos := pos) (after := after) (g := g) f xs.toList cs.toList ys zs hd l1 l2 hb.1 hb.2
      exact ⟨by simpa using this, AllP.of_append a1 a2, trivial, trivial⟩
    · cases h
  · cases h

def makeSliceEv (P : Program) (st : St) (t : TypeId) (x y : Operand) : Option R5 := match ev st.T x, ev st.T y, P.underlying t with
  | some (.v (.int k (.ofNat l))), some (.v (.int k' (.ofNat c))), some (.slice e) => match P.info? e with
    | some i => match i.zero with
      | some zv => match zv.cells.toList.all good && Nat.beq zv.cells.toList.length i.size && Nat.blt 0 i.size && Nat.ble l c && Nat.ble (c * i.bytes) 16777216 && Nat.ble c 16777216 && Nat.blt (nxt st.H) 1000 with
        | true => some ⟨[(x, .v (.int k (.ofNat l))), (y, .v (.int k' (.ofNat c)))], [], [nxt st.H], .osl (nxt st.H) 0 l i.size (some c), [(nxt st.H, some ⟨.agg (rep c (zcellsV zv)), false⟩)]⟩
        | false => none
      | none => none
    | none => none
  | _, _, _ => none
theorem makeSliceEv_ok {st : St} {t : TypeId} {x y : Operand} {r : R5} (hd : dlt N d = true) (h : makeSliceEv P st t x y = some r) : r.OK P N ⟨d, .makeSlice t x y, ty, pos, after, g⟩ st := by
  unfold makeSliceEv at h
  split at h
  · rename_i k l k' c e hx hy hu
    split at h
    · rename_i i hi
      split at h
      · rename_i zv hz
        split at h
        · rename_i hb
          simp only [Bool.and_eq_true] at hb
          obtain ⟨⟨⟨⟨⟨⟨b1, b2⟩, b3⟩, b4⟩, b5⟩, b6⟩, b7⟩ := hb
          cases h
          exact ⟨OpRun.makeSliceF t e l c i.size _ k k' x y i zv hd b7 (run_underlying hu) hi rfl hz b1 (Nat.eq_of_beq_eq_true b2) (blt_lt b3) (Nat.ble_eq ▸ b4) (Nat.ble_eq ▸ b5) (Nat.ble_eq ▸ b6), ⟨hx, hy, trivial⟩, trivial, ⟨nxt_free (Nat.le_refl _) (blt_lt b7), trivial⟩⟩
        · cases h
      · cases h
    · cases h
  · cases h
end
end Go.X
