/- Flat values: rules for what is built, made, grown, copied, cut. No program in sight. -/
import Derived.Test.YtlgaegjlgabggaaGreatXV
namespace Go.X
open Go

/- WHAT THE TYPES' TABLE TELLS. -/
def szP (P : Program) (t : TypeId) : Option Nat := match P.info? t with | some i => some i.size | none => none
def zeroP (P : Program) (t : TypeId) : Option Value := match P.info? t with | some i => i.zero | none => none
def aggD : TypeDesc → Bool
  | .struct _ | .array _ _ => true
  | _ => false
theorem szP_run {P : Program} {t : TypeId} {n : Nat} (h : szP P t = some n) (w : World) : (sizeOf t).run P w = .ok n w := by
  unfold szP at h
  split at h
  · rename_i i hi; cases h; simp [sizeOf, typeInfo, hi]
  · cases h
theorem zeroP_run {P : Program} {t : TypeId} {z : Value} (h : zeroP P t = some z) (w : World) : (zeroValue t).run P w = .ok z w := by
  unfold zeroP at h
  split at h
  · rename_i i hi; simp [zeroValue, typeInfo, hi, h]
  · cases h
theorem undP_run {P : Program} {t : TypeId} {d : TypeDesc} (h : P.underlying t = some d) (w : World) : (underlying t).run P w = .ok d w := run_underlying h w
theorem aggP_run {P : Program} {t : TypeId} {d : TypeDesc} (h : P.underlying t = some d) (w : World) : (isAgg t).run P w = .ok (aggD d) w := by
  unfold isAgg aggD
  simp only [Sem.run_bind, run_underlying h, Result.andThen_ok]
  cases d <;> rfl

/- WHAT IS PUT TOGETHER. -/
def fillV (place : Nat → Option (Nat × Nat)) : List V → List Nat → List V → Option (List V)
  | l, [], [] => some l
  | l, i :: is, y :: ys => match place i with
    | none => none
    | some p => match Nat.beq y.flat.length p.2 && Nat.ble (p.1 + p.2) l.length && y.noTup with
      | true => fillV place (splice l p.1 y.flat) is ys
      | false => none
  | _, _, _ => none

theorem fill_flat {imm : Imm} {env : Env} {w : World} (place : Nat → Option (Nat × Nat)) : ∀ (is : List Nat) (ys : List V) (us : List Value) (l r : List V) (cells : Array Value), RepL (RepV imm env w) ys us → (∀ y, y ∈ l → Leaf y) → RepL (Rep1 imm env w) l cells.toList → fillV place l is ys = some r →
    ∃ cells', Instr.fill place cells (is.zip us) = some cells' ∧ (∀ y, y ∈ r → Leaf y) ∧ RepL (Rep1 imm env w) r cells'.toList
  | [], [], us, l, r, cells, hu, hok, hc, h => by
    simp only [fillV] at h; cases h
    exact ⟨cells, by simp [Instr.fill], hok, hc⟩
  | i :: is, y :: ys, us, l, r, cells, hu, hok, hc, h => by
    obtain ⟨u, us', rfl, h1, h2⟩ := hu.cons_inv
    simp only [fillV] at h
    split at h
    · cases h
    · rename_i p hp
      split at h
      · rename_i hb
        simp only [Bool.and_eq_true] at hb
        have hsz := Nat.eq_of_beq_eq_true hb.1.1
        have hle : p.1 + p.2 ≤ l.length := Nat.ble_eq ▸ hb.1.2
        have hy := (RepC_of_V (V.noTup_ne hb.2) h1).cells
        have hul : u.cells.toList.length = p.2 := by rw [hy.2.1, hsz]
        have hcl : cells.toList.length = l.length := hc.1
        have hfold : ((u.cells.zipIdx).foldl (fun cs (x : Value × Nat) => cs.setIfInBounds (p.1 + x.2) x.1) cells).toList = cells.toList.take p.1 ++ (u.cells.toList ++ cells.toList.drop (p.1 + y.flat.length)) := by
          have := foldl_cells u.cells.toList p.1 0 cells (by simp at hcl ⊢; simp at hul; omega)
          rw [hsz, ← hul]
          rw [Nat.add_zero] at this
          rw [← List.append_assoc, ← this, ← Array.foldl_toList, Array.toList_zipIdx]
        obtain ⟨cells', h7, h8, h9⟩ := fill_flat place is ys us' (splice l p.1 y.flat) r ((u.cells.zipIdx).foldl (fun cs (x : Value × Nat) => cs.setIfInBounds (p.1 + x.2) x.1) cells) h2 (fun z hz => by
            rcases splice_mem hz with h | h
            · exact hok z h
            · exact flat_leaf _ _ h)
          (by rw [hfold]; exact (hc.take _).append (hy.2.append (hc.drop _))) h
        refine ⟨cells', ?_, h8, h9⟩
        simp only [List.zip_cons_cons, Instr.fill, hp]
        have hul2 : u.cells.size = p.2 := by simpa using hul
        have hcl2 : cells.size = l.length := by simpa using hcl
        rw [if_neg (by simp only [Bool.or_eq_true, decide_eq_true_eq, not_or]; constructor <;> omega)]
        exact h7
      · cases h
  | [], _ :: _, _, _, _, _, _, _, _, h => by simp [fillV] at h
  | _ :: _, [], _, _, _, _, _, _, _, h => by simp [fillV] at h

def sizesP (P : Program) : List Field → Option (List Nat)
  | [] => some []
  | f :: r => match szP P f.type, sizesP P r with
    | some n, some ns => some (n :: ns)
    | _, _ => none
theorem sizesP_run {P : Program} : ∀ {fs : List Field} {ns : List Nat}, sizesP P fs = some ns → placesRun P fs ns
  | [], ns, h => by simp only [sizesP] at h; cases h; trivial
  | f :: r, ns, h => by
    simp only [sizesP] at h
    split at h
    · rename_i n ns' h1 h2
      cases h
      exact ⟨szP_run h1, sizesP_run h2⟩
    · cases h

section
variable {P : Program} {N : Nat} {d : Option Tmp} {ty : TypeId} {pos : String} {after : Array Edge} {g : Option (Nat × Bool)}

def zcellsV (z : Value) : List V := z.cells.toList.map V.v
theorem zcells_good {z : Value} (h : (z.cells.toList.all good) = true) (imm : Imm) (env : Env) (w : World) : RepL (Rep1 imm env w) (zcellsV z) z.cells.toList := RepL_good h

theorem mapPairs (ev : Operand → Value) (is : List Nat) (xs : List Operand) : Array.map (fun x : Nat × Operand => (x.fst, ev x.snd)) (is.zip xs).toArray = (is.zip (xs.map ev)).toArray := by
  rw [List.map_toArray, List.zip_map_right]; rfl
theorem unzipPairs (l : List (Nat × Operand)) : (l.map (·.1)).zip (l.map (·.2)) = l := by
  induction l with
  | nil => rfl
  | cons p r ih => simp [ih]

theorem OpRun.buildF (t : TypeId) (is : List Nat) (xs : List Operand) (ys : List V) (fl : List Field) (ns : List Nat) (zv : Value) (r : List V) (hd : dlt N d = true) (hu : ∀ w, (underlying t).run P w = .ok (.struct fl.toArray) w) (hp : placesRun P fl ns)
    (hz : ∀ w, (zeroValue t).run P w = .ok zv w) (hzr : (zv.cells.toList.all good) = true) (hput : fillV (fun i => (placesOf fl ns)[i]?) (zcellsV zv) is ys = some r) (hl : xs.length = ys.length) :
    OpRun P N ⟨d, .build t (is.zip xs).toArray, ty, pos, after, g⟩ (zipO xs ys) [] [] (.agg r) [] :=
  OpRun.val hd fun B imm env st a w h _ _ H => by
    have hx := zipO_rep H xs ys hl h
    obtain ⟨cells', h1, h2, h3⟩ := fill_flat (fun i => (placesOf fl ns)[i]?) is ys (xs.map a.eval) _ r zv.cells hx leaf_map (zcells_good hzr imm env w) hput
    refine ⟨.agg cells', w, imm, env, ?_, H, RepV_of_C ?_⟩
    · have hpl : (fl.toArray.mapM fun f => (do pure (f.offset, ← sizeOf f.type) : Sem (Nat × Nat))).run P w = .ok (placesOf fl ns).toArray w := by
        rw [List.mapM_toArray]
        rw [map_eq_pure_bind]
        simp only [Sem.run_bind, placesRun_run w fl ns hp, Result.andThen_ok, Sem.run_pure]
      have hf : Instr.fill (fun i => (placesOf fl ns).toArray[i]?) zv.cells (is.zip (xs.map a.eval)) = some cells' := by
        simpa using h1
      simp only [execOp, Instr.build, mapPairs, Sem.run_bind, hz, hu, hpl, Result.andThen_ok, hf, Sem.run_pure]
    · have := RepC.cellsOf h2 h3
      simpa using this

theorem OpRun.buildAF (t e : TypeId) (n sz : Nat) (is : List Nat) (xs : List Operand) (ys : List V) (zv : Value) (r : List V) (hd : dlt N d = true) (hu : ∀ w, (underlying t).run P w = .ok (.array n e) w) (hs : ∀ w, (sizeOf e).run P w = .ok sz w)
    (hz : ∀ w, (zeroValue t).run P w = .ok zv w) (hzr : (zv.cells.toList.all good) = true) (hput : fillV (fun i => some (i * sz, sz)) (zcellsV zv) is ys = some r) (hl : xs.length = ys.length) :
    OpRun P N ⟨d, .build t (is.zip xs).toArray, ty, pos, after, g⟩ (zipO xs ys) [] [] (.agg r) [] :=
  OpRun.val hd fun B imm env st a w h _ _ H => by
    have hx := zipO_rep H xs ys hl h
    obtain ⟨cells', h1, h2, h3⟩ := fill_flat (fun i => some (i * sz, sz)) is ys (xs.map a.eval) _ r zv.cells hx leaf_map (zcells_good hzr imm env w) hput
    refine ⟨.agg cells', w, imm, env, ?_, H, RepV_of_C ?_⟩
    · simp only [execOp, Instr.build, mapPairs, Sem.run_bind, hz, hu, hs, Result.andThen_ok, h1, Sem.run_pure]
    · have := RepC.cellsOf h2 h3
      simpa using this

/-- A new row. -/
theorem Holds.rowF {B : Base} {imm : Imm} {env : Env} {st : St} {a : Act} {w : World} (H : Holds B N imm env st a w) {j : Nat} (hj : look st.H j = none) (hlo : j < 1000) {ys : List V} (hlf : ∀ y, y ∈ ys → Leaf y) {cells : Array Value} (h : RepL (Rep1 imm env w) ys (cells.toList.take ys.length)) (hle : ys.length ≤ cells.size) (t : TypeId) (grow : Bool) (hg : grow = false → ys.length = cells.size) (kd : Option Nat) (hkd : ∀ k, kd = some k → ∃ ob, lookH st.H k = some ob) {w0 : World}
    (h0 : w0.heap = w.heap ∧ w0.os = w.os ∧ w0.tape = w.tape ∧ w0.output = w.output) :
    Holds B N imm (env.set j ⟨w.heap.size, cells.size, t, false⟩) ⟨st.T, (j, some ⟨.agg ys, grow⟩) :: ((kd.toList.map fun k => (k, none)) ++ st.H)⟩ a (w0.alloc (.cells cells t)) ∧ env.set j ⟨w.heap.size, cells.size, t, false⟩ j = some ⟨w.heap.size, cells.size, t, false⟩ := by
  obtain ⟨e1, e2, e3, e4⟩ := h0
  have hs := flats_of_leaf ys hlf
  refine ⟨?_, by simp [Env.set]⟩
  have hold : ∀ b, b < w.heap.size → (w0.alloc (.cells cells t)).heap[b]? = w.heap[b]? := fun b hb => by
    rw [← e1] at hb ⊢; exact heap_alloc_old w0 _ hb
  have hnew : (w0.alloc (.cells cells t)).heap[w.heap.size]? = some (.cells cells t) := by rw [← e1]; exact heap_alloc_new w0 _
  refine H.newobj kd (w' := w0.alloc (.cells cells t)) e2 e3 e4 (by rw [← e1]; simp) (fun b hb _ => hold b hb) hkd hj hlo (r' := ⟨w.heap.size, cells.size, t, false⟩) (fun _ => .inl (Nat.le_refl _)) ?_
  refine ⟨hs.2.1, .inr ⟨rfl, cells, hnew, rfl, by simp only [V.size, hs.2.2]; exact hle, fun hgr => by simp only [V.size, hs.2.2]; exact hg hgr, ?_⟩⟩
  simp only [V.flat, V.size, hs.1, hs.2.2]
  exact h.imp fun _ _ => Rep1.mono (fun _ h => h) (fun _ _ h => h) fun b hb => hold b (H.heap.immlt b hb)

theorem range_zero (zero : Array Value) (n : Nat) (h : zero.size ≠ 0) : ∀ m, m = n * zero.size → ((Array.range m).map (zero[· % zero.size]!)).toList = (List.range m).map (fun i => zero[i % zero.size]!) := by
  intro m _; simp

def rep (n : Nat) (l : List V) : List V := match n with
  | 0 => []
  | n + 1 => l ++ rep n l
theorem rep_length (l : List V) : ∀ n, (rep n l).length = n * l.length
  | 0 => by simp [rep]
  | n + 1 => by simp only [rep, List.length_append, rep_length l n, Nat.succ_mul]; omega
theorem rep_mem {l : List V} {y : V} : ∀ {n}, y ∈ rep n l → y ∈ l
  | 0, h => by simp [rep] at h
  | n + 1, h => by
    simp only [rep, List.mem_append] at h
    rcases h with h | h
    · exact h
    · exact rep_mem h
def repW (n : Nat) (l : List Value) : List Value := match n with
  | 0 => []
  | n + 1 => l ++ repW n l
theorem rep_repW {imm : Imm} {env : Env} {w : World} {l : List V} {us : List Value} (h : RepL (Rep1 imm env w) l us) : ∀ n, RepL (Rep1 imm env w) (rep n l) (repW n us)
  | 0 => RepL.nil _
  | n + 1 => h.append (rep_repW h n)
theorem repW_get (l : List Value) (hl : l.length ≠ 0) : ∀ (n i : Nat), i < n * l.length → (repW n l)[i]? = some (l[i % l.length]!)
  | 0, i, h => by simp at h
  | n + 1, i, h => by
    simp only [repW]
    by_cases hi : i < l.length
    · rw [List.getElem?_append_left hi, Nat.mod_eq_of_lt hi]
      simp [getElem!_def, List.getElem?_eq_getElem hi]
    · rw [List.getElem?_append_right (by omega)]
      rw [repW_get l hl n (i - l.length) (by rw [Nat.succ_mul] at h; omega)]
      have : i % l.length = (i - l.length) % l.length := by
        conv => lhs; rw [show i = (i - l.length) + l.length by omega]
        rw [Nat.add_mod_right]
      rw [this]
theorem repW_length (l : List Value) : ∀ n, (repW n l).length = n * l.length
  | 0 => by simp [repW]
  | n + 1 => by simp only [repW, List.length_append, repW_length l n, Nat.succ_mul]; omega
theorem range_repW (zero : Array Value) (n : Nat) (h : zero.size ≠ 0) : (Array.range (n * zero.size)).map (zero[· % zero.size]!) = (repW n zero.toList).toArray := by
  apply Array.ext'
  apply List.ext_getElem?
  intro i
  by_cases hi : i < n * zero.size
  · rw [repW_get zero.toList (by simpa using h) n i (by simpa using hi)]
    simp [hi]
    have : i % zero.size < zero.size := Nat.mod_lt _ (by omega)
    simp [getElem!_def, this]
  · rw [List.getElem?_eq_none (by simp; omega), List.getElem?_eq_none (by simp [repW_length]; omega)]

theorem OpRun.buildSliceF (t e : TypeId) (n sz j : Nat) (is : List Nat) (xs : List Operand) (ys : List V) (zv : Value) (r : List V) (hd : dlt N d = true) (hlo : Nat.blt j 1000 = true) (hu : ∀ w, (underlying t).run P w = .ok (.slice e) w) (hs : ∀ w, (sizeOf e).run P w = .ok sz w)
    (hz : ∀ w, (zeroValue e).run P w = .ok zv w) (hzr : (zv.cells.toList.all good) = true) (hzs : zv.cells.toList.length = sz) (hsz : 0 < sz) (hm : n * sz ≤ 16777216) (hput : fillV (fun i => some (i * sz, sz)) (rep n (zcellsV zv)) is ys = some r) (hrl : r.length = n * sz) (hl : xs.length = ys.length) :
    OpRun P N ⟨d, .buildSlice t n (is.zip xs).toArray, ty, pos, after, g⟩ (zipO xs ys) [] [j] (.osl j 0 n sz (some n)) [(j, some ⟨.agg r, false⟩)] :=
  OpRun.val hd fun B imm env st a w h _ h3' H => by
    have hx := zipO_rep H xs ys hl h
    have hzs' : zv.cells.size = sz := by simpa using hzs
    have hz0 : zv.cells.size ≠ 0 := by omega
    have hrow : (if n * sz = 0 then (#[] : Array Value) else (Array.range (n * sz)).map (zv.cells[· % zv.cells.size]!)) = (repW n zv.cells.toList).toArray := by
      split
      · rename_i h0
        have : n = 0 := by rcases Nat.mul_eq_zero.1 h0 with h | h <;> omega
        subst this; rfl
      · rw [← hzs']; exact range_repW _ _ hz0
    obtain ⟨cells', h1, h2, h3⟩ := fill_flat (imm := imm) (env := env) (w := w) (fun i => some (i * sz, sz)) is ys (xs.map a.eval) _ r (repW n zv.cells.toList).toArray hx (fun y hy => leaf_map y (rep_mem hy)) (rep_repW (zcells_good hzr imm env w) n) hput
    have hcl : cells'.size = n * sz := by rw [← hrl, ← h3.1]; simp
    obtain ⟨h4, h5⟩ := H.rowF h3'.1 (blt_lt hlo) h2 (cells := cells') (by rw [List.take_of_length_le (by rw [h3.1]; exact Nat.le_refl _)]; exact h3) (by omega) e false (fun _ => by omega) none (fun k hk => by cases hk) (w0 := w) ⟨rfl, rfl, rfl, rfl⟩
    refine ⟨.slice (some ⟨w.heap.size, 0, none⟩) n n, w.alloc (.cells cells' e), imm, _, ?_, h4, ?_⟩
    · have h16 : ¬ n * sz > 2 ^ 24 := by omega
      have hmp := mapPairs a.eval is xs
      simp only [execOp, hmp]
      clear hx hput hl h
      generalize is.zip (xs.map a.eval) = pr at *
      by_cases h0 : n * sz = 0
      · have hn0 : n = 0 := by rcases Nat.mul_eq_zero.1 h0 with h | h <;> omega
        subst hn0
        simp only [repW] at h1
        simp [Instr.buildSlice, hu, hs, show Array.range 0 = #[] from rfl, h1, newRow]
      · have hr' := hrow
        rw [if_neg h0] at hr'
        simp [Instr.buildSlice, hu, hs, h16, h0, hz, hr', h1, newRow]
    · refine ⟨_, h5, .inl ⟨rfl, n, rfl, Nat.le_refl _, ?_, ?_, fun _ => hcl.symm, fun m hm => by cases hm; rfl⟩⟩
      · simp only [maxLen]
        have := Nat.le_mul_of_pos_right n hsz
        omega
      · simp only [hcl]; omega

theorem OpRun.makeSliceF (t e : TypeId) (l c sz j : Nat) (k k' : IntKind) (x y : Operand) (i : TypeInfo) (zv : Value) (hd : dlt N d = true) (hlo : Nat.blt j 1000 = true) (hu : ∀ w, (underlying t).run P w = .ok (.slice e) w) (hi : P.info? e = some i) (hs : i.size = sz)
    (hz : i.zero = some zv) (hzr : (zv.cells.toList.all good) = true) (hzs : zv.cells.toList.length = sz) (hsz : 0 < sz) (hlc : l ≤ c) (hb : c * i.bytes ≤ 16777216) (hcm : c ≤ 16777216) :
    OpRun P N ⟨d, .makeSlice t x y, ty, pos, after, g⟩ [(x, .v (.int k l)), (y, .v (.int k' c))] [] [j] (.osl j 0 l sz (some c)) [(j, some ⟨.agg (rep c (zcellsV zv)), false⟩)] :=
  OpRun.val hd fun B imm env st a w h _ h3' H => by
    have hx := int_ev H h.1
    have hy := int_ev H h.2.1
    simp only at hx hy
    have hzs' : zv.cells.size = sz := by simpa using hzs
    have hz0 : zv.cells.size ≠ 0 := by omega
    have hrl : (rep c (zcellsV zv)).length = c * sz := by rw [rep_length]; simp [zcellsV, hzs']
    have hcl : (repW c zv.cells.toList).length = c * sz := by rw [repW_length, hzs]
    obtain ⟨h4, h5⟩ := H.rowF h3'.1 (blt_lt hlo) (ys := rep c (zcellsV zv)) (fun y hy => leaf_map y (rep_mem hy)) (cells := (repW c zv.cells.toList).toArray) (by rw [hrl, ← hcl]; simp only [List.take_length]; exact rep_repW (zcells_good hzr imm env w) c) (by simp [hrl, hcl]) e false (fun _ => by simp [hrl, hcl]) none (fun k hk => by cases hk) (w0 := w) ⟨rfl, rfl, rfl, rfl⟩
    refine ⟨.slice (some ⟨w.heap.size, 0, none⟩) l c, w.alloc (.cells (repW c zv.cells.toList).toArray e), imm, _, ?_, h4, ?_⟩
    · have hwc : IntKind.i64.wrap (c : Int) = c := nw64 (by omega) (by omega)
      have hwl : IntKind.i64.wrap (l : Int) = l := nw64 (by omega) (by omega)
      have hbi : (i.bytes : Int) * (c : Int) ≤ 16777216 := by
        have : ((c * i.bytes : Nat) : Int) ≤ ((16777216 : Nat) : Int) := Int.ofNat_le.2 hb
        rw [Int.natCast_mul] at this; rw [Int.mul_comm]; exact this
      have h1 : ¬ (281474976710656 : Int) < (i.bytes : Int) * (c : Int) := by omega
      have h2 : ¬ ((c : Int) < 0) := by omega
      have h2' : ¬ ((l : Int) < 0) := by omega
      have h2'' : ¬ ((c : Int) < (l : Int)) := by omega
      have h3 : ¬ roomBytes < c * i.bytes := by unfold roomBytes; omega
      by_cases h0 : c * sz = 0
      · have hc0 : c = 0 := by rcases Nat.mul_eq_zero.1 h0 with h | h <;> omega
        subst hc0
        have hl0 : l = 0 := by omega
        subst hl0
        have hw0 : IntKind.i64.wrap 0 = 0 := by decide
        simp [execOp, Instr.makeSlice, hx, hy, hu, typeInfo, hi, asInt, asIntOf, hw0, askRoom, sizeOf, newRow, repW, show Array.range 0 = #[] from rfl]
      · have hr' : (Array.range (c * sz)).map (zv.cells[· % zv.cells.size]!) = (repW c zv.cells.toList).toArray := by rw [← hzs']; exact range_repW _ _ hz0
        simp [execOp, Instr.makeSlice, hx, hy, hu, typeInfo, hi, asInt, asIntOf, hwc, hwl, h1, h2, h2', h2'', askRoom, if_neg h3, sizeOf, zeroValue, hz, hs, h0, hr', newRow]
    · refine ⟨_, h5, .inl ⟨rfl, c, rfl, hlc, ?_, ?_, fun _ => by simp [hcl], fun m hm => by cases hm; rfl⟩⟩
      · simp only [maxLen]; omega
      · simp [hcl]
end
end Go.X
