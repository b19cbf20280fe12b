/- Operations: literals of arrays and structs, lengths, elements of data, parts of values, equality. No program in sight. -/
import Derived.Test.YtlgaegjlgabggaaGreatXL
namespace Go.X
open Go

theorem ne_of_beqf {a b : Int} (h : (a == b) = false) : a ≠ b := by rintro rfl; simp at h
theorem ne_of_bnet {a b : Int} (h : (a != b) = true) : a ≠ b := by rintro rfl; simp at h
theorem eq_of_bnef {a b : Int} (h : (a != b) = false) : a = b := by simpa using h
theorem not_t {b : Bool} (h : b = false) : (!b) = true := by rw [h]; rfl
theorem not_f {b : Bool} (h : b = true) : (!b) = false := by rw [h]; rfl
theorem nn_t {b : Bool} (h : (!b) = true) : b = false := by cases b <;> simp at h ⊢
theorem nn_f {b : Bool} (h : (!b) = false) : b = true := by cases b <;> simp at h ⊢

def byV (x : List Int) : V := .sli .u8 x
def a32V (x : List Int) : V := .ints .u8 32 x
def boV (b : Bool) : V := .v (.bool b)
section
variable {P : Program} {N : Nat} {d : Option Tmp} {ty : TypeId} {pos : String} {after : Array Edge} {g : Option (Nat × Bool)}

/-- Nothing at all, as a slice. -/
theorem OpRun.nilI (k : IntKind) (hd : dlt N d = true) : OpRun P N ⟨d, .assign (.const (.slice none 0 0)), ty, pos, after, g⟩ [] [] [] (.sli k []) [] :=
  OpRun.val hd fun _ imm env _ a w _ _ _ H => ⟨.slice none 0 0, w, imm, env, rfl, H, .sliE k none 0⟩
theorem OpRun.nilL {α : Type} (f : α → V) (hd : dlt N d = true) : OpRun P N ⟨d, .assign (.const (.slice none 0 0)), ty, pos, after, g⟩ [] [] [] (.sl (List.map f [])) [] :=
  OpRun.val hd fun _ imm env _ a w _ _ _ H => ⟨.slice none 0 0, w, imm, env, rfl, H, .slE none 0⟩

/- Literals. -/
def setAll : List Int → List Nat → List Int → List Int
  | xs, i :: is, q :: qs => setAll (xs.set i q) is qs
  | xs, _, _ => xs
theorem setAll_length : ∀ (is : List Nat) (qs xs : List Int), (setAll xs is qs).length = xs.length
  | [], _, _ => by simp [setAll]
  | _ :: _, [], _ => by simp [setAll]
  | i :: is, q :: qs, xs => by simp only [setAll]; rw [setAll_length is qs]; simp

theorem fill_ints (k : IntKind) : ∀ (is : List Nat) (qs xs : List Int), is.length = qs.length → (is.all fun i => Nat.blt i xs.length) = true →
    Instr.fill (fun i => some (i * 1, 1)) (xs.map (Value.int k)).toArray (is.zip (qs.map (Value.int k))) = some ((setAll xs is qs).map (Value.int k)).toArray
  | [], [], xs, _, _ => rfl
  | i :: is, q :: qs, xs, hl, h => by
    simp only [List.all_cons, Bool.and_eq_true] at h
    have hi := blt_lt h.1
    simp only [List.map_cons, List.zip_cons_cons, Instr.fill, setAll]
    have e1 : (Value.int k q).cells = #[Value.int k q] := rfl
    rw [e1, if_neg (by simp; omega)]
    have e2 : (Array.zipIdx #[Value.int k q]).foldl (fun cs (x : Value × Nat) => cs.setIfInBounds (i * 1 + x.2) x.1) (xs.map (Value.int k)).toArray = ((xs.set i q).map (Value.int k)).toArray := by
      simp [Array.zipIdx, List.map_set]
    have := fill_ints k is qs (xs.set i q) (by simpa using hl) (by simpa using h.2)
    simp only [e2]
    exact this
  | [], _ :: _, _, hl, _ => by simp at hl
  | _ :: _, [], _, hl, _ => by simp at hl

theorem zipO_good {B : Base} {imm : Imm} {env : Env} {st : St} {a : Act} {w : World} (H : Holds B N imm env st a w) (k : IntKind) : ∀ (xs : List Operand) (qs : List Int), xs.length = qs.length → AllP (fun p => ev st.T p.1 = some p.2) (zipO xs (qs.map fun q => V.v (.int k q))) → InR k qs
  | [], [], _, _ => fun x hx => by cases hx
  | x :: xs, q :: qs, hl, h => fun y hy => by
    cases hy with
    | head => exact good_int.1 (H.good h.1)
    | tail _ hy => exact zipO_good H k xs qs (by simpa using hl) h.2 y hy
  | [], _ :: _, hl, _ => by simp at hl
  | _ :: _, [], hl, _ => by simp at hl
theorem setAll_good (k : IntKind) : ∀ (is : List Nat) (qs xs : List Int), InR k qs → InR k xs → InR k (setAll xs is qs)
  | [], _, _, _, h => by simpa [setAll] using h
  | _ :: _, [], _, _, h => by simpa [setAll] using h
  | i :: is, q :: qs, xs, hq, h => by
    simp only [setAll]
    refine setAll_good k is qs _ (fun x hx => hq x (.tail _ hx)) fun x hx => ?_
    rcases List.mem_or_eq_of_mem_set hx with h1 | h1
    · exact h x h1
    · rw [h1]; exact hq q (.head _)
theorem InR.zeros (k : IntKind) (n : Nat) : InR k (List.replicate n 0) := fun x hx => by
  rw [List.eq_of_mem_replicate hx]; exact ⟨IntKind.min_le k, IntKind.max_ge k⟩

theorem zipO_ints {B : Base} {imm : Imm} {env : Env} {st : St} {a : Act} {w : World} (H : Holds B N imm env st a w) (k : IntKind) : ∀ (xs : List Operand) (qs : List Int), xs.length = qs.length → AllP (fun p => ev st.T p.1 = some p.2) (zipO xs (qs.map fun q => V.v (.int k q))) → xs.map a.eval = qs.map (Value.int k)
  | [], [], _, _ => rfl
  | x :: xs, q :: qs, hl, h => by
    rw [List.map_cons, List.map_cons, int_ev H h.1, zipO_ints H k xs qs (by simpa using hl) h.2]
  | [], _ :: _, hl, _ => by simp at hl
  | _ :: _, [], hl, _ => by simp at hl

theorem OpRun.buildA (t e : TypeId) (n : Nat) (k : IntKind) (is : List Nat) (xs : List Operand) (qs : List Int) (hd : dlt N d = true) (hu : ∀ w, (underlying t).run P w = .ok (.array n e) w) (hs : ∀ w, (sizeOf e).run P w = .ok 1 w)
    (hz : ∀ w, (zeroValue t).run P w = .ok (.agg ((List.replicate n 0).map (Value.int k)).toArray) w) (hi : (is.all fun i => Nat.blt i n) = true) (hl : xs.length = qs.length) (hl2 : is.length = xs.length) :
    OpRun P N ⟨d, .build t (is.zip xs).toArray, ty, pos, after, g⟩ (zipO xs (qs.map fun q => .v (.int k q))) [] [] (.ints k n (setAll (List.replicate n 0) is qs)) [] :=
  OpRun.val hd fun B imm env st a w h _ _ H => by
    have hx := zipO_ints H k xs qs hl h
    have hmap : (is.zip xs).map (fun p => (p.1, a.eval p.2)) = is.zip (qs.map (Value.int k)) := by
      rw [← hx, List.zip_map_right]; rfl
    have hf := fill_ints k is qs (List.replicate n 0) (by omega) (by simpa using hi)
    refine ⟨.agg ((setAll (List.replicate n 0) is qs).map (Value.int k)).toArray, w, imm, env, ?_, H, ⟨by rw [setAll_length]; simp, setAll_good k is qs _ (zipO_good H k xs qs hl h) (InR.zeros k n), rfl⟩⟩
    have hmap' : Array.map (fun x : Nat × Operand => (x.fst, a.eval x.snd)) (is.zip xs).toArray = (is.zip (qs.map (Value.int k))).toArray := by
      rw [List.map_toArray, hmap]
    simp only [execOp, Instr.build, hmap', Sem.run_bind, hz, hu, hs, Result.andThen_ok, Value.cells, hf, Sem.run_pure]

/- Structs. -/
def putAll (pl : List (Nat × Nat)) : V → List Nat → List V → Option V
  | z, [], [] => some z
  | z, i :: is, y :: ys => match pl[i]? with
    | some p => match Nat.beq (V.size y) p.2 && y.noTup with
      | true => match V.put y z p.1 with
        | some z' => putAll pl z' is ys
        | none => none
      | false => none
    | none => none
  | _, _, _ => none

theorem foldl_cells (vs : List Value) : ∀ (off j0 : Nat) (cells : Array Value), off + j0 + vs.length ≤ cells.size →
    ((vs.zipIdx j0).foldl (fun cs (x : Value × Nat) => cs.setIfInBounds (off + x.2) x.1) cells).toList = cells.toList.take (off + j0) ++ vs ++ cells.toList.drop (off + j0 + vs.length) := by
  induction vs with
  | nil => intro off j0 cells _; simp
  | cons v vs ih =>
    intro off j0 cells h
    simp only [List.length_cons] at h
    simp only [List.zipIdx_cons, List.foldl_cons]
    rw [ih off (j0 + 1) _ (by simp; omega)]
    simp only [Array.toList_setIfInBounds, List.length_cons]
    have e : off + j0 < cells.toList.length := by simp; omega
    rw [List.drop_set, if_pos (by omega)]
    have e1 : (cells.toList.set (off + j0) v).take (off + (j0 + 1)) = cells.toList.take (off + j0) ++ [v] := by
      apply List.ext_getElem?
      intro i
      rw [List.getElem?_take, List.getElem?_set, List.getElem?_append, List.length_take, List.getElem?_take]
      have : min (off + j0) cells.toList.length = off + j0 := by omega
      rw [this]
      by_cases c1 : i < off + j0
      · rw [if_pos (by omega), if_neg (by omega), if_pos c1, if_pos c1]
      · by_cases c2 : off + j0 = i
        · subst c2; simp [e]; omega
        · rw [if_neg (by omega), if_neg c1]
          rw [List.getElem?_eq_none (by simp; omega)]
    rw [e1]
    simp only [List.append_assoc, List.singleton_append]
    congr 3
    omega

theorem fill_put {imm : Imm} {env : Env} {w : World} (pl : List (Nat × Nat)) : ∀ (is : List Nat) (ys : List V) (us : List Value) (z r : V) (cells : Array Value), RepL (RepV imm env w) ys us → V.ok z → RepL (Rep1 imm env w) z.flat cells.toList → putAll pl z is ys = some r →
    ∃ cells', Instr.fill (fun i => pl[i]?) cells (is.zip us) = some cells' ∧ V.ok r ∧ RepL (Rep1 imm env w) r.flat cells'.toList
  | [], [], us, z, r, cells, hu, hok, hc, h => by
    simp only [putAll] at h; cases h
    exact ⟨cells, by simp [Instr.fill], hok, hc⟩
  | i :: is, y :: ys, us, z, r, cells, hu, hok, hc, h => by
    obtain ⟨u, us', rfl, h1, h2⟩ := hu.cons_inv
    simp only [putAll] at h
    split at h
    · rename_i p hp
      split at h
      · rename_i hb
        simp only [Bool.and_eq_true] at hb
        split at h
        · rename_i z' hz'
          have hsz := Nat.eq_of_beq_eq_true hb.1
          have hy := (RepC_of_V (V.noTup_ne hb.2) h1).cells
          obtain ⟨h3, h4, h5, h6⟩ := V.put_spec hy.1 hok hz'
          have hyl := V.flat_length y hy.1
          have hzl := V.flat_length z hok
          have hul : u.cells.toList.length = V.size y := by rw [hy.2.1, hyl]
          have hcl : cells.toList.length = V.size z := by rw [hc.1, hzl]
          have hfold : ((u.cells.zipIdx).foldl (fun cs (x : Value × Nat) => cs.setIfInBounds (p.1 + x.2) x.1) cells).toList = cells.toList.take p.1 ++ u.cells.toList ++ cells.toList.drop (p.1 + V.size y) := by
            have := foldl_cells u.cells.toList p.1 0 cells (by simp at hcl ⊢; simp at hul; omega)
            rw [← hul]
            rw [Nat.add_zero] at this
            rw [← this, ← Array.foldl_toList, Array.toList_zipIdx]
          obtain ⟨cells', h7, h8, h9⟩ := fill_put pl is ys us' z' r ((u.cells.zipIdx).foldl (fun cs (x : Value × Nat) => cs.setIfInBounds (p.1 + x.2) x.1) cells) h2 h3 (by rw [h6, hfold]; exact ((hc.take _).append hy.2).append (hc.drop _)) h
          refine ⟨cells', ?_, h8, h9⟩
          simp only [List.zip_cons_cons, Instr.fill, hp]
          have hul2 : u.cells.size = V.size y := by simpa using hul
          have hcl2 : cells.size = V.size z := by simpa using hcl
          rw [if_neg (by simp only [Bool.or_eq_true, decide_eq_true_eq, not_or]; constructor <;> omega)]
          exact h7
        · cases h
      · cases h
    · cases h
  | [], _ :: _, _, _, _, _, _, _, _, h => by simp [putAll] at h
  | _ :: _, [], _, _, _, _, _, _, _, h => by simp [putAll] at h

def placesRun (P : Program) : List Field → List Nat → Prop
  | [], [] => True
  | f :: fs, n :: ns => (∀ w, (sizeOf f.type).run P w = .ok n w) ∧ placesRun P fs ns
  | _, _ => False
def placesOf : List Field → List Nat → List (Nat × Nat)
  | f :: fs, n :: ns => (f.offset, n) :: placesOf fs ns
  | _, _ => []
theorem placesRun_run (w : World) : ∀ (fs : List Field) (ns : List Nat), placesRun P fs ns → (fs.mapM fun f => (do pure (f.offset, ← sizeOf f.type) : Sem (Nat × Nat))).run P w = .ok (placesOf fs ns) w
  | [], [], _ => by simp [placesOf]
  | f :: fs, n :: ns, h => by
    have ih := placesRun_run w fs ns h.2
    simp only [List.mapM_cons, Sem.run_bind, h.1, Result.andThen_ok, Sem.run_pure, ih, placesOf]
  | [], _ :: _, h => h.elim
  | _ :: _, [], h => h.elim

theorem OpRun.buildS (t : TypeId) (is : List Nat) (xs : List Operand) (ys : List V) (fl : List Field) (ns : List Nat) (zv : Value) (z r : V) (hd : dlt N d = true) (hu : ∀ w, (underlying t).run P w = .ok (.struct fl.toArray) w) (hp : placesRun P fl ns)
    (hz : ∀ w, (zeroValue t).run P w = .ok zv w) (hzr : ∀ imm env w, RepC imm env w z zv) (hput : putAll (placesOf fl ns) z is ys = some r) (hr : r.isAgg = true) (hl : xs.length = ys.length) (hl2 : is.length = xs.length) :
    OpRun P N ⟨d, .build t (is.zip xs).toArray, ty, pos, after, g⟩ (zipO xs ys) [] [] r [] :=
  OpRun.val hd fun B imm env st a w h _ _ H => by
    have hx := zipO_rep H xs ys hl h
    have hzc := (hzr imm env w).cells
    obtain ⟨cells', h1, h2, h3⟩ := fill_put (placesOf fl ns) is ys (xs.map a.eval) z r zv.cells hx hzc.1 hzc.2 hput
    refine ⟨.agg cells', w, imm, env, ?_, H, RepV_of_C ?_⟩
    · have hmap' : Array.map (fun x : Nat × Operand => (x.fst, a.eval x.snd)) (is.zip xs).toArray = (is.zip (xs.map a.eval)).toArray := by
        rw [List.map_toArray, List.zip_map_right]; rfl
      have hpl : (fl.toArray.mapM fun f => (do pure (f.offset, ← sizeOf f.type) : Sem (Nat × Nat))).run P w = .ok (placesOf fl ns).toArray w := by
        rw [List.mapM_toArray]
        rw [map_eq_pure_bind]
        simp only [Sem.run_bind, placesRun_run w fl ns hp, Result.andThen_ok, Sem.run_pure]
      have hf : Instr.fill (fun i => (placesOf fl ns).toArray[i]?) zv.cells (is.zip (xs.map a.eval)) = some cells' := by
        simpa using h1
      simp only [execOp, Instr.build, hmap', Sem.run_bind, hz, hu, hpl, Result.andThen_ok, hf, Sem.run_pure]
    · have := RepC.of_cells (x := r) (l := cells'.toList) h2 h3 (by cases r <;> simp [V.isAgg] at hr <;> simp)
      simpa using this
end

end Go.X
