/- Flat values: comparisons, strings. No program in sight. -/
import Derived.Test.YtlgaegjlgabggaaGreatYA
namespace Go.X
open Go

/- COMPARISONS. -/
def ptrNil : V → Option Bool
  | .v (.pointer none) => some true
  | .ptr _ _ => some false
  | .dptr _ => some false
  | _ => none
theorem ptrNil_rep {imm : Imm} {env : Env} {w : World} {x : V} {b : Bool} {u : Value} (h : ptrNil x = some b) (hx : RepC imm env w x u) : (b = true ∧ u = .pointer none) ∨ (b = false ∧ ∃ a, u = .pointer (some a)) := by
  unfold ptrNil at h
  split at h
  · cases h; cases hx; exact .inl ⟨rfl, rfl⟩
  · cases h; obtain ⟨r, _, _, hx⟩ := hx; exact .inr ⟨rfl, _, hx⟩
  · cases h
    obtain ⟨b, off, cs, hx, _⟩ := dptr_inv hx
    exact .inr ⟨rfl, _, hx⟩
  · cases h
def fnNil : V → Option Bool
  | .v .nilFunc => some true
  | .fn _ _ _ => some false
  | _ => none
theorem fnNil_rep {imm : Imm} {env : Env} {w : World} {x : V} {b : Bool} {u : Value} (h : fnNil x = some b) (hx : RepC imm env w x u) : (b = true ∧ u = .nilFunc) ∨ (b = false ∧ ∃ f a c, u = .func f a c) := by
  unfold fnNil at h
  split at h
  · cases h; cases hx; exact .inl ⟨rfl, rfl⟩
  · cases h; obtain ⟨as, cs, hx, _⟩ := hx; exact .inr ⟨rfl, _, _, _, hx⟩
  · cases h
def slNil : V → Option Bool
  | .v (.slice none 0 0) => some true
  | .osl _ off n _ _ => match Nat.beq (off + n) 0 with
    | true => none
    | false => some false
  | _ => none
theorem slNil_rep {imm : Imm} {env : Env} {w : World} {x : V} {b : Bool} {u : Value} (h : slNil x = some b) (hx : RepC imm env w x u) : (b = true ∧ u = .slice none 0 0) ∨ (b = false ∧ ∃ a n c, u = .slice (some a) n c) := by
  unfold slNil at h
  split at h
  · cases h; cases hx; exact .inl ⟨rfl, rfl⟩
  · split at h
    · cases h
    · rename_i off n sz cap hz
      cases h
      obtain ⟨r, hr, ⟨hn, c, hx, _⟩ | ⟨_, h0, h1, _⟩⟩ := hx
      · exact .inr ⟨rfl, _, _, _, hx⟩
      · subst h0; subst h1; cases hz
  · cases h

/-- Two values of one cell each, of a type: are they alike? -/
def eq1 (t : TypeDesc) (x y : V) : Option Bool :=
  match t with
  | .int _ => match x, y with
    | .v (.int k a), .v (.int k' b) => match decide (k = k') with
      | true => some (decide (a = b))
      | false => none
    | _, _ => none
  | .bool => match x, y with
    | .v (.bool a), .v (.bool b) => some (a == b)
    | _, _ => none
  | .pointer _ => match ptrNil x, ptrNil y with
    | some true, some b => some b
    | some false, some true => some false
    | _, _ => none
  | .slice _ => match slNil x, slNil y with
    | some true, some b => some b
    | some false, some true => some false
    | _, _ => none
  | .func _ _ _ => match fnNil x, fnNil y with
    | some true, some b => some b
    | some false, some true => some false
    | _, _ => none
  | _ => none

theorem eq1_run {P : Program} {d : Nat} {t : TypeId} {de : TypeDesc} {x y : V} {b : Bool} (ht : P.underlying t = some de) (h : eq1 de x y = some b) : EqRun P (d + 1) t x y b := by
  intro imm env w u v hu hv
  unfold eq1 at h
  split at h
  · split at h
    · split at h
      · rename_i hk
        have hk := of_decide_eq_true hk
        subst hk
        cases h; cases hu; cases hv
        rw [run_equalIn_int w d t _ _ _ _ ht]
        congr 1
      · cases h
    · cases h
  · split at h
    · cases h; cases hu; cases hv
      exact run_equalIn_bool w d t _ _ ht
    · cases h
  · rw [Op.equalIn]
    simp only [Sem.run_bind, run_underlying ht, Result.andThen_ok]
    split at h
    · rename_i h1 h2
      cases h
      rcases ptrNil_rep h1 hu with ⟨_, rfl⟩ | ⟨h, _⟩
      · rcases ptrNil_rep h2 hv with ⟨rfl, rfl⟩ | ⟨rfl, a, rfl⟩ <;> rfl
      · cases h
    · rename_i h1 h2
      cases h
      rcases ptrNil_rep h1 hu with ⟨h, _⟩ | ⟨_, a, rfl⟩
      · cases h
      · rcases ptrNil_rep h2 hv with ⟨_, rfl⟩ | ⟨h, _⟩
        · rfl
        · cases h
    · cases h
  · rw [Op.equalIn]
    simp only [Sem.run_bind, run_underlying ht, Result.andThen_ok]
    split at h
    · rename_i h1 h2
      cases h
      rcases slNil_rep h1 hu with ⟨_, rfl⟩ | ⟨h, _⟩
      · rcases slNil_rep h2 hv with ⟨rfl, rfl⟩ | ⟨rfl, a, n, c, rfl⟩ <;> rfl
      · cases h
    · rename_i h1 h2
      cases h
      rcases slNil_rep h1 hu with ⟨h, _⟩ | ⟨_, a, n, c, rfl⟩
      · cases h
      · rcases slNil_rep h2 hv with ⟨_, rfl⟩ | ⟨h, _⟩
        · rfl
        · cases h
    · cases h
  · rw [Op.equalIn]
    simp only [Sem.run_bind, run_underlying ht, Result.andThen_ok]
    split at h
    · rename_i h1 h2
      cases h
      rcases fnNil_rep h1 hu with ⟨_, rfl⟩ | ⟨h, _⟩
      · rcases fnNil_rep h2 hv with ⟨rfl, rfl⟩ | ⟨rfl, f, a, c, rfl⟩ <;> rfl
      · cases h
    · rename_i h1 h2
      cases h
      rcases fnNil_rep h1 hu with ⟨h, _⟩ | ⟨_, f, a, c, rfl⟩
      · cases h
      · rcases fnNil_rep h2 hv with ⟨_, rfl⟩ | ⟨h, _⟩
        · rfl
        · cases h
    · cases h
  · cases h

/-- A part of a value's cells, of a type. -/
def partV (b : Bool) (l : List V) (off sz : Nat) : Option V :=
  match b with
  | true => some (.agg (cut l off sz))
  | false => match l[off]? with
    | some y => match y.isOne with
      | true => some y
      | false => none
    | none => none
theorem partV_run {P : Program} {imm : Imm} {env : Env} {w : World} {l : List V} {arr : Array Value} (h : RepL (Rep1 imm env w) l arr.toList) {t : TypeId} {off sz : Nat} {de : TypeDesc} {y : V} (ht : P.underlying t = some de) (hs : szP P t = some sz) (hlf : ∀ y, y ∈ l → Leaf y)
    (hy : partV (aggD de) l off sz = some y) : ∃ u, (part t arr off).run P w = .ok u w ∧ RepC imm env w y u := by
  have := run_part (P := P) h t off sz (aggD de) (aggP_run ht) (szP_run hs) hlf y (by
    unfold partV at hy
    split at hy
    · rename_i hb; cases hy; exact .inl ⟨hb, rfl⟩
    · rename_i hb
      split at hy
      · split at hy
        · cases hy; rename_i h1 h2; exact .inr ⟨hb, h1, h2⟩
        · cases hy
      · cases hy)
  obtain ⟨u, h1, h2⟩ := this
  refine ⟨u, h1, RepC_of_V ?_ h2⟩
  unfold partV at hy
  split at hy
  · cases hy; intro l e; cases e
  · split at hy
    · split at hy
      · cases hy; rename_i h2; intro l e; subst e; cases h2
      · cases hy
    · cases hy

section
variable (P : Program) (rec : TypeId → V → V → Option Bool)
def eqFs (xs ys : List V) : List Field → Option Bool
  | [] => some true
  | f :: r => match decide (f.name = "_"), P.underlying f.type, szP P f.type with
    | false, some de, some sz => match partV (aggD de) xs f.offset sz, partV (aggD de) ys f.offset sz with
      | some p, some q => match rec f.type p q with
        | some true => eqFs xs ys r
        | r => r
      | _, _ => none
    | _, _, _ => none
def eqAs (e : TypeId) (de : TypeDesc) (sz : Nat) (xs ys : List V) : List Nat → Option Bool
  | [] => some true
  | i :: r => match partV (aggD de) xs (i * sz) sz, partV (aggD de) ys (i * sz) sz with
    | some p, some q => match rec e p q with
      | some true => eqAs e de sz xs ys r
      | r => r
    | _, _ => none
end
def eqF (P : Program) : Nat → TypeId → V → V → Option Bool
  | 0, _, _, _ => none
  | d + 1, t, x, y => match P.underlying t with
    | some (.struct fs) => match x, y, P.stoodInHeld t with
      | .agg xs, .agg ys, false => eqFs P (eqF P d) (V.flats xs) (V.flats ys) fs.toList
      | _, _, _ => none
    | some (.array n e) => match x, y, P.underlying e, szP P e with
      | .agg xs, .agg ys, some de, some sz => eqAs (eqF P d) e de sz (V.flats xs) (V.flats ys) (List.range' 0 n 1)
      | _, _, _, _ => none
    | some de => eq1 de x y
    | none => none

theorem eqF_run {P : Program} : ∀ (d : Nat) (t : TypeId) (x y : V) (b : Bool), eqF P d t x y = some b → ∀ c, EqRun P (d + c) t x y b
  | 0, _, _, _, _, h, _ => by simp [eqF] at h
  | d + 1, t, x, y, b, h, c => by
    rw [show d + 1 + c = (d + c) + 1 by omega]
    simp only [eqF] at h
    split at h
    · rename_i fs ht
      split at h
      · rename_i xs ys hp
        intro imm env w u v hu hv
        obtain ⟨_, a1, rfl, r1⟩ := hu
        obtain ⟨_, a2, rfl, r2⟩ := hv
        have hfo : P.fieldsOf t = fs := by simp [Program.fieldsOf, ht]
        rw [run_equalIn_agg w (d + c) t a1 a2 (by rw [hfo]; exact ht) hp, hfo]
        generalize fs.toList = l at h
        induction l generalizing b with
        | nil => simp only [eqFs] at h; cases h; simp [Op.eqFields]
        | cons f r ih =>
          simp only [eqFs] at h
          split at h
          · rename_i de sz hn hde hsz
            have hn := of_decide_eq_false hn
            split at h
            · rename_i p q hp1 hq1
              obtain ⟨u, h1, h2⟩ := partV_run (P := P) r1 hde hsz (fun y hy => flats_leaf _ _ hy) hp1
              obtain ⟨v, h3, h4⟩ := partV_run (P := P) r2 hde hsz (fun y hy => flats_leaf _ _ hy) hq1
              have hn' : f.name ≠ "_" := hn
              split at h
              · rename_i he
                have e := eqF_run d _ _ _ _ he c imm env w u v h2 h4
                simp only [Op.eqFields, if_pos hn', Sem.run_bind, h1, h3, e, Result.andThen_ok]
                simp only [Bool.not_true, Bool.false_eq_true, if_false]
                exact ih b h
              · rename_i he
                have hb : b = false := by
                  cases b with
                  | false => rfl
                  | true => exact absurd h he
                subst hb
                have e := eqF_run d _ _ _ _ h c imm env w u v h2 h4
                simp [Op.eqFields, if_pos hn', Sem.run_bind, h1, h3, e, Result.andThen_ok]
            · cases h
          · cases h
      · cases h
    · rename_i n e ht
      split at h
      · rename_i xs ys de sz hde hsz
        intro imm env w u v hu hv
        obtain ⟨_, a1, rfl, r1⟩ := hu
        obtain ⟨_, a2, rfl, r2⟩ := hv
        rw [Op.equalIn]
        simp only [Sem.run_bind, run_underlying ht, Result.andThen_ok, szP_run hsz, Std.Legacy.Range.forIn_eq_forIn_range', Std.Legacy.Range.size, Nat.sub_zero, Nat.add_sub_cancel, Nat.div_one]
        generalize List.range' 0 n 1 = l at h
        induction l generalizing b with
        | nil => simp only [eqAs] at h; cases h; simp
        | cons i r ih =>
          simp only [eqAs] at h
          split at h
          · rename_i p q hp1 hq1
            obtain ⟨u, h1, h2⟩ := partV_run (P := P) r1 hde hsz (fun y hy => flats_leaf _ _ hy) hp1
            obtain ⟨v, h3, h4⟩ := partV_run (P := P) r2 hde hsz (fun y hy => flats_leaf _ _ hy) hq1
            split at h
            · rename_i he
              have e := eqF_run d _ _ _ _ he c imm env w u v h2 h4
              simp only [List.forIn_cons, Sem.run_bind, h1, h3, e, Result.andThen_ok]
              simp only [Bool.not_true, Bool.false_eq_true, if_false, Sem.run_pure, Result.andThen_ok]
              exact ih b h
            · rename_i he
              have hb : b = false := by
                cases b with
                | false => rfl
                | true => exact absurd h he
              subst hb
              have e := eqF_run d _ _ _ _ h c imm env w u v h2 h4
              simp [List.forIn_cons, Sem.run_bind, h1, h3, e, Result.andThen_ok]
          · cases h
      · cases h
    · exact eq1_run (by assumption) h
    · cases h

/-- What a comparison's guard lets by. -/
def gOK (P : Program) (t : TypeId) (x y : V) : Bool :=
  match x, y with
  | .agg _, .agg _ => !(P.eqGuardType P.depth t)
  | .v (.bool _), .v (.bool _) => true
  | .v (.pointer none), _ => true
  | .ptr _ _, _ => true
  | .v (.slice none _ _), _ => true
  | .osl _ _ _ _ _, _ => true
  | .v .nilFunc, _ => true
  | .fn _ _ _, _ => true
  | _, _ => false

section
variable {P : Program} {N : Nat} {d : Option Tmp} {ty : TypeId} {pos : String} {after : Array Edge} {g : Option (Nat × Bool)}

theorem eq_ops {imm : Imm} {env : Env} {w : World} {t : TypeId} {x y : V} {u v : Value} (o p : Operand) (h : gOK P t x y = true) (hx : RepC imm env w x u) (hy : RepC imm env w y v) {b : Bool} (he : (Op.equal t u v).run P w = .ok b w) :
    (eqGuard .eql t o p u v).run P w = .ok () w ∧ (eqGuard .neq t o p u v).run P w = .ok () w ∧ (binOp .eql t u v).run P w = .ok (.bool b) w ∧ (binOp .neq t u v).run P w = .ok (.bool (!b)) w := by
  have key : (∃ a c, u = .agg a ∧ v = .agg c ∧ P.eqGuardType P.depth t = false) ∨ (∃ a c, u = .bool a ∧ v = .bool c) ∨ (∃ a, u = .pointer a) ∨ (∃ a n c, u = .slice a n c) ∨ u = .nilFunc ∨ (∃ f a c, u = .func f a c) := by
    unfold gOK at h
    split at h
    · obtain ⟨_, a, rfl, _⟩ := hx
      obtain ⟨_, c, rfl, _⟩ := hy
      exact .inl ⟨a, c, rfl, rfl, by simpa using h⟩
    · cases hx; cases hy; exact .inr (.inl ⟨_, _, rfl, rfl⟩)
    · cases hx; exact .inr (.inr (.inl ⟨_, rfl⟩))
    · obtain ⟨r, _, _, rfl⟩ := hx; exact .inr (.inr (.inl ⟨_, rfl⟩))
    · cases hx; exact .inr (.inr (.inr (.inl ⟨_, _, _, rfl⟩)))
    · obtain ⟨r, _, ⟨_, c, rfl, _⟩ | ⟨_, _, _, rfl⟩⟩ := hx <;> exact .inr (.inr (.inr (.inl ⟨_, _, _, rfl⟩)))
    · cases hx; exact .inr (.inr (.inr (.inr (.inl rfl))))
    · obtain ⟨as, cs, rfl, _⟩ := hx; exact .inr (.inr (.inr (.inr (.inr ⟨_, _, _, rfl⟩))))
    · cases h
  rcases key with ⟨a, c, rfl, rfl, hm⟩ | ⟨a, c, rfl, rfl⟩ | ⟨a, rfl⟩ | ⟨a, n, c, rfl⟩ | rfl | ⟨f, a, c, rfl⟩
  · exact ⟨run_eqGuard_agg w .eql t o p a c hm, run_eqGuard_agg w .neq t o p a c hm, by simp [binOp, he], by simp [binOp, he]⟩
  · exact ⟨rfl, rfl, by simp [binOp, he], by simp [binOp, he]⟩
  all_goals
    refine ⟨?_, ?_, ?_, ?_⟩
    · cases v <;> rfl
    · cases v <;> rfl
    · cases v <;> simp [binOp, he]
    · cases v <;> simp [binOp, he]

theorem OpRun.eqlF (t u : TypeId) (x y : Operand) (p q : V) (b : Bool) (hd : dlt N d = true) (hg : gOK P t p q = true) (hp : p.noTup = true) (hq : q.noTup = true) (he : eqF P 20 t p q = some b) :
    OpRun P N ⟨d, .binOp .eql t x y u, ty, pos, after, g⟩ [(x, p), (y, q)] [] [] (.v (.bool b)) [] :=
  OpRun.val hd fun B imm env st a w h _ _ H => by
    have hx := RepC_of_V (V.noTup_ne hp) (H.ev h.1)
    have hy := RepC_of_V (V.noTup_ne hq) (H.ev h.2.1)
    simp only at hx hy
    obtain ⟨h1, h2, h3, h4⟩ := eq_ops x y hg hx hy (eqF_run 20 t p q b he 9980 imm env w _ _ hx hy)
    exact ⟨.bool b, w, imm, env, by simp [execOp, h1, h3], H, .v _ rfl⟩
theorem OpRun.neqF (t u : TypeId) (x y : Operand) (p q : V) (b : Bool) (hd : dlt N d = true) (hg : gOK P t p q = true) (hp : p.noTup = true) (hq : q.noTup = true) (he : eqF P 20 t p q = some b) :
    OpRun P N ⟨d, .binOp .neq t x y u, ty, pos, after, g⟩ [(x, p), (y, q)] [] [] (.v (.bool (!b))) [] :=
  OpRun.val hd fun B imm env st a w h _ _ H => by
    have hx := RepC_of_V (V.noTup_ne hp) (H.ev h.1)
    have hy := RepC_of_V (V.noTup_ne hq) (H.ev h.2.1)
    simp only at hx hy
    obtain ⟨h1, h2, h3, h4⟩ := eq_ops x y hg hx hy (eqF_run 20 t p q b he 9980 imm env w _ _ hx hy)
    exact ⟨.bool (!b), w, imm, env, by simp [execOp, h2, h4], H, .v _ rfl⟩

/- STRINGS. -/
theorem OpRun.eqlStr (t u : TypeId) (x y : Operand) (a b : ByteArray) (hd : dlt N d = true) :
    OpRun P N ⟨d, .binOp .eql t x y u, ty, pos, after, g⟩ [(x, .v (.string a)), (y, .v (.string b))] [] [] (.v (.bool (a.data.toList == b.data.toList))) [] :=
  OpRun.bin .eql t u x y _ _ _ hd (fun w => by simp [binOp, Op.stringOp, Go.ByteArray.toList_eq]) (fun _ => rfl) (fun _ _ => rfl)
theorem OpRun.neqStr (t u : TypeId) (x y : Operand) (a b : ByteArray) (hd : dlt N d = true) :
    OpRun P N ⟨d, .binOp .neq t x y u, ty, pos, after, g⟩ [(x, .v (.string a)), (y, .v (.string b))] [] [] (.v (.bool (!(a.data.toList == b.data.toList)))) [] :=
  OpRun.bin .neq t u x y _ _ _ hd (fun w => by simp [binOp, Op.stringOp, Go.ByteArray.toList_eq]) (fun _ => rfl) (fun _ _ => rfl)

def bytesV : List V → Option (List Int)
  | [] => some []
  | .v (.int .u8 n) :: r => match bytesV r with
    | some l => some (n :: l)
    | none => none
  | _ => none
theorem bytesV_rep {imm : Imm} {env : Env} {w : World} : ∀ {l : List V} {ns : List Int} {us : List Value}, bytesV l = some ns → RepL (Rep1 imm env w) l us → us = ns.map (Value.int .u8)
  | [], ns, us, h, hr => by simp only [bytesV] at h; cases h; rw [hr.nil_inv]; rfl
  | x :: r, ns, us, h, hr => by
    obtain ⟨u, t, rfl, h1, h2⟩ := hr.cons_inv
    unfold bytesV at h
    split at h
    · rename_i heq; cases heq
    · rename_i n r' heq
      cases heq
      split at h
      · rename_i l hl
        cases h
        cases h1
        rw [bytesV_rep hl h2]; rfl
      · cases h
    · cases h
def strOf (ns : List Int) : ByteArray := ns.foldl (fun r n => r.push (UInt8.ofNat n.toNat)) ByteArray.empty
theorem OpRun.b2s (s t e : TypeId) (x : Operand) (k off n : Nat) (cap : Option Nat) (ob : Ob) (ns : List Int) (hd : dlt N d = true) (hs : P.underlying s = some (.slice e)) (he : P.underlying e = some (.int .u8)) (ht : P.underlying t = some .string)
    (hle : (cut ob.c.flat off (n * 1)).length = n * 1) (h0 : 0 < n * 1) (hb : bytesV (cut ob.c.flat off (n * 1)) = some ns) :
    OpRun P N ⟨d, .convert s t x, ty, pos, after, g⟩ [(x, .osl k off n 1 cap)] [(k, ob)] [] (.v (.string (strOf ns))) [] :=
  OpRun.val hd fun B imm env st a w h h2 _ H => by
    obtain ⟨r, c, arr, cs, hr, hn, hy, _, _, _, _, _, R, _, hl, hrep, hcells⟩ := H.sliceCells (H.ev h.1) h2.1 hle h0
    simp only at hy
    have hcs := bytesV_rep hb hrep
    have hload := run_loadCells_list (P := P) w ⟨r.blk, off, none⟩ cs hcells
    rw [hl, Nat.mul_one, hcs] at hload
    refine ⟨.string (strOf ns), w, imm, env, ?_, H, .v _ rfl⟩
    have hr1 := run_convert_bytes_string (P := P) w s t e (some ⟨r.blk, off, none⟩) n c hs he ht
    rw [run_bytesToString w _ n c ns hload] at hr1
    simp [execOp, hy, hr1, strOf]
theorem OpRun.b2s0 (s t e : TypeId) (x : Operand) (p : V) (hd : dlt N d = true) (hs : P.underlying s = some (.slice e)) (he : P.underlying e = some (.int .u8)) (ht : P.underlying t = some .string) (hp : isEmpty0 p = true) :
    OpRun P N ⟨d, .convert s t x, ty, pos, after, g⟩ [(x, p)] [] [] (.v (.string (strOf []))) [] :=
  OpRun.val hd fun B imm env st a w h h2 _ H => by
    obtain ⟨o, c, hx⟩ := isEmpty0_rep hp (H.ev h.1)
    simp only at hx
    refine ⟨.string (strOf []), w, imm, env, ?_, H, .v _ rfl⟩
    have hr1 := run_convert_bytes_string (P := P) w s t e o 0 c hs he ht
    cases o with
    | none => simp [execOp, hx, hr1, Conv.bytesToString, strOf]
    | some a' =>
      rw [run_bytesToString w _ 0 c [] (by simp [loadCells, loadCellsFrom])] at hr1
      simp [execOp, hx, hr1, strOf]
end
end Go.X
