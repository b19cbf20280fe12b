/- A reckoner of single operations: numbers, comparisons, cuts, builtins. No program in sight. -/
import Derived.Test.YtlgaegjlgabggaaGreatYC
namespace Go.X
open Go

section
variable {P : Program} {N : Nat} {d : Option Tmp} {ty : TypeId} {pos : String} {after : Array Edge} {g : Option (Nat × Bool)}

/-- Two numbers of one kind. -/
def arith (op : BinOp) (k : IntKind) (a b : Int) : Option Value :=
  match op with
  | .add => some (.int k (k.wrap (a + b)))
  | .sub => some (.int k (k.wrap (a - b)))
  | .mul => some (.int k (k.wrap (a * b)))
  | .quo => match decide (b = 0) with | true => none | false => some (.int k (k.wrap (a.tdiv b)))
  | .rem => match decide (b = 0) with | true => none | false => some (.int k (a.tmod b))
  | .and => some (.int k (bitsOf .and k a b))
  | .or => some (.int k (bitsOf .or k a b))
  | .xor => some (.int k (bitsOf .xor k a b))
  | .andNot => some (.int k (bitsOf .andNot k a b))
  | .eql => some (.bool (cmpOf .eql a b))
  | .neq => some (.bool (cmpOf .neq a b))
  | .lss => some (.bool (cmpOf .lss a b))
  | .leq => some (.bool (cmpOf .leq a b))
  | .gtr => some (.bool (cmpOf .gtr a b))
  | .geq => some (.bool (cmpOf .geq a b))
  | _ => none
theorem arith_run {op : BinOp} {k : IntKind} {a b : Int} {v : Value} (t u : TypeId) (x y : Operand) (hd : dlt N d = true) (h : arith op k a b = some v) :
    OpRun P N ⟨d, .binOp op t x y u, ty, pos, after, g⟩ [(x, .v (.int k a)), (y, .v (.int k b))] [] [] (.v v) [] := by
  unfold arith at h
  split at h
  · cases h; exact OpRun.add t u x y k a b _ hd rfl
  · cases h; exact OpRun.sub t u x y k a b _ hd rfl
  · cases h; exact OpRun.mul t u x y k a b _ hd rfl
  · split at h
    · cases h
    · cases h; exact OpRun.quo t u x y k a b _ hd (of_decide_eq_false (by assumption)) rfl
  · split at h
    · cases h
    · cases h; exact OpRun.rem t u x y k a b _ hd (of_decide_eq_false (by assumption)) rfl
  · cases h; exact OpRun.bits .and t u x y k a b _ hd rfl rfl
  · cases h; exact OpRun.bits .or t u x y k a b _ hd rfl rfl
  · cases h; exact OpRun.bits .xor t u x y k a b _ hd rfl rfl
  · cases h; exact OpRun.bits .andNot t u x y k a b _ hd rfl rfl
  · cases h; exact OpRun.cmp .eql t u x y k a b _ hd rfl rfl
  · cases h; exact OpRun.cmp .neq t u x y k a b _ hd rfl rfl
  · cases h; exact OpRun.cmp .lss t u x y k a b _ hd rfl rfl
  · cases h; exact OpRun.cmp .leq t u x y k a b _ hd rfl rfl
  · cases h; exact OpRun.cmp .gtr t u x y k a b _ hd rfl rfl
  · cases h; exact OpRun.cmp .geq t u x y k a b _ hd rfl rfl
  · cases h
def shift (op : BinOp) (k : IntKind) (a : Int) (b : Nat) : Option Value :=
  match op with
  | .shl => some (.int k (k.wrap (a * 2 ^ (min b k.bits))))
  | .shr => some (.int k (a.fdiv (2 ^ (min b k.bits))))
  | _ => none
theorem shift_run {op : BinOp} {k k' : IntKind} {a : Int} {b : Nat} {v : Value} (t u : TypeId) (x y : Operand) (hd : dlt N d = true) (h : shift op k a b = some v) :
    OpRun P N ⟨d, .binOp op t x y u, ty, pos, after, g⟩ [(x, .v (.int k a)), (y, .v (.int k' (.ofNat b)))] [] [] (.v v) [] := by
  unfold shift at h
  split at h
  · cases h; exact OpRun.shl t u x y k k' a (.ofNat b) _ hd (Int.natCast_nonneg b) rfl
  · cases h; exact OpRun.shr t u x y k k' a (.ofNat b) _ hd (Int.natCast_nonneg b) rfl
  · cases h

def isEq : BinOp → Option Bool
  | .eql => some true
  | .neq => some false
  | _ => none
def eqEv (P : Program) (op : BinOp) (t : TypeId) (x y : Operand) (p q : V) : Option R5 := match isEq op, gOK P t p q && p.noTup && q.noTup, eqF P 20 t p q with
  | some true, true, some b => some ⟨[(x, p), (y, q)], [], [], .v (.bool b), []⟩
  | some false, true, some b => some ⟨[(x, p), (y, q)], [], [], .v (.bool (!b)), []⟩
  | _, _, _ => none
theorem eqEv_ok {st : St} {op : BinOp} {t u : TypeId} {x y : Operand} {p q : V} {r : R5} (hd : dlt N d = true) (hx : ev st.T x = some p) (hy : ev st.T y = some q) (h : eqEv P op t x y p q = some r) : r.OK P N ⟨d, .binOp op t x y u, ty, pos, after, g⟩ st := by
  unfold eqEv at h
  split at h
  · rename_i b h1 h2 h3
    simp only [Bool.and_eq_true] at h2
    cases h
    unfold isEq at h1
    split at h1
    · exact .mk2 (OpRun.eqlF t u x y p q b hd h2.1.1 h2.1.2 h2.2 h3) hx hy
    · cases h1
    · cases h1
  · rename_i b h1 h2 h3
    simp only [Bool.and_eq_true] at h2
    cases h
    unfold isEq at h1
    split at h1
    · cases h1
    · exact .mk2 (OpRun.neqF t u x y p q b hd h2.1.1 h2.1.2 h2.2 h3) hx hy
    · cases h1
  · cases h
def isShift : BinOp → Bool
  | .shl | .shr => true
  | _ => false
def binEv (P : Program) (st : St) (op : BinOp) (t : TypeId) (x y : Operand) : Option R5 := match ev st.T x, ev st.T y with
  | some (.v (.int k a)), some (.v (.int k' b)) => match isShift op with
    | true => match b with
      | .ofNat m => match shift op k a m with
        | some v => some ⟨[(x, .v (.int k a)), (y, .v (.int k' (.ofNat m)))], [], [], .v v, []⟩
        | none => none
      | _ => none
    | false => match decide (k' = k) with
      | true => match arith op k a b with
        | some v => some ⟨[(x, .v (.int k a)), (y, .v (.int k b))], [], [], .v v, []⟩
        | none => none
      | false => none
  | some (.v (.string a)), some (.v (.string b)) => match isEq op with
    | some true => some ⟨[(x, .v (.string a)), (y, .v (.string b))], [], [], .v (.bool (a.data.toList == b.data.toList)), []⟩
    | some false => some ⟨[(x, .v (.string a)), (y, .v (.string b))], [], [], .v (.bool (!(a.data.toList == b.data.toList))), []⟩
    | none => none
  | some p, some q => eqEv P op t x y p q
  | _, _ => none
theorem binEv_ok {st : St} {op : BinOp} {t u : TypeId} {x y : Operand} {r : R5} (hd : dlt N d = true) (h : binEv P st op t x y = some r) : r.OK P N ⟨d, .binOp op t x y u, ty, pos, after, g⟩ st := by
  unfold binEv at h
  split at h
  · rename_i k a k' b hx hy
    split at h
    · split at h
      · rename_i m
        split at h
        · cases h; exact .mk2 (shift_run t u x y hd (by assumption)) hx hy
        · cases h
      · cases h
    · split at h
      · rename_i hk
        have hk := of_decide_eq_true hk
        subst hk
        split at h
        · cases h; exact .mk2 (arith_run t u x y hd (by assumption)) hx hy
        · cases h
      · cases h
  · rename_i a b hx hy
    split at h
    · rename_i h1
      cases h
      unfold isEq at h1
      split at h1
      · exact .mk2 (OpRun.eqlStr t u x y a b hd) hx hy
      · cases h1
      · cases h1
    · rename_i h1
      cases h
      unfold isEq at h1
      split at h1
      · cases h1
      · exact .mk2 (OpRun.neqStr t u x y a b hd) hx hy
      · cases h1
    · cases h
  · exact eqEv_ok hd (by assumption) (by assumption) h
  · cases h

def unEv (st : St) (op : UnOp) (x : Operand) : Option R5 := match op, ev st.T x with
  | .not, some (.v (.bool b)) => some ⟨[(x, .v (.bool b))], [], [], .v (.bool (!b)), []⟩
  | .neg, some (.v (.int k a)) => some ⟨[(x, .v (.int k a))], [], [], .v (.int k (k.wrap (0 - a))), []⟩
  | .xor, some (.v (.int k a)) => some ⟨[(x, .v (.int k a))], [], [], .v (.int k (bitsOf .xor k (if k.signed then -1 else k.max) a)), []⟩
  | _, _ => none
theorem unEv_ok {st : St} {op : UnOp} {t : TypeId} {x : Operand} {r : R5} (hd : dlt N d = true) (h : unEv st op x = some r) : r.OK P N ⟨d, .unOp op t x, ty, pos, after, g⟩ st := by
  unfold unEv at h
  split at h
  · cases h; exact .mk1 (OpRun.not t x _ _ hd rfl) (by assumption)
  · cases h; exact .mk1 (OpRun.neg t x _ _ _ hd rfl) (by assumption)
  · cases h; exact .mk1 (OpRun.inv t x _ _ _ hd rfl) (by assumption)
  · cases h

def convEv (P : Program) (st : St) (s t : TypeId) (x : Operand) : Option R5 := match P.underlying s, P.underlying t, ev st.T x with
  | some _, some (.int k'), some (.v (.int k a)) => some ⟨[(x, .v (.int k a))], [], [], .v (.int k' (k'.wrap a)), []⟩
  | some (.slice e), some .string, some (.osl k off n sz cap) => match P.underlying e with
    | some (.int .u8) => match n with
      | 0 => some ⟨[(x, .osl k off 0 sz cap)], [], [], .v (.string (strOf [])), []⟩
      | n + 1 => match Nat.beq sz 1, lookH st.H k with
        | true, some ob => match Nat.beq (cut ob.c.flat off ((n + 1) * 1)).length ((n + 1) * 1), bytesV (cut ob.c.flat off ((n + 1) * 1)) with
          | true, some ns => some ⟨[(x, .osl k off (n + 1) sz cap)], [(k, ob)], [], .v (.string (strOf ns)), []⟩
          | _, _ => none
        | _, _ => none
    | _ => none
  | some (.slice e), some .string, some p => match P.underlying e with
    | some (.int .u8) => match isEmpty0 p with
      | true => some ⟨[(x, p)], [], [], .v (.string (strOf [])), []⟩
      | false => none
    | _ => none
  | _, _, _ => none
theorem convEv_ok {st : St} {s t : TypeId} {x : Operand} {r : R5} (hd : dlt N d = true) (h : convEv P st s t x = some r) : r.OK P N ⟨d, .convert s t x, ty, pos, after, g⟩ st := by
  unfold convEv at h
  split at h
  · rename_i ds k' k a h1 h2 hx
    cases h; exact .mk1 (OpRun.conv s t x k k' ds a _ hd (run_underlying h1) (run_underlying h2) rfl) hx
  · rename_i e k off n sz cap h1 h2 hx
    split at h
    · rename_i he
      split at h
      · cases h; exact .mk1 (OpRun.b2s0 s t e x _ hd h1 he h2 rfl) hx
      · rename_i n
        split at h
        · rename_i ob hs ho
          have hs := Nat.eq_of_beq_eq_true hs
          subst hs
          split at h
          · rename_i ns h3 h4
            cases h
            exact ⟨OpRun.b2s s t e x k off (n + 1) cap ob ns hd h1 he h2 (Nat.eq_of_beq_eq_true h3) (by omega) h4, ⟨hx, trivial⟩, ⟨ho, trivial⟩, trivial⟩
          · cases h
        · cases h
    · cases h
  · rename_i e p _ h1 h2 hx
    split at h
    · rename_i he
      split at h
      · rename_i hp
        cases h; exact .mk1 (OpRun.b2s0 s t e x _ hd h1 he h2 hp) hx
      · cases h
    · cases h
  · cases h

/- Bounds of cuts. -/
def optEv (T : List (Nat × V)) (o : Option Operand) (q : Nat) : Option (IntKind × Nat) := match o with
  | none => some (.i64, q)
  | some x => match ev T x with
    | some (.v (.int k (.ofNat l))) => some (k, l)
    | _ => none
theorem optEv_ok {T : List (Nat × V)} {o : Option Operand} {q : Nat} {k : IntKind} {l : Nat} (h : optEv T o q = some (k, l)) : (o = none → l = q) ∧ AllP (fun p => ev T p.1 = some p.2) (optO o k l) := by
  unfold optEv at h
  split at h
  · cases h; exact ⟨fun _ => rfl, trivial⟩
  · split at h
    · cases h; exact ⟨fun h => (by cases h), by assumption, trivial⟩
    · cases h

def bnd (off n : Nat) (cap : Option Nat) : Option Nat := match cap with
  | none => some n
  | some b => match Nat.beq (off + n) 0 with
    | true => none
    | false => some b
def sliceEv (P : Program) (st : St) (t : TypeId) (x : Operand) (lo hi : Option Operand) : Option R5 := match ev st.T x, P.underlying t with
  | some (.ptr k off), some (.array n e) => match szP P e, lookH st.H k, optEv st.T lo 0, optEv st.T hi n with
    | some sz, some ob, some (kl, l), some (kh, h) => match Nat.blt 0 sz && Nat.ble l h && Nat.ble h n && Nat.blt l n && Nat.ble n 16777216 && Nat.beq (cut ob.c.flat off (n * sz)).length (n * sz) && (!(Nat.beq (off + l * sz) 0) || (!ob.grow && Nat.beq ob.c.flat.length (n * sz))) with
      | true => some ⟨(x, .ptr k off) :: (optO lo kl l ++ optO hi kh h), [(k, ob)], [], .osl k (off + l * sz) (h - l) sz (some (n - l)), []⟩
      | false => none
    | _, _, _, _ => none
  | some (.osl k off n sz' cap), some (.slice e) => match szP P e, bnd off n cap, optEv st.T lo 0, optEv st.T hi n with
    | some sz, some b, some (kl, l), some (kh, h) => match Nat.beq sz sz' && Nat.blt 0 sz && Nat.ble l h && Nat.ble h b with
      | true => match Nat.blt l b with
        | true => some ⟨(x, .osl k off n sz' cap) :: (optO lo kl l ++ optO hi kh h), [], [], .osl k (off + l * sz') (h - l) sz' (cap.map (· - l)), []⟩
        | false => match Nat.beq l h with
          | true => some ⟨(x, .osl k off n sz' cap) :: (optO lo kl l ++ optO hi kh l), [], [], .sli .u8 [], []⟩
          | false => none
      | false => none
    | _, _, _, _ => none
  | some p, some (.slice e) => match lenV p, szP P e, optEv st.T lo 0, optEv st.T hi 0 with
    | some 0, some _, some (kl, 0), some (kh, 0) => some ⟨(x, p) :: (optO lo kl 0 ++ optO hi kh 0), [], [], .sli .u8 [], []⟩
    | _, _, _, _ => none
  | _, _ => none
theorem sliceEv_ok {st : St} {t : TypeId} {x : Operand} {lo hi : Option Operand} {r : R5} (hd : dlt N d = true) (h : sliceEv P st t x lo hi = some r) : r.OK P N ⟨d, .slice t x lo hi none, ty, pos, after, g⟩ st := by
  unfold sliceEv at h
  split at h
  · rename_i k off n e hx hu
    split at h
    · rename_i sz ob kl l kh h' hs ho h1 h2
      obtain ⟨l1, a1⟩ := optEv_ok h1
      obtain ⟨l2, a2⟩ := optEv_ok h2
      split at h
      · rename_i hb
        simp only [Bool.and_eq_true, Bool.or_eq_true, Bool.not_eq_true'] at hb
        obtain ⟨⟨⟨⟨⟨⟨b1, b2⟩, b3⟩, b4⟩, b5⟩, b6⟩, b7⟩ := hb
        cases h
        refine ⟨OpRun.sliceP t e x lo hi kl kh k off n sz l h' ob hd hu (szP_run hs) (blt_lt b1) l1 l2 (Nat.ble_eq ▸ b2) (Nat.ble_eq ▸ b3) (blt_lt b4) (Nat.ble_eq ▸ b5) (Nat.eq_of_beq_eq_true b6) ?_, ⟨hx, AllP.of_append a1 a2⟩, ⟨ho, trivial⟩, trivial⟩
        rcases b7 with b7 | b7
        · exact .inl fun h0 => by rw [h0] at b7; cases b7
        · exact .inr ⟨b7.1, Nat.eq_of_beq_eq_true b7.2⟩
      · cases h
    · cases h
  · rename_i k off n sz' cap e hx hu
    split at h
    · rename_i sz b kl l kh h' hs hbd h1 h2
      obtain ⟨l1, a1⟩ := optEv_ok h1
      obtain ⟨l2, a2⟩ := optEv_ok h2
      have hb : (cap = none ∧ b = n) ∨ (cap = some b ∧ (off ≠ 0 ∨ n ≠ 0)) := by
        unfold bnd at hbd
        split at hbd
        · cases hbd; exact .inl ⟨rfl, rfl⟩
        · split at hbd
          · cases hbd
          · rename_i hz
            cases hbd
            refine .inr ⟨rfl, ?_⟩
            have : off + n ≠ 0 := fun h0 => by rw [h0] at hz; cases hz
            omega
      split at h
      · rename_i hc
        simp only [Bool.and_eq_true] at hc
        obtain ⟨⟨⟨b1, b2⟩, b3⟩, b4⟩ := hc
        have b1 := Nat.eq_of_beq_eq_true b1
        subst b1
        split at h
        · rename_i h3
          cases h
          exact ⟨OpRun.sliceO t e x lo hi kl kh k off n sz l h' b cap hd hu (szP_run hs) (blt_lt b2) l1 l2 (Nat.ble_eq ▸ b3) hb (Nat.ble_eq ▸ b4) (blt_lt h3), ⟨hx, AllP.of_append a1 a2⟩, trivial, trivial⟩
        · split at h
          · rename_i h4
            have h4 := Nat.eq_of_beq_eq_true h4
            subst h4
            cases h
            refine ⟨OpRun.sliceE t e x lo hi kl kh l n b sz _ hd hu (szP_run hs) l1 l2 rfl ?_ (Nat.ble_eq ▸ b4), ⟨hx, AllP.of_append a1 a2⟩, trivial, trivial⟩
            rcases hb with ⟨_, hb⟩ | ⟨hb, hz⟩
            · exact .inr hb
            · exact .inl ⟨k, off, sz, by rw [hb], hz⟩
          · cases h
      · cases h
    · cases h
  · rename_i p e _ hx hu
    split at h
    · rename_i sz kl kh hl hs h1 h2
      obtain ⟨l1, a1⟩ := optEv_ok h1
      obtain ⟨l2, a2⟩ := optEv_ok h2
      cases h
      exact ⟨OpRun.sliceE t e x lo hi kl kh 0 0 0 sz _ hd hu (szP_run hs) l1 l2 hl (.inr rfl) (Nat.le_refl _), ⟨hx, AllP.of_append a1 a2⟩, trivial, trivial⟩
    · cases h
  · cases h

/- Builtins. -/
def lenEv (P : Program) (st : St) (x : Operand) (t : TypeId) : Option R5 := match ev st.T x, P.underlying t with
  | some (.v (.string s)), some .string => match Nat.ble s.size 16777216 with
    | true => some ⟨[(x, .v (.string s))], [], [], .v (.int .i64 (.ofNat s.size)), []⟩
    | false => none
  | some p, some (.slice _) => match lenV p with
    | some n => some ⟨[(x, p)], [], [], .v (.int .i64 (.ofNat n)), []⟩
    | none => none
  | some p, some (.array n _) => match Nat.ble n 16777216 with
    | true => some ⟨[(x, p)], [], [], .v (.int .i64 (.ofNat n)), []⟩
    | false => none
  | _, _ => none
theorem lenEv_ok {st : St} {x : Operand} {t : TypeId} {r : R5} (hd : dlt N d = true) (h : lenEv P st x t = some r) : r.OK P N ⟨d, .call { callee := .builtin .len, args := #[x], argTypes := #[t] }, ty, pos, after, g⟩ st := by
  unfold lenEv at h
  split at h
  · rename_i s hx hu
    split at h
    · rename_i hb
      cases h; exact .mk1 (OpRun.lenStr t x s hd hu (Nat.ble_eq ▸ hb)) hx
    · cases h
  · rename_i p e hx hu
    split at h
    · rename_i n hn
      cases h; exact .mk1 (OpRun.lenF t e x p n hd hu hn) hx
    · cases h
  · rename_i p n e hx hu
    split at h
    · rename_i hb
      cases h; exact .mk1 (OpRun.lenArr t e n x p hd hu (Nat.ble_eq ▸ hb)) hx
    · cases h
  · cases h

def isMM : Builtin → Option Bool
  | .min => some true
  | .max => some false
  | _ => none
def mmEv (st : St) (mn : Bool) (x y : Operand) : Option R5 := match ev st.T x, ev st.T y with
  | some (.v (.int k a)), some (.v (.int k' b)) => match decide (k' = k), mn with
    | true, true => some ⟨[(x, .v (.int k a)), (y, .v (.int k b))], [], [], .v (.int k (min a b)), []⟩
    | true, false => some ⟨[(x, .v (.int k a)), (y, .v (.int k b))], [], [], .v (.int k (max a b)), []⟩
    | _, _ => none
  | _, _ => none
theorem mmEv_ok {st : St} {mn : Bool} {x y : Operand} {tys : Array TypeId} {r : R5} (hd : dlt N d = true) (h : mmEv st mn x y = some r) : r.OK P N ⟨d, .call { callee := .builtin (match mn with | true => .min | false => .max), args := #[x, y], argTypes := tys }, ty, pos, after, g⟩ st := by
  cases mn <;> unfold mmEv at h
  · split at h
    · rename_i k a k' b hx hy
      split at h
      · rename_i h0; cases h0
      · rename_i hk _
        have hk := of_decide_eq_true hk
        subst hk
        cases h; exact .mk2 (OpRun.max x y tys _ a b hd) hx hy
      · cases h
    · cases h
  · split at h
    · rename_i k a k' b hx hy
      split at h
      · rename_i hk _
        have hk := of_decide_eq_true hk
        subst hk
        cases h; exact .mk2 (OpRun.min x y tys _ a b hd) hx hy
      · rename_i h0; cases h0
      · cases h
    · cases h

def copyEv (P : Program) (st : St) (x y : Operand) (t : TypeId) : Option R5 := match ev st.T x, ev st.T y, P.underlying t with
  | some p, some q, some (.slice e) => match szP P e with
    | some sz => match isSlice p && isSlice q && (isEmpty0 p || isEmpty0 q) with
      | true => some ⟨[(x, p), (y, q)], [], [], .v (.int .i64 0), []⟩
      | false => match p, q with
        | .osl k off n sz1 cap, .osl k2 off2 m sz2 cap2 => match lookH st.H k, lookH st.H k2 with
          | some ob, some ob2 => match Nat.beq sz1 sz && Nat.beq sz2 sz && Nat.beq (cut ob.c.flat off (Nat.min m n * sz)).length (Nat.min m n * sz) && Nat.beq (cut ob2.c.flat off2 (Nat.min m n * sz)).length (Nat.min m n * sz) && Nat.blt 0 (Nat.min m n * sz) && Nat.ble (Nat.min m n) 16777216 with
            | true => some ⟨[(x, .osl k off n sz1 cap), (y, .osl k2 off2 m sz2 cap2)], [(k, ob), (k2, ob2)], [], .v (.int .i64 (.ofNat (Nat.min m n))), [(k, some ⟨.agg (splice ob.c.flat off (cut ob2.c.flat off2 (Nat.min m n * sz))), ob.grow⟩)]⟩
            | false => none
          | _, _ => none
        | _, _ => none
    | none => none
  | _, _, _ => none
theorem copyEv_ok {st : St} {x y : Operand} {t u : TypeId} {r : R5} (hd : dlt N d = true) (h : copyEv P st x y t = some r) : r.OK P N ⟨d, .call { callee := .builtin .copy, args := #[x, y], argTypes := #[t, u] }, ty, pos, after, g⟩ st := by
  unfold copyEv at h
  split at h
  · rename_i p q e hx hy hu
    split at h
    · rename_i sz hs
      split at h
      · rename_i hb
        simp only [Bool.and_eq_true, Bool.or_eq_true] at hb
        cases h
        exact .mk2 (OpRun.copy0 t u e sz x y p q hd hu (szP_run hs) hb.1.1 hb.1.2 hb.2) hx hy
      · split at h
        · rename_i k off n sz1 cap k2 off2 m sz2 cap2 _
          split at h
          · rename_i ob ob2 ho ho2
            split at h
            · rename_i hb
              simp only [Bool.and_eq_true] at hb
              obtain ⟨⟨⟨⟨⟨b1, b2⟩, b3⟩, b4⟩, b5⟩, b6⟩ := hb
              have b1 := Nat.eq_of_beq_eq_true b1
              have b2 := Nat.eq_of_beq_eq_true b2
              subst b1; subst b2
              cases h
              exact ⟨OpRun.copyO t u e _ x y k off n k2 off2 m (Nat.min m n) cap cap2 ob ob2 hd hu (szP_run hs) rfl (Nat.eq_of_beq_eq_true b3) (Nat.eq_of_beq_eq_true b4) (blt_lt b5) (Nat.ble_eq ▸ b6), ⟨hx, hy, trivial⟩, ⟨ho, ho2, trivial⟩, trivial⟩
            · cases h
          · cases h
        · cases h
    · cases h
  · cases h

def appendEv (P : Program) (st : St) (x y : Operand) (t : TypeId) : Option R5 := match ev st.T x, ev st.T y, P.underlying t with
  | some p, some q, some (.slice e) => match P.info? e with
    | some i => match isSlice p && isEmpty0 q with
      | true => some ⟨[(x, p), (y, q)], [], [], p, []⟩
      | false => match q, i.zero with
        | .osl k2 off2 m sz2 cap2, some zv => match lookH st.H k2, Nat.beq sz2 i.size && Nat.beq zv.cells.toList.length i.size && Nat.blt 0 (m * i.size) && Nat.blt (nxt st.H) 1000 with
          | some ob2, true => match Nat.beq (cut ob2.c.flat off2 (m * i.size)).length (m * i.size) with
            | true => match p with
              | .v (.slice none 0 0) => match Nat.ble (m * i.bytes) 16777216 && Nat.ble m 16777216 with
                | true => some ⟨[(x, .v (.slice none 0 0)), (y, .osl k2 off2 m i.size cap2)], [(k2, ob2)], [nxt st.H], .osl (nxt st.H) 0 m i.size none, [(nxt st.H, some ⟨.agg (cut ob2.c.flat off2 (m * i.size)), true⟩)]⟩
                | false => none
              | .osl k off n sz1 cap => match lookH st.H k, Nat.beq sz1 i.size && Nat.ble ((n + m) * i.bytes) 16777216 && Nat.ble (n + m) 16777216 with
                | some ob, true => match cap with
                  | some c0 => match Nat.ble (n + m) c0 with
                    | true => match Nat.beq (cut ob.c.flat (off + n * i.size) (m * i.size)).length (m * i.size) with
                      | true => some ⟨[(x, .osl k off n i.size (some c0)), (y, .osl k2 off2 m i.size cap2)], [(k, ob), (k2, ob2)], [], .osl k off (n + m) i.size (some c0), [(k, some ⟨.agg (splice ob.c.flat (off + n * i.size) (cut ob2.c.flat off2 (m * i.size))), ob.grow⟩)]⟩
                      | false => none
                    | false => match Nat.blt c0 (n + m) && Nat.beq (cut ob.c.flat off (n * i.size)).length (n * i.size) with
                      | true => some ⟨[(x, .osl k off n i.size (some c0)), (y, .osl k2 off2 m i.size cap2)], [(k, ob), (k2, ob2)], [nxt st.H], .osl (nxt st.H) 0 (n + m) i.size none, [(nxt st.H, some ⟨.agg (cut ob.c.flat off (n * i.size) ++ cut ob2.c.flat off2 (m * i.size)), true⟩)]⟩
                      | false => none
                  | none => match Nat.beq off 0 && Nat.beq ob.c.flat.length (n * i.size) && Nat.blt 0 n with
                    | true => some ⟨[(x, .osl k 0 n i.size none), (y, .osl k2 off2 m i.size cap2)], [(k, ob), (k2, ob2)], [nxt st.H], .osl (nxt st.H) 0 (n + m) i.size none, [(nxt st.H, some ⟨.agg (ob.c.flat ++ cut ob2.c.flat off2 (m * i.size)), true⟩), (k, none)]⟩
                    | false => none
                | _, _ => none
              | _ => none
            | false => none
          | _, _ => none
        | _, _ => none
    | none => none
  | _, _, _ => none
theorem appendEv_ok {st : St} {x y : Operand} {t : TypeId} {r : R5} (hd : dlt N d = true) (h : appendEv P st x y t = some r) : r.OK P N ⟨d, .call { callee := .builtin .append, args := #[x, y], argTypes := #[t, t] }, ty, pos, after, g⟩ st := by
  unfold appendEv at h
  split at h
  · rename_i p q e hx hy hu
    split at h
    · rename_i i hi
      split at h
      · rename_i hb
        simp only [Bool.and_eq_true] at hb
        cases h
        exact .mk2 (OpRun.append0 t e i x y p q hd hu hi hb.1 hb.2) hx hy
      · split at h
        · rename_i k2 off2 m sz2 cap2 zv hz _
          split at h
          · rename_i ob2 ho2 hb
            simp only [Bool.and_eq_true] at hb
            obtain ⟨⟨⟨b1, b2⟩, b3⟩, b4⟩ := hb
            have b1 := Nat.eq_of_beq_eq_true b1
            subst b1
            have b2 := Nat.eq_of_beq_eq_true b2
            have b3 := blt_lt b3
            have hfree := nxt_free (Nat.le_refl (nxt st.H)) (blt_lt b4)
            split at h
            · rename_i h2
              have h2 := Nat.eq_of_beq_eq_true h2
              split at h
              · split at h
                · rename_i hc
                  simp only [Bool.and_eq_true] at hc
                  cases h
                  exact ⟨OpRun.appendNil t e i zv x y k2 off2 m i.size _ cap2 ob2 hd b4 hu hi rfl hz b2 h2 b3 (Nat.ble_eq ▸ hc.1) (Nat.ble_eq ▸ hc.2), ⟨hx, hy, trivial⟩, ⟨ho2, trivial⟩, ⟨hfree, trivial⟩⟩
                · cases h
              · rename_i k off n sz1 cap _
                split at h
                · rename_i ob ho hc
                  simp only [Bool.and_eq_true] at hc
                  obtain ⟨⟨c1, c2⟩, c3⟩ := hc
                  have c1 := Nat.eq_of_beq_eq_true c1
                  subst c1
                  have c2 : (n + m) * i.bytes ≤ 16777216 := Nat.ble_eq ▸ c2
                  have c3 : n + m ≤ 16777216 := Nat.ble_eq ▸ c3
                  split at h
                  · rename_i c0 _
                    split at h
                    · rename_i h3
                      split at h
                      · rename_i h4
                        cases h
                        exact ⟨OpRun.appendRoom t e i x y k off n i.size c0 k2 off2 m cap2 ob ob2 hd hu hi rfl (Nat.eq_of_beq_eq_true h4) h2 b3 (Nat.ble_eq ▸ h3), ⟨hx, hy, trivial⟩, ⟨ho, ho2, trivial⟩, trivial⟩
                      · cases h
                    · split at h
                      · rename_i h4
                        simp only [Bool.and_eq_true] at h4
                        cases h
                        exact ⟨OpRun.appendGrow t e i zv x y k off n i.size c0 k2 off2 m _ cap2 ob ob2 hd b4 hu hi rfl hz b2 (Nat.eq_of_beq_eq_true h4.2) h2 b3 (blt_lt h4.1) c2 c3, ⟨hx, hy, trivial⟩, ⟨ho, ho2, trivial⟩, ⟨hfree, trivial⟩⟩
                      · cases h
                  · split at h
                    · rename_i h4
                      simp only [Bool.and_eq_true] at h4
                      obtain ⟨⟨d1, d2⟩, d3⟩ := h4
                      have d1 := Nat.eq_of_beq_eq_true d1
                      subst d1
                      cases h
                      exact ⟨OpRun.appendUnk t e i zv x y k n i.size k2 off2 m _ cap2 ob ob2 hd b4 hu hi rfl hz b2 (Nat.eq_of_beq_eq_true d2) h2 b3 c2 c3 (blt_lt d3), ⟨hx, hy, trivial⟩, ⟨ho, ho2, trivial⟩, ⟨hfree, trivial⟩⟩
                    · cases h
                · cases h
              · cases h
            · cases h
          · cases h
        · cases h
    · cases h
  · cases h
end
end Go.X
