/- Operations: numbers. No program in sight. -/
import Derived.Test.YtlgaegjlgabggaaGreatXI
import Derived.IntWalk
import Derived.Laws.Closers25b
namespace Go.X
open Go

theorem good_wrap (k : IntKind) (n : Int) : good (.int k (k.wrap n)) = true := good_int.2 (wrap_within k n)
theorem IntKind.min_le (k : IntKind) : k.min ≤ 0 := by cases k <;> decide
theorem IntKind.max_ge (k : IntKind) : 0 ≤ k.max := by cases k <;> decide
theorem good_tmod {k : IntKind} {a b : Int} (ha : good (.int k a) = true) : good (.int k (a.tmod b)) = true := by
  have h := good_int.1 ha
  refine good_int.2 ?_
  have h1 := IntKind.min_le k
  have h2 := IntKind.max_ge k
  rcases Int.le_total 0 a with h3 | h3
  · have := Int.tmod_nonneg b h3
    have h5 : a.tmod b ≤ a := by
      obtain ⟨A, rfl⟩ := Int.eq_ofNat_of_zero_le h3
      rcases Int.natAbs_eq b with e | e <;> rw [e]
      · rw [← Int.ofNat_tmod]; exact_mod_cast Nat.mod_le _ _
      · rw [Int.tmod_neg, ← Int.ofNat_tmod]; exact_mod_cast Nat.mod_le _ _
    omega
  · have h4 : 0 ≤ -a := by omega
    have e : a.tmod b = -((-a).tmod b) := by rw [Int.neg_tmod]; omega
    have h6 := Int.tmod_nonneg b h4
    have h5 : (-a).tmod b ≤ -a := by
      obtain ⟨A, hA⟩ := Int.eq_ofNat_of_zero_le h4
      rw [hA]
      rcases Int.natAbs_eq b with e | e <;> rw [e]
      · rw [← Int.ofNat_tmod]; exact_mod_cast Nat.mod_le _ _
      · rw [Int.tmod_neg, ← Int.ofNat_tmod]; exact_mod_cast Nat.mod_le _ _
    omega
theorem good_fdiv {k : IntKind} {a : Int} {n : Nat} (ha : good (.int k a) = true) : good (.int k (a.fdiv (2 ^ n))) = true := by
  have h := good_int.1 ha
  refine good_int.2 ?_
  have h1 := IntKind.min_le k
  have h2 := IntKind.max_ge k
  have hp : (0 : Int) < 2 ^ n := by exact_mod_cast Nat.pos_of_ne_zero (by simp)
  rw [Int.fdiv_eq_ediv_of_nonneg _ (Int.le_of_lt hp)]
  have h3 := Int.ediv_mul_le a (Int.ne_of_gt hp)
  have h4 := Int.lt_ediv_add_one_mul_self a hp
  generalize a / 2 ^ n = q at h3 h4 ⊢
  generalize (2 : Int) ^ n = m at hp h3 h4
  rcases Int.lt_or_le q 0 with hq | hq
  · have : q * m ≤ q := by have := Int.mul_le_mul_of_nonpos_left (Int.le_of_lt hq) (show (1 : Int) ≤ m by omega); omega
    have h5 : a < (q + 1) * m := h4
    have h6 : (q + 1) * m ≤ q + 1 := by have := Int.mul_le_mul_of_nonpos_left (show q + 1 ≤ 0 by omega) (show (1 : Int) ≤ m by omega); omega
    omega
  · have : q ≤ q * m := by have := Int.mul_le_mul_of_nonneg_left (show (1 : Int) ≤ m by omega) hq; omega
    omega

section
variable {P : Program} {N : Nat} {d : Option Tmp} {ty : TypeId} {pos : String} {after : Array Edge} {g : Option (Nat × Bool)}

/-- Sums, differences, products: what the wrapped number is. -/
theorem OpRun.add (t u : TypeId) (x y : Operand) (k : IntKind) (a b z : Int) (hd : dlt N d = true) (hz : k.wrap (a + b) = z) :
    OpRun P N ⟨d, .binOp .add t x y u, ty, pos, after, g⟩ [(x, .v (.int k a)), (y, .v (.int k b))] [] [] (.v (.int k z)) [] :=
  OpRun.bin .add t u x y _ _ _ hd (fun w => by simp [binOp, Op.intArith, hz]) (fun _ => rfl) (fun _ _ => hz ▸ good_wrap _ _)
theorem OpRun.sub (t u : TypeId) (x y : Operand) (k : IntKind) (a b z : Int) (hd : dlt N d = true) (hz : k.wrap (a - b) = z) :
    OpRun P N ⟨d, .binOp .sub t x y u, ty, pos, after, g⟩ [(x, .v (.int k a)), (y, .v (.int k b))] [] [] (.v (.int k z)) [] :=
  OpRun.bin .sub t u x y _ _ _ hd (fun w => by simp [binOp, Op.intArith, hz]) (fun _ => rfl) (fun _ _ => hz ▸ good_wrap _ _)
theorem OpRun.mul (t u : TypeId) (x y : Operand) (k : IntKind) (a b z : Int) (hd : dlt N d = true) (hz : k.wrap (a * b) = z) :
    OpRun P N ⟨d, .binOp .mul t x y u, ty, pos, after, g⟩ [(x, .v (.int k a)), (y, .v (.int k b))] [] [] (.v (.int k z)) [] :=
  OpRun.bin .mul t u x y _ _ _ hd (fun w => by simp [binOp, Op.intArith, hz]) (fun _ => rfl) (fun _ _ => hz ▸ good_wrap _ _)
theorem OpRun.quo (t u : TypeId) (x y : Operand) (k : IntKind) (a b z : Int) (hd : dlt N d = true) (hb : b ≠ 0) (hz : k.wrap (a.tdiv b) = z) :
    OpRun P N ⟨d, .binOp .quo t x y u, ty, pos, after, g⟩ [(x, .v (.int k a)), (y, .v (.int k b))] [] [] (.v (.int k z)) [] :=
  OpRun.bin .quo t u x y _ _ _ hd (fun w => by simp [binOp, Op.intDiv, hb, hz]) (fun _ => rfl) (fun _ _ => hz ▸ good_wrap _ _)
theorem OpRun.rem (t u : TypeId) (x y : Operand) (k : IntKind) (a b z : Int) (hd : dlt N d = true) (hb : b ≠ 0) (hz : a.tmod b = z) :
    OpRun P N ⟨d, .binOp .rem t x y u, ty, pos, after, g⟩ [(x, .v (.int k a)), (y, .v (.int k b))] [] [] (.v (.int k z)) [] :=
  OpRun.bin .rem t u x y _ _ _ hd (fun w => by simp [binOp, Op.intDiv, hb, hz]) (fun _ => rfl) (fun h _ => hz ▸ good_tmod h)

def bitsOf (op : BinOp) (k : IntKind) (x y : Int) : Int :=
  match op with
  | .and => k.wrap ((BitVec.ofInt k.bits x &&& BitVec.ofInt k.bits y).toNat)
  | .or => k.wrap ((BitVec.ofInt k.bits x ||| BitVec.ofInt k.bits y).toNat)
  | .xor => k.wrap ((BitVec.ofInt k.bits x ^^^ BitVec.ofInt k.bits y).toNat)
  | _ => k.wrap ((BitVec.ofInt k.bits x &&& ~~~ BitVec.ofInt k.bits y).toNat)
def isBits : BinOp → Bool
  | .and | .or | .xor | .andNot => true
  | _ => false
theorem OpRun.bits (op : BinOp) (t u : TypeId) (x y : Operand) (k : IntKind) (a b z : Int) (hd : dlt N d = true) (ho : isBits op = true) (hz : bitsOf op k a b = z) :
    OpRun P N ⟨d, .binOp op t x y u, ty, pos, after, g⟩ [(x, .v (.int k a)), (y, .v (.int k b))] [] [] (.v (.int k z)) [] := by
  cases op <;> first | (simp [isBits] at ho; done) | skip
  all_goals
    subst hz
    exact OpRun.bin _ t u x y _ _ _ hd (fun w => by simp [binOp, Op.intBits, bitsOf]) (fun _ => rfl) (fun _ _ => good_wrap _ _)
theorem OpRun.shl (t u : TypeId) (x y : Operand) (k k' : IntKind) (a b z : Int) (hd : dlt N d = true) (hb : 0 ≤ b) (hz : k.wrap (a * 2 ^ (min b.toNat k.bits)) = z) :
    OpRun P N ⟨d, .binOp .shl t x y u, ty, pos, after, g⟩ [(x, .v (.int k a)), (y, .v (.int k' b))] [] [] (.v (.int k z)) [] :=
  OpRun.bin .shl t u x y _ _ _ hd (fun w => by have : ¬ b < 0 := by omega
                                               simp [binOp, Op.shift, this, hz]) (fun _ => rfl) (fun _ _ => hz ▸ good_wrap _ _)
theorem OpRun.shr (t u : TypeId) (x y : Operand) (k k' : IntKind) (a b z : Int) (hd : dlt N d = true) (hb : 0 ≤ b) (hz : a.fdiv (2 ^ (min b.toNat k.bits)) = z) :
    OpRun P N ⟨d, .binOp .shr t x y u, ty, pos, after, g⟩ [(x, .v (.int k a)), (y, .v (.int k' b))] [] [] (.v (.int k z)) [] :=
  OpRun.bin .shr t u x y _ _ _ hd (fun w => by have : ¬ b < 0 := by omega
                                               simp [binOp, Op.shift, this, hz]) (fun _ => rfl) (fun h _ => hz ▸ good_fdiv h)

def cmpOf (op : BinOp) (x y : Int) : Bool :=
  match op with
  | .eql => x == y
  | .neq => x != y
  | .lss => x < y
  | .leq => x ≤ y
  | .gtr => x > y
  | _ => x ≥ y
def isCmp : BinOp → Bool
  | .eql | .neq | .lss | .leq | .gtr | .geq => true
  | _ => false
theorem OpRun.cmp (op : BinOp) (t u : TypeId) (x y : Operand) (k : IntKind) (a b : Int) (z : Bool) (hd : dlt N d = true) (ho : isCmp op = true) (hz : cmpOf op a b = z) :
    OpRun P N ⟨d, .binOp op t x y u, ty, pos, after, g⟩ [(x, .v (.int k a)), (y, .v (.int k b))] [] [] (.v (.bool z)) [] := by
  cases op <;> first | (simp [isCmp] at ho; done) | skip
  all_goals
    subst hz
    exact OpRun.bin _ t u x y _ _ _ hd (fun w => by simp [binOp, Op.intCmp, cmpOf]) (fun _ => rfl) (fun _ _ => rfl)

theorem OpRun.not (t : TypeId) (x : Operand) (b z : Bool) (hd : dlt N d = true) (hz : (!b) = z) : OpRun P N ⟨d, .unOp .not t x, ty, pos, after, g⟩ [(x, .v (.bool b))] [] [] (.v (.bool z)) [] :=
  OpRun.val hd fun B imm env st a w h _ _ H => by
    have hx := int_ev H h.1
    exact ⟨.bool (!b), w, imm, env, by simp [execOp, hx, Op.unary], H, by rw [hz]; exact .v _ rfl⟩
theorem OpRun.neg (t : TypeId) (x : Operand) (k : IntKind) (a z : Int) (hd : dlt N d = true) (hz : k.wrap (0 - a) = z) : OpRun P N ⟨d, .unOp .neg t x, ty, pos, after, g⟩ [(x, .v (.int k a))] [] [] (.v (.int k z)) [] :=
  OpRun.val hd fun B imm env st a' w h _ _ H => by
    have hx := int_ev H h.1
    exact ⟨.int k (k.wrap (0 - a)), w, imm, env, by simp [execOp, hx, Op.unary, Op.intArith], H, by rw [hz]; exact .v _ (hz ▸ good_wrap _ _)⟩
theorem OpRun.inv (t : TypeId) (x : Operand) (k : IntKind) (a z : Int) (hd : dlt N d = true) (hz : bitsOf .xor k (if k.signed then -1 else k.max) a = z) : OpRun P N ⟨d, .unOp .xor t x, ty, pos, after, g⟩ [(x, .v (.int k a))] [] [] (.v (.int k z)) [] :=
  OpRun.val hd fun B imm env st a' w h _ _ H => by
    have hx := int_ev H h.1
    exact ⟨.int k (bitsOf .xor k (if k.signed then -1 else k.max) a), w, imm, env, by simp [execOp, hx, Op.unary, Op.intBits, bitsOf], H, by rw [hz]; exact .v _ (hz ▸ good_wrap _ _)⟩

/-- A number of another kind. -/
theorem OpRun.conv (s t : TypeId) (x : Operand) (k k' : IntKind) (ds : TypeDesc) (a z : Int) (hd : dlt N d = true) (hs : ∀ w, (underlying s).run P w = .ok ds w) (ht : ∀ w, (underlying t).run P w = .ok (.int k') w) (hz : k'.wrap a = z) :
    OpRun P N ⟨d, .convert s t x, ty, pos, after, g⟩ [(x, .v (.int k a))] [] [] (.v (.int k' z)) [] :=
  OpRun.val hd fun B imm env st a' w h _ _ H => by
    have hx := int_ev H h.1
    exact ⟨.int k' (k'.wrap a), w, imm, env, by simp [execOp, hx, convert, hs, ht, Conv.intToInt], H, by rw [hz]; exact .v _ (hz ▸ good_wrap _ _)⟩

theorem OpRun.pickT (c x y : Operand) (b : Bool) (v : V) (hd : dlt N d = true) (hb : b = true) : OpRun P N ⟨d, .pick c x y, ty, pos, after, g⟩ [(c, .v (.bool b)), (x, v)] [] [] v [] :=
  OpRun.val hd fun B imm env st a' w h _ _ H => by
    have hc := int_ev H h.1
    exact ⟨a'.eval x, w, imm, env, by simp [execOp, hc, hb, asBool], H, H.ev h.2.1⟩
theorem OpRun.pickF (c x y : Operand) (b : Bool) (v : V) (hd : dlt N d = true) (hb : b = false) : OpRun P N ⟨d, .pick c x y, ty, pos, after, g⟩ [(c, .v (.bool b)), (y, v)] [] [] v [] :=
  OpRun.val hd fun B imm env st a' w h _ _ H => by
    have hc := int_ev H h.1
    exact ⟨a'.eval y, w, imm, env, by simp [execOp, hc, hb, asBool], H, H.ev h.2.1⟩
end

theorem nw64 {n : Int} (h1 : -9223372036854775808 ≤ n) (h2 : n ≤ 9223372036854775807) : IntKind.i64.wrap n = n := by
  simp [IntKind.wrap, IntKind.bits, IntKind.signed]; omega

/- Zero values, looked through by a reckoning. -/
def veq : Value → Value → Bool
  | .bool a, .bool b => a == b
  | .int j a, .int k b => decide (j = k) && decide (a = b) && good (.int k b)
  | .pointer none, .pointer none => true
  | .slice none 0 0, .slice none 0 0 => true
  | .nilFunc, .nilFunc => true
  | .nilIface, .nilIface => true
  | .map none, .map none => true
  | .string a, .string b => decide (a = b)
  | _, _ => false
theorem veq_eq {a b : Value} (h : veq a b = true) : a = b ∧ good a = true := by
  unfold veq at h
  split at h <;> simp_all [good, Value.oneCell']
def zcells : List V → List Value → Bool
  | [], [] => true
  | .v x :: r, u :: us => veq x u && zcells r us
  | _, _ => false
theorem zcells_rep {imm : Imm} {env : Env} {w : World} : ∀ {xs : List V} {us : List Value}, zcells xs us = true → RepL (Rep1 imm env w) xs us
  | [], [], _ => RepL.nil _
  | .v x :: r, u :: us, h => by
    simp only [zcells, Bool.and_eq_true] at h
    obtain ⟨h1, h2⟩ := h
    obtain ⟨rfl, h3⟩ := veq_eq h1
    exact (zcells_rep h2).cons (.v _ h3)
  | [], _ :: _, h => by simp [zcells] at h
  | .v _ :: _, [], h => by simp [zcells] at h
  | .ints _ _ _ :: _, us, h | .agg _ :: _, us, h | .sli _ _ :: _, us, h | .sl _ :: _, us, h | .ptr _ _ :: _, us, h | .ptrE _ _ _ :: _, us, h | .osl _ _ _ _ _ :: _, us, h
  | .dptr _ :: _, us, h | .fn _ _ _ :: _, us, h | .tup _ :: _, us, h | .unk :: _, us, h => by cases us <;> simp [zcells] at h
mutual
def okB : V → Bool
  | .ints _ n xs => Nat.beq xs.length n
  | .agg fs => oksB fs
  | _ => true
def oksB : List V → Bool
  | [] => true
  | x :: r => okB x && oksB r
end
mutual
theorem okB_ok : ∀ {x : V}, okB x = true → V.ok x
  | .ints _ n xs, h => Nat.eq_of_beq_eq_true h
  | .agg fs, h => oksB_oks h
  | .v _, _ | .sli _ _, _ | .sl _, _ | .ptr _ _, _ | .ptrE _ _ _, _ | .osl _ _ _ _ _, _ | .dptr _, _ | .fn _ _ _, _ | .tup _, _ | .unk, _ => trivial
theorem oksB_oks : ∀ {l : List V}, oksB l = true → V.oks l
  | [], _ => trivial
  | x :: r, h => by simp only [oksB, Bool.and_eq_true] at h; exact ⟨okB_ok h.1, oksB_oks h.2⟩
end
def zchk (y : V) (u : Value) : Bool :=
  match y, u with
  | .ints k n xs, .agg arr => okB (.ints k n xs) && zcells (V.flat (.ints k n xs)) arr.toList
  | .agg fs, .agg arr => okB (.agg fs) && zcells (V.flats fs) arr.toList
  | .v x, u => veq x u
  | _, _ => false
theorem zchk_rep {y : V} {u : Value} (h : zchk y u = true) (imm : Imm) (env : Env) (w : World) : RepC imm env w y u := by
  unfold zchk at h
  split at h
  · rename_i k n xs arr
    simp only [Bool.and_eq_true] at h
    exact RepC.of_cells (okB_ok h.1) (zcells_rep h.2) (.inl ⟨k, n, xs, rfl⟩)
  · rename_i fs arr
    simp only [Bool.and_eq_true] at h
    exact RepC.of_cells (x := .agg fs) (okB_ok h.1) (zcells_rep h.2) (.inr ⟨fs, rfl⟩)
  · obtain ⟨rfl, h3⟩ := veq_eq h
    exact .v _ h3
  · cases h

/-- Numbers of 64 bits. -/
def U64 (xs : List Int) : Prop := ∀ x, x ∈ xs → 0 ≤ x ∧ x < 18446744073709551616
theorem U64.get {xs : List Int} (h : U64 xs) (i : Nat) : 0 ≤ xs.getD i 0 ∧ xs.getD i 0 < 18446744073709551616 := by
  rcases Nat.lt_or_ge i xs.length with hi | hi
  · rw [List.getD, List.getElem?_eq_getElem hi]; exact h _ (List.getElem_mem hi)
  · rw [List.getD, List.getElem?_eq_none hi]; simp
theorem U64.set {xs : List Int} (h : U64 xs) (i : Nat) {z : Int} (hz : 0 ≤ z ∧ z < 18446744073709551616) : U64 (xs.set i z) := fun x hx => by
  rcases List.mem_or_eq_of_mem_set hx with h1 | h1
  · exact h x h1
  · rw [h1]; exact hz
theorem wrap_u64 (n : Int) : 0 ≤ IntKind.u64.wrap n ∧ IntKind.u64.wrap n < 18446744073709551616 := by
  simp [IntKind.wrap, IntKind.bits, IntKind.signed]; omega
theorem wrap_u32 (n : Int) : 0 ≤ IntKind.u32.wrap n ∧ IntKind.u32.wrap n < 4294967296 := by
  simp [IntKind.wrap, IntKind.bits, IntKind.signed]; omega
theorem wrap_u8 (n : Int) : 0 ≤ IntKind.u8.wrap n ∧ IntKind.u8.wrap n < 256 := by
  simp [IntKind.wrap, IntKind.bits, IntKind.signed]; omega

end Go.X
