/-
  Gh, in one.
-/
import Derived.Test.YtngklbnodknadaaGreatDoorMai
import Derived.Test.YtngklbnodknadaaGreatDoorMag
section
namespace Go.Proofs.YtngklbnodknadaaGreatDoor
open Go.RowKit

/-- What a number is as text. -/
inductive EncB (a : Int) (l : List UInt8) : Prop
  | mk (h : Utf8.encode a = ⟨⟨l⟩⟩) : EncB a l
theorem enc_low {b : UInt8} (h : b.toNat < 128) : EncB (b.toNat : Int) [b] := by
  have key : ∀ n : Fin 128, Utf8.encode ((n.val : Nat) : Int) = ⟨⟨[UInt8.ofNat n.val]⟩⟩ := by decide +kernel
  have := key ⟨b.toNat, h⟩
  exact ⟨by simpa using this⟩
abbrev KO := List Nat → T → Ob → Prop
/-- Any law of the operation. -/
inductive gen (P : Program) (o : Oper) (E : En) (L : Ob) (k : KO) : Prop
  | mk (pre : Ob) (v : T) (post : Ob) (h : Tri P o (sl E) pre v post) (hp : ∀ p ∈ pre, obE L p.1 = some p.2) (hk : k (pre.map (·.1)) v post) : gen P o E L k
noncomputable def eo (E : En) (x : Operand) : T := opT (sl E) x
/-- A nil slice is an empty one. -/
noncomputable def nz (F : Fax) (t : Nat) (v : T) : T := match v with
  | .d (.v (.slice none 0 0)) => (match lk F.el t with | some (_, k) => .d (.sl k []) | none => .d (.v (.slice none 0 0)))
  | v => v
theorem nz_le (F : Fax) (t : Nat) (v : T) : TLe v (nz F t v) := by
  unfold nz
  split
  · split
    · exact TLe.nil
    · exact TLe.refl _
  · exact TLe.refl _
def ikn : IntKind → Nat
  | .i8 => 0
  | .i16 => 1
  | .i32 => 2
  | .i64 => 3
  | .u8 => 4
  | .u16 => 5
  | .u32 => 6
  | .u64 => 7
def ikb (a b : IntKind) : Bool := Nat.beq (ikn a) (ikn b)
theorem ikb_eq {a b : IntKind} (h : ikb a b = true) : a = b := by cases a <;> cases b <;> first | rfl | cases h
noncomputable def putL (ts : List T) (off : Nat) (cv : List T) : List T := List.rec (motive := fun _ => Nat → List T → List T) (fun _ _ => [])
  (fun t ts ih off cv => match off with | 0 => (match cv with | [] => t :: ts | c :: cv => c :: ih 0 cv) | n + 1 => t :: ih n cv) ts off cv
theorem putL_eq : ∀ (ts : List T) (off : Nat) (cv : List T), off + cv.length ≤ ts.length → putL ts off cv = ts.take off ++ cv ++ ts.drop (off + cv.length)
  | [], off, cv, h => by
    have h0 : off + cv.length ≤ 0 := h
    have h1 : off = 0 := by omega
    have h2 : cv = [] := List.length_eq_zero_iff.1 (by omega)
    subst h1 h2; rfl
  | t :: ts, 0, [], _ => rfl
  | t :: ts, 0, c :: cv, h => by
    have := putL_eq ts 0 cv (by simp at h ⊢; omega)
    show c :: putL ts 0 cv = _
    rw [this]
    simp
  | t :: ts, n + 1, cv, h => by
    have := putL_eq ts n cv (by simp at h; omega)
    show t :: putL ts n cv = _
    rw [this]
    rw [show n + 1 + cv.length = (n + cv.length) + 1 from by omega]
    simp
noncomputable def inV (V : List Nat) (d : Nat) : Bool := List.rec (motive := fun _ => Bool) false (fun v _ ih => bif Nat.beq v d then true else ih) V
section
variable (P : Program) (F : Fax) (V : List Nat) (o : Oper) (E : En) (L : Ob) (k : KO)
noncomputable def eFrz (v : T) (K0 : Prop) : Prop := match v with
  | .mrow c n => (match lk L c with | some (.grid _ _ _ rows) => rows.length = n ∧ k [c] (.d (.sl 1 (rows.map (.sl 1)))) [(c, .gone)] | _ => K0)
  | .stk c ver .all => (match lk L c with | some (.stk _ kk v l) => v = ver ∧ k [c] (.d (.sl kk l)) [(c, .gone)] | _ => K0)
  | _ => K0
noncomputable def eAssign0 (x : Operand) : Prop := match o.dst, eo E x, lk F.el o.type with
  | some d, .d (.v (.slice none 0 0)), some (e, kk) => bif inV V d then lk L d = some .vac ∧ k [d] (.own kk [] d) [(d, .row e kk [])] else bif inV V (d + 2000) then lk L d = some .vac ∧ k [d] (.stk d 0 .all) [(d, .stk e kk 0 [])] else k [] (nz F o.type (eo E x)) []
  | _, _, _ => k [] (nz F o.type (eo E x)) []
noncomputable def eAssign (x : Operand) : Prop := match o.dst with
  | some d => bif inV V (d + 4000) then eFrz L k (eo E x) (eAssign0 F V o E L k x) else eAssign0 F V o E L k x
  | none => eAssign0 F V o E L k x
noncomputable def ePick (c a b : Operand) : Prop := match eo E c with
  | .d (.v (.bool v)) => (v = true → k [] (eo E a) []) ∧ (v = false → k [] (eo E b) [])
  | _ => gen P o E L k
noncomputable def eNil (x : Operand) : Prop := match eo E x with
  | .ref i off => k [] (.ref i off) []
  | .pi ds => k [] (.pi ds) []
  | _ => gen P o E L k
noncomputable def fOff (s f : Nat) : Option Nat := match lk F.fo s with | some l => lk l f | none => none
noncomputable def eField (s : Nat) (x : Operand) (f : Nat) : Prop := match eo E x, fOff F s f with
  | .ref i off, some fo => k [] (.ref i (off + fo)) []
  | .pi ds, some fo => k [] (.pi (ds.drop fo)) []
  | _, _ => gen P o E L k
noncomputable def eLoad (t : Nat) (x : Operand) : Prop := match eo E x, lk F.ag t with
  | .pi ds, some (false, _) => (match ds with | d :: _ => k [] (nz F t (.d d)) [] | [] => gen P o E L k)
  | .pi ds, some (true, m) => Nat.ble m ds.length = true ∧ k [] (.d (.agg (ds.take m))) []
  | .ref i off, some (false, _) => (match lk L i with
    | some (.cells _ ts) => (match ts[off]? with | some v => k [i] (nz F t v) [] | none => gen P o E L k)
    | some (.grid _ _ ver rows) => ∃ l : List D, rows[off]? = some l ∧ k [i] (.stk i ver (.row off)) []
    | some (.barr _ l ts) => (match lk F.un t with
      | some (.i .u8) => ∃ b : UInt8, l[off]? = some b ∧ k [i] (u8T b) []
      | _ => bif Nat.ble 800 off then (match ts[off - 800]? with | some v => l.length = 800 ∧ k [i] (nz F t v) [] | none => gen P o E L k) else gen P o E L k)
    | _ => gen P o E L k)
  | .ref i off, some (true, m) => (match lk L i with
    | some (.cells _ ts) => (match dsOf ((ts.drop off).take m) with | some ds => bif Nat.beq ds.length m then k [i] (.d (.agg ds)) [] else gen P o E L k | none => gen P o E L k)
    | _ => gen P o E L k)
  | .stk id ver (.el j), some (false, _) => (match lk L id with
    | some (.stk _ 1 v l) => v = ver ∧ ∃ d : D, l[j]? = some d ∧ d.lv = [d] ∧ k [id] (.d d) []
    | _ => gen P o E L k)
  | .stk id ver (.cell j t0), some (false, 1) => (match lk L id with
    | some (.grid _ _ v rows) => v = ver ∧ ∃ (l : List D) (d : D), rows[j]? = some l ∧ l[t0]? = some d ∧ d.lv = [d] ∧ k [id] (.d d) []
    | _ => gen P o E L k)
  | _, _ => gen P o E L k
noncomputable def eStoreG (t : Nat) (i off eo0 e ver : Nat) (rows : List (List D)) (tv : T) : Prop := match tv, lk F.ag t with
  | .stk c v2 .all, some (_, 1) => (match lk L c with
    | some (.stk e2 1 v l) => bif Nat.beq e2 e then v = v2 ∧ off < rows.length ∧ k [i, c] .und [(i, .grid eo0 e (ver + 1) (rows.set off l)), (c, .gone)] else gen P o E L k
    | _ => gen P o E L k)
  | _, _ => gen P o E L k
noncomputable def eStore (t : Nat) (x v : Operand) : Prop := match eo E x with
  | .stk id ver (.cell j t0) => (match lk L id, dOf (eo E v), lk F.ag t with
    | some (.grid eo0 e v' rows), some d, some (_, 1) => v' = ver ∧ ∃ l : List D, rows[j]? = some l ∧ t0 < l.length ∧ d.lv = [d] ∧ k [id] .und [(id, .grid eo0 e v' (rows.set j (l.set t0 d)))]
    | _, _, _ => gen P o E L k)
  | .stk id ver (.el j) => (match lk L id, dOf (eo E v), lk F.ag t with
    | some (.stk e 1 v' l), some d, some (_, 1) => v' = ver ∧ j < l.length ∧ d.lv = [d] ∧ k [id] .und [(id, .stk e 1 v' (l.set j d))]
    | _, _, _ => gen P o E L k)
  | .ref i off => (match lk L i, (nz F t (eo E v)).cv, lk F.ag t with
    | some (.cells e ts), some cv, some (_, m) => bif Nat.beq m cv.length && Nat.ble (off + cv.length) ts.length then k [i] .und [(i, .cells e (putL ts off cv))] else gen P o E L k
    | some (.grid eo0 e ver rows), _, _ => eStoreG P F o E L k t i off eo0 e ver rows (eo E v)
    | some (.barr e l ts), some cv, some (_, m) => (match lk F.un t, eo E v with
      | some (.i .u8), .d (.v (.int .u8 z)) => bif Nat.beq m 1 then ∃ b : UInt8, z = (b.toNat : Int) ∧ off < l.length ∧ k [i] .und [(i, .barr e (l.set off b) ts)] else gen P o E L k
      | _, _ => bif Nat.ble 800 off && Nat.beq m cv.length && Nat.ble (off - 800 + cv.length) ts.length then l.length = 800 ∧ k [i] .und [(i, .barr e l (putL ts (off - 800) cv))] else gen P o E L k)
    | _, _, _ => gen P o E L k)
  | _ => gen P o E L k
noncomputable def eIdx (t : Nat) (kk : Nat) (l : List D) (i : Operand) : Prop := match eo E i, lk F.el t with
  | .d (.v (.int _ z)), some (_, m) => bif Nat.beq kk m && Nat.blt 0 m then ∃ (j : Nat) (d : D), z = (j : Int) ∧ l[j]? = some d ∧ k [] (.pi d.lv) [] else gen P o E L k
  | _, _ => gen P o E L k
noncomputable def eArr (t : Nat) (i : Operand) (K : Nat → Prop) : Prop := match eo E i, lk F.ar t with
  | .d (.v (.int _ z)), some (m, n) => ∃ j : Nat, z = (j : Int) ∧ j < m ∧ K (j * n)
  | _, _ => False
noncomputable def eArr1 (t : Nat) (i : Operand) (K : Nat → Prop) : Prop := match eo E i, lk F.ar t with
  | .d (.v (.int _ z)), some (m, _) => ∃ j : Nat, z = (j : Int) ∧ j < m ∧ K j
  | _, _ => False
noncomputable def eIndexAddr (t : Nat) (x i : Operand) : Prop := match eo E x with
  | .ref id off => (match lk F.ar t with
    | some (_, 1) => bif Nat.beq off 0 then eArr1 F E t i fun j => k [] (.ref id j) [] else eArr F E t i fun j => k [] (.ref id (off + j)) []
    | _ => eArr F E t i fun j => k [] (.ref id (off + j)) [])
  | .pi ds => eArr F E t i fun j => k [] (.pi (ds.drop j)) []
  | .d (.sl kk l) => eIdx P F o E L k t kk l i
  | .own kk l _ => eIdx P F o E L k t kk l i
  | .stk id ver .all => (match lk L id, eo E i, lk F.el t with
    | some (.stk _ 1 v l), .d (.v (.int _ z)), some (_, 1) => v = ver ∧ ∃ j : Nat, z = (j : Int) ∧ j < l.length ∧ k [id] (.stk id ver (.el j)) []
    | _, _, _ => gen P o E L k)
  | .mrow id n => (match eo E i, lk F.el t with
    | .d (.v (.int _ z)), some (_, 1) => ∃ j : Nat, z = (j : Int) ∧ j < n ∧ k [] (.ref id j) []
    | _, _ => gen P o E L k)
  | .stk id ver (.row j) => (match lk L id, eo E i, lk F.el t with
    | some (.grid _ _ v rows), .d (.v (.int _ z)), some (_, 1) => v = ver ∧ ∃ (l : List D) (t0 : Nat), rows[j]? = some l ∧ z = (t0 : Int) ∧ t0 < l.length ∧ k [id] (.stk id ver (.cell j t0)) []
    | _, _, _ => gen P o E L k)
  | _ => gen P o E L k
noncomputable def eIndex (t : Nat) (x i : Operand) : Prop := match eo E x, eo E i, lk F.un t with
  | .d (.v (.string ⟨⟨l⟩⟩)), .d (.v (.int _ z)), some .s => ∃ (j : Nat) (b : UInt8), z = (j : Int) ∧ l[j]? = some b ∧ k [] (u8T b) []
  | _, _, _ => gen P o E L k
noncomputable def eSl {α : Type} (lo hi : Option Operand) (l : List α) (K : List α → Prop) (G : Prop) : Prop := match lo, hi with
  | none, none => K l
  | some x, none => (match eo E x with | .d (.v (.int _ z)) => ∃ a : Nat, z = (a : Int) ∧ a ≤ l.length ∧ K (l.drop a) | _ => G)
  | none, some y => (match eo E y with | .d (.v (.int _ z)) => ∃ b : Nat, z = (b : Int) ∧ b ≤ l.length ∧ K (l.take b) | _ => G)
  | some x, some y => (match eo E x, eo E y with | .d (.v (.int _ z)), .d (.v (.int _ u)) => ∃ a b : Nat, z = (a : Int) ∧ u = (b : Int) ∧ a ≤ b ∧ b ≤ l.length ∧ K ((l.drop a).take (b - a)) | _, _ => G)
noncomputable def eSliceA (t : Nat) (i off : Nat) (lo hi : Option Operand) : Prop := match lk F.ar t, lo, hi with
  | some (n, _), some x, some y => (match eo E x, eo E y with
    | .d (.v (.int _ 0)), .d (.v (.int _ u)) => bif Nat.beq off 0 && Nat.ble n 9223372036854775807 then ∃ b : Nat, u = (b : Int) ∧ b ≤ n ∧ k [] (.mrow i b) [] else gen P o E L k
    | _, _ => gen P o E L k)
  | _, _, _ => gen P o E L k
noncomputable def eSlice (t : Nat) (x : Operand) (lo hi mx : Option Operand) : Prop := match mx, eo E x, lk F.un t, lk F.el t with
  | none, .ref i off, _, _ => eSliceA P F o E L k t i off lo hi
  | none, .d (.v (.string ⟨⟨l⟩⟩)), some .s, _ => eSl E lo hi l (fun m => k [] (strT m) []) (gen P o E L k)
  | none, .d (.sl kk l), _, some (_, m) => bif Nat.beq kk m then eSl E lo hi l (fun m => k [] (.d (.sl kk m)) []) (gen P o E L k) else gen P o E L k
  | none, .own kk l _, _, some (_, m) => bif Nat.beq kk m then eSl E lo hi l (fun m => k [] (.d (.sl kk m)) []) (gen P o E L k) else gen P o E L k
  | none, .stk id ver .all, _, some (_, _) => (match lo, hi with
    | none, some y => (match eo E y, lk L id with
      | .d (.v (.int _ z)), some (.stk e kk v l) => v = ver ∧ ∃ b : Nat, z = (b : Int) ∧ b ≤ l.length ∧ k [id] (.stk id (ver + 1) .all) [(id, .stk e kk (ver + 1) (l.take b))]
      | _, _ => gen P o E L k)
    | _, _ => gen P o E L k)
  | _, _, _, _ => gen P o E L k
noncomputable def eInt (op : BinOp) (kk : IntKind) (a b : Int) : Prop := match op with
  | .add => ∃ r, kk.wrap (a + b) = r ∧ k [] (.d (.v (.int kk r))) []
  | .sub => ∃ r, kk.wrap (a - b) = r ∧ k [] (.d (.v (.int kk r))) []
  | .mul => ∃ r, kk.wrap (a * b) = r ∧ k [] (.d (.v (.int kk r))) []
  | .quo => b ≠ 0 ∧ ∃ r, kk.wrap (a.tdiv b) = r ∧ k [] (.d (.v (.int kk r))) []
  | .rem => b ≠ 0 ∧ ∃ r, a.tmod b = r ∧ k [] (.d (.v (.int kk r))) []
  | .and => ∃ r, kk.wrap (BitVec.ofInt kk.bits a &&& BitVec.ofInt kk.bits b).toNat = r ∧ k [] (.d (.v (.int kk r))) []
  | .or => ∃ r, kk.wrap (BitVec.ofInt kk.bits a ||| BitVec.ofInt kk.bits b).toNat = r ∧ k [] (.d (.v (.int kk r))) []
  | .xor => ∃ r, kk.wrap (BitVec.ofInt kk.bits a ^^^ BitVec.ofInt kk.bits b).toNat = r ∧ k [] (.d (.v (.int kk r))) []
  | .andNot => ∃ r, kk.wrap (BitVec.ofInt kk.bits a &&& ~~~ BitVec.ofInt kk.bits b).toNat = r ∧ k [] (.d (.v (.int kk r))) []
  | .eql => ∃ c, (a == b) = c ∧ k [] (boolT c) []
  | .neq => ∃ c, (a != b) = c ∧ k [] (boolT c) []
  | .lss => ∃ c, decide (a < b) = c ∧ k [] (boolT c) []
  | .leq => ∃ c, decide (a ≤ b) = c ∧ k [] (boolT c) []
  | .gtr => ∃ c, decide (b < a) = c ∧ k [] (boolT c) []
  | .geq => ∃ c, decide (b ≤ a) = c ∧ k [] (boolT c) []
  | _ => gen P o E L k
noncomputable def eStr (op : BinOp) (a b : List UInt8) : Prop := match op with
  | .add => a.length + b.length ≤ 9223372036854775807 ∧ k [] (strT (a ++ b)) []
  | .eql => ∃ c, (a == b) = c ∧ k [] (boolT c) []
  | .neq => ∃ c, (!(a == b)) = c ∧ k [] (boolT c) []
  | .lss => ∃ c, Op.bytesLess a b = c ∧ k [] (boolT c) []
  | _ => gen P o E L k
noncomputable def eBool (op : BinOp) (t : Nat) (a b : Bool) : Prop := match op, lk F.un t with
  | .eql, some .b => ∃ c, (a == b) = c ∧ k [] (boolT c) []
  | .neq, some .b => ∃ c, (a != b) = c ∧ k [] (boolT c) []
  | _, _ => gen P o E L k
/-- Values alone. -/
noncomputable def vsOf (l : List D) : Option (List Value) := List.rec (motive := fun _ => Option (List Value)) (some []) (fun d _ ih => match d, ih with | .v x, some xs => some (x :: xs) | _, _ => none) l
noncomputable def eAgB (op : BinOp) (t : Nat) (a b : List D) : Prop := match vsOf a, vsOf b with
  | some xs, some ys => ∃ c : Bool, BinR P op t (.agg xs.toArray) (.agg ys.toArray) (.bool c) ∧ k [] (boolT c) []
  | _, _ => gen P o E L k
noncomputable def eSh (op : BinOp) (ka : IntKind) (a b : Int) (K : Prop) : Prop := match op with
  | .shl => 0 ≤ b ∧ ∃ r, ka.wrap (a * 2 ^ min b.toNat ka.bits) = r ∧ k [] (.d (.v (.int ka r))) []
  | .shr => 0 ≤ b ∧ ∃ r, a.fdiv (2 ^ min b.toNat ka.bits) = r ∧ k [] (.d (.v (.int ka r))) []
  | _ => K
/-- Floats of one kind. -/
noncomputable def eFlt (op : BinOp) (kk : FloatKind) (a b : Nat) : Prop := match op with
  | .mul => ∃ r, kk.format.mul a b = some r ∧ k [] (.d (.v (.float kk r))) []
  | .quo => ∃ r, kk.format.div a b = some r ∧ k [] (.d (.v (.float kk r))) []
  | .eql => ∃ c, (kk.format.order a b == some .eq) = c ∧ k [] (boolT c) []
  | .lss => ∃ c, (kk.format.order a b == some .lt) = c ∧ k [] (boolT c) []
  | .gtr => ∃ c, (kk.format.order a b == some .gt) = c ∧ k [] (boolT c) []
  | _ => gen P o E L k
noncomputable def eBin (op : BinOp) (t : Nat) (x y : Operand) : Prop := match eo E x, eo E y with
  | .d (.agg a), .d (.agg b) => eAgB P o E L k op t a b
  | .d (.v (.int ka a)), .d (.v (.int kb b)) => eSh k op ka a b (bif ikb ka kb then eInt P o E L k op ka a b else gen P o E L k)
  | .d (.v (.string ⟨⟨a⟩⟩)), .d (.v (.string ⟨⟨b⟩⟩)) => eStr P o E L k op a b
  | .d (.v (.bool a)), .d (.v (.bool b)) => eBool P F o E L k op t a b
  | .d (.v (.float .f64 a)), .d (.v (.float .f64 b)) => eFlt P o E L k op .f64 a b
  | _, _ => gen P o E L k
noncomputable def eUn (op : UnOp) (x : Operand) : Prop := match op, eo E x with
  | .not, .d (.v (.bool b)) => ∃ c, (!b) = c ∧ k [] (boolT c) []
  | .neg, .d (.v (.int kk a)) => ∃ r, kk.wrap (0 - a) = r ∧ k [] (.d (.v (.int kk r))) []
  | _, _ => gen P o E L k
noncomputable def eConv (s t : Nat) (x : Operand) : Prop := match eo E x, lk F.un s, lk F.un t with
  | .d (.v (.int ka a)), some (.i ks), some (.i kt) => bif ikb ka ks then ∃ r, kt.wrap a = r ∧ k [] (.d (.v (.int kt r))) [] else gen P o E L k
  | .d (.v (.int ka a)), some (.i ks), some .s => bif ikb ka ks then ∃ l, EncB a l ∧ k [] (strT l) [] else gen P o E L k
  | _, _, _ => gen P o E L k
noncomputable def eExtract (x : Operand) (i : Nat) : Prop := match eo E x with
  | .tup l => (match l[i]? with | some v => k [] v [] | none => gen P o E L k)
  | _ => gen P o E L k
noncomputable def eAlloc (e : Nat) : Prop := match o.dst, lk F.ze e with
  | some d, some (_, ds) => lk L d = some .vac ∧ k [d] (.ref d 0) [(d, .cells e (ds.map .d))]
  | _, _ => gen P o E L k
noncomputable def eBox (e : Nat) (x : Operand) : Prop := match o.dst, dOf (eo E x) with
  | some d, some v => bif inV V (d + 1000) then k [] (.pi v.lv) [] else lk L d = some .vac ∧ k [d] (.ref d 0) [(d, .cells e (v.lv.map .d))]
  | some d, none => (match (eo E x).cv with | some l => lk L d = some .vac ∧ k [d] (.ref d 0) [(d, .cells e l)] | none => gen P o E L k)
  | _, _ => gen P o E L k
noncomputable def bParts (fl : List (Nat × Nat)) (ps : List (Nat × Operand)) : Option (List (Nat × Nat × D)) := List.rec (motive := fun _ => Option (List (Nat × Nat × D))) (some []) (fun p _ ih => match dOf (eo E p.2), fl[p.1]?, ih with
    | some d, some (off, size), some qs => some ((off, size, d) :: qs)
    | _, _, _ => none) ps
def nilTo (d z : D) : D := match d with
  | .v (.slice none 0 0) => (match z with | .sl kk [] => .sl kk [] | _ => .v (.slice none 0 0))
  | d => d
noncomputable def mergeN (ds zs : List D) : List D := List.rec (motive := fun _ => List D → List D) (fun _ => []) (fun d ds ih zs => match zs with | [] => d :: ds | z :: zs => nilTo d z :: ih zs) ds zs
noncomputable def bPartsT (fl : List (Nat × Nat)) (ps : List (Nat × Operand)) : Option (List (Nat × List T)) := List.rec (motive := fun _ => Option (List (Nat × List T))) (some []) (fun p _ ih => match (eo E p.2).cv, fl[p.1]?, ih with
    | some us, some (off, m), some qs => bif Nat.beq us.length m then some ((off, us) :: qs) else none
    | _, _, _ => none) ps
def isNilT (t : T) : Bool := match t with | .d (.v (.slice none 0 0)) => true | _ => false
theorem isNilT_ok {t : T} (h : isNilT t = true) : t = .d (.v (.slice none 0 0)) := by
  unfold isNilT at h
  split at h
  · rfl
  · cases h
def up1 (o : Option Nat) : Option Nat := match o with | some n => some (n + 1) | none => none
noncomputable def nilAt (l : List T) : Option Nat := List.rec (motive := fun _ => Option Nat) none (fun t _ ih => bif isNilT t then some 0 else up1 ih) l
noncomputable def eBuildT (zs : List Value) (fl : List (Nat × Nat)) (ps : List (Nat × Operand)) : Prop := match bPartsT E fl ps, o.dst with
  | some qs, some d => bif fitsT qs (zs.map fun x => T.d (.v x)).length then (match inV V (d + 2000), nilAt (fillT qs (zs.map fun x => T.d (.v x))) with
    | true, some i => ∃ e kk : Nat, lk L d = some .vac ∧ k [d] (.ag ((fillT qs (zs.map fun x => T.d (.v x))).set i (.stk d 0 .all))) [(d, .stk e kk 0 [])]
    | _, _ => k [] (.ag (fillT qs (zs.map fun x => T.d (.v x)))) []) else gen P o E L k
  | _, _ => gen P o E L k
noncomputable def bPartsA (kk : Nat) (ps : List (Nat × Operand)) : Option (List (Nat × Nat × D)) := List.rec (motive := fun _ => Option (List (Nat × Nat × D))) (some []) (fun p _ ih => match dOf (eo E p.2), ih with
    | some d, some qs => some ((p.1 * kk, kk, d) :: qs)
    | _, _ => none) ps
noncomputable def eBuild (t : Nat) (ps : List (Nat × Operand)) : Prop := match lk F.ze t, lk F.pl t with
  | some (zs, zd), some fl => (match bParts E fl ps with
    | some qs => (match fillD qs (zs.map .v) with | some ds => k [] (.d (.agg (mergeN ds zd))) [] | none => gen P o E L k)
    | none => eBuildT P V o E L k zs fl ps)
  | some (zs, zd), none => (match lk F.ar t with
    | some (_, kk) => (match bPartsA E kk ps with
      | some qs => (match fillD qs (zs.map .v) with | some ds => k [] (.d (.agg (mergeN ds zd))) [] | none => gen P o E L k)
      | none => gen P o E L k)
    | none => gen P o E L k)
  | _, _ => gen P o E L k
noncomputable def bFull (i : Nat) (ps : List (Nat × Operand)) : Option (List D) := List.rec (motive := fun _ => Nat → Option (List D)) (fun _ => some []) (fun p _ ih i => match dOf (eo E p.2), ih (i + 1) with
    | some d, some l => bif Nat.beq p.1 i then some (d :: l) else none
    | _, _ => none) ps i
noncomputable def eLit (t len : Nat) (ps : List (Nat × Operand)) : Prop := match lk F.el t, bFull E 0 ps with
  | some (e, kk), some l => (match lk F.ze e with
    | some (zs, _) => bif (Nat.beq l.length len && (Nat.ble (len * kk) 1000 && (Nat.blt 0 zs.length && (Nat.blt 0 kk && l.all fun d => Nat.beq d.lv.length kk)))) then
        (match o.dst with
        | some d => bif inV V d then lk L d = some .vac ∧ k [d] (.own kk l d) [(d, .row e kk l)] else k [] (.d (.sl kk l)) []
        | none => k [] (.d (.sl kk l)) [])
      else gen P o E L k
    | none => gen P o E L k)
  | _, _ => gen P o E L k
noncomputable def eFunc (f : Fn) (a b : List Operand) : Prop := match f, a with
  | .func f, [] => k [] (.fn f (b.map (eo E))) []
  | .func f, x :: a => (match b with
    | [] => k [] (.bf f ((x :: a).map (eo E))) []
    | _ => gen P o E L k)
  | _, _ => gen P o E L k
noncomputable def eLen (x : Operand) (t : Nat) : Prop := match eo E x, lk F.el t, lk F.un t with
  | .d (.sl kk l), some (_, m), _ => bif Nat.beq kk m then k [] (intT l.length) [] else gen P o E L k
  | .own kk l _, some (_, m), _ => bif Nat.beq kk m then k [] (intT l.length) [] else gen P o E L k
  | .d (.v (.string ⟨⟨l⟩⟩)), _, some .s => k [] (intT l.length) []
  | .stk id ver .all, some (_, _), _ => (match lk L id with
    | some (.stk _ _ v l) => v = ver ∧ k [id] (intT l.length) []
    | _ => gen P o E L k)
  | .mrow _ n, some (_, _), _ => k [] (intT n) []
  | .stk id ver (.row j), some (_, _), _ => (match lk L id with
    | some (.grid _ _ v rows) => v = ver ∧ ∃ l : List D, rows[j]? = some l ∧ k [id] (intT l.length) []
    | _ => gen P o E L k)
  | _, _, _ => gen P o E L k
noncomputable def eMM (x y : Operand) (mx : Bool) : Prop := match eo E x, eo E y with
  | .d (.v (.int ka a)), .d (.v (.int kb b)) => bif ikb ka kb then ∃ r, (if mx = true then (if a < b then b else a) else (if b < a then b else a)) = r ∧ k [] (.d (.v (.int ka r))) [] else gen P o E L k
  | _, _ => gen P o E L k
noncomputable def eApp (s x : Operand) (t : Nat) : Prop := match eo E s, dOf (eo E x), lk F.ro t with
  | .own kk l id, some (.sl k2 m), some (e, k3, _) => bif (Nat.beq kk k2 && Nat.beq kk k3) then lk L id = some (.row e kk l) ∧ l.length + m.length ≤ 10000000 ∧ k [id] (.own kk (l ++ m) id) [(id, .row e kk (l ++ m))] else gen P o E L k
  | .stk id ver .all, some (.sl k2 m), some (e, k3, _) => (match lk L id with
    | some (.stk e2 kk v l) => bif Nat.beq kk k2 && (Nat.beq kk k3 && Nat.beq e e2) then v = ver ∧ l.length + m.length ≤ 10000000 ∧ k [id] (.stk id (ver + 1) .all) [(id, .stk e kk (ver + 1) (l ++ m))] else gen P o E L k
    | _ => gen P o E L k)
  | _, _, _ => gen P o E L k
def noN {α : Type} : Option (Option α) → Bool
  | some none => false
  | _ => true
noncomputable def eMakeMap (t : Nat) (r : Option Operand) : Prop := match o.dst, r, lk F.mt t with
  | some d, none, some (_, ds, et, _) => (match inV V (d + 3000), lk F.el et with
    | true, some (e, kk) => lk L d = some .vac ∧ k [d] (.mp d) [(d, .rmap ds e kk [])]
    | _, _ => lk L d = some .vac ∧ k [d] (.mp d) [(d, .map ds [])])
  | _, _, _ => gen P o E L k
noncomputable def eMake (t : Nat) (x y : Operand) : Prop := match o.dst, eo E x, eo E y, lk F.mks t with
  | some d, .d (.v (.int _ a)), .d (.v (.int _ b)), some (e, z) => (match inV V (d + 2000), inV V (d + 3000), z, lk F.el e with
    | true, _, _, _ => ∃ n : Nat, a = (n : Int) ∧ b = (n : Int) ∧ n ≤ 10000000 ∧ lk L d = some .vac ∧ k [d] (.stk d 0 .all) [(d, .stk e 1 0 (List.replicate n (zD z (match lk F.el e with | some (_, m) => some m | none => none))))]
    | false, true, .slice none 0 0, some (e2, _) => ∃ n : Nat, a = (n : Int) ∧ b = (n : Int) ∧ n ≤ 10000000 ∧ lk L d = some .vac ∧ k [d] (.mrow d n) [(d, .grid e e2 0 (List.replicate n []))]
    | _, _, _, _ => gen P o E L k)
  | _, _, _, _ => gen P o E L k
noncomputable def eLook (t : Nat) (m x : Operand) (ok : Bool) : Prop := match eo E m, eo E x, lk F.mt t with
  | .mp id, .d (.v kv), some (_, ds, _, z) => (match lk L id, ok with
    | some (.map d2 M), false => d2 = ds ∧ Go.MapKept.IsKey ds kv ∧ ∃ r, mfind M kv = r ∧ k [id] (lookD z r) []
    | some (.map d2 M), true => d2 = ds ∧ Go.MapKept.IsKey ds kv ∧ ∃ r, mfind M kv = r ∧ k [id] (.tup [lookD z r, boolT r.isSome]) []
    | some (.rmap d2 e n M), false => d2 = ds ∧ Go.MapKept.IsKey ds kv ∧ z = .slice none 0 0 ∧ noN (mfind M kv) = true ∧ ∃ r, rowD (mfind M kv) = r ∧ (match o.dst with
      | some d => bif inV V d then lk L d = some .vac ∧ k [id, d] (.own n r d) [(id, .rmap d2 e n (mtake M kv)), (d, .row e n r)] else k [id] (.d (.sl n r)) []
      | none => k [id] (.d (.sl n r)) [])
    | _, _ => gen P o E L k)
  | _, _, _ => gen P o E L k
noncomputable def eMapU (t : Nat) (m x v : Operand) : Prop := match eo E m, eo E x, lk F.mt t with
  | .mp id, .d (.v kv), some (_, ds, _, _) => (match lk L id with
    | some (.map d2 M) => (match dOf (eo E v) with | some y => d2 = ds ∧ Go.MapKept.IsKey ds kv ∧ k [id] .und [(id, .map d2 (mput M kv y))] | none => gen P o E L k)
    | some (.rmap d2 e n M) => (match eo E v with
      | .own n2 l c => d2 = ds ∧ Go.MapKept.IsKey ds kv ∧ n2 = n ∧ lk L c = some (.row e n l) ∧ ∃ M0, M = mtake M0 kv ∧ k [id, c] .und [(id, .rmap d2 e n (mput M0 kv (some l))), (c, .gone)]
      | _ => gen P o E L k)
    | _ => gen P o E L k)
  | _, _, _ => gen P o E L k
noncomputable def eDel (m x : Operand) (t kt : Nat) : Prop := match eo E m, eo E x, lk F.mt t with
  | .mp id, .d (.v kv), some (kt', ds, _, _) => bif Nat.beq kt kt' then (match lk L id with
    | some (.map d2 M) => d2 = ds ∧ Go.MapKept.IsKey ds kv ∧ k [id] .und [(id, .map d2 (mdel M kv))]
    | some (.rmap d2 e n M) => d2 = ds ∧ Go.MapKept.IsKey ds kv ∧ k [id] .und [(id, .rmap d2 e n (mdel M kv))]
    | _ => gen P o E L k) else gen P o E L k
  | _, _, _ => gen P o E L k
noncomputable def eCall (c : Call) : Prop := match c.callee, c.args.toList, c.argTypes.toList with
  | .builtin .delete, [m, x], [t, kt] => eDel P F o E L k m x t kt
  | .builtin .len, [x], [t] => eLen P F o E L k x t
  | .builtin .min, [x, y], _ => eMM P o E L k x y false
  | .builtin .max, [x, y], _ => eMM P o E L k x y true
  | .builtin .append, [s, x], [t, t'] => bif Nat.beq t t' then eApp P F o E L k s x t else gen P o E L k
  | _, _, _ => gen P o E L k
/-- What an operation asks for. -/
noncomputable def evOp0 : Prop := match o.op with
  | .move x => k [] (nz F o.type (eo E x)) []
  | .assign x => eAssign F V o E L k x
  | .pick c a b => ePick P o E L k c a b
  | .nilCheck x => eNil P o E L k x
  | .fieldAddr s x f => eField P F o E L k s x f
  | .load t x => eLoad P F o E L k t x
  | .store t x v => eStore P F o E L k t x v
  | .indexAddr t x i => eIndexAddr P F o E L k t x i
  | .index t x i => eIndex P F o E L k t x i
  | .slice t x lo hi mx => eSlice P F o E L k t x lo hi mx
  | .binOp op t x y _ => eBin P F o E L k op t x y
  | .unOp op _ x => eUn P o E L k op x
  | .convert s t x => eConv P F o E L k s t x
  | .extract x i => eExtract P o E L k x i
  | .alloc e => eAlloc P F o E L k e
  | .box e x => eBox P V o E L k e x
  | .build t ps => eBuild P F V o E L k t ps.toList
  | .buildSlice t len ps => eLit P F V o E L k t len ps.toList
  | .makeFunc f a b => eFunc P o E L k f a.toList b.toList
  | .call c => eCall P F o E L k c
  | .makeMap t r => eMakeMap P F V o E L k t r
  | .makeSlice t x y => eMake P F V o E L k t x y
  | .lookup t m x ok => eLook P F V o E L k t m x ok
  | .mapUpdate t m x v => eMapU P F o E L k t m x v
  | _ => gen P o E L k
/-- d + 5000 in V: the operation that writes slot d is left to a law by hand. -/
noncomputable def evOp : Prop := match o.dst with
  | some d => bif inV V (d + 5000) then gen P o E L k else evOp0 P F V o E L k
  | none => evOp0 P F V o E L k
end
/-! ### It serves -/
section
variable {P : Program} {F : Fax} {V : List Nat} {o : Oper} {E : En} {L : Ob} {k : KO}
theorem gen_nil {v : T} (h : Tri P o (sl E) [] v []) (hk : k [] v []) : gen P o E L k := ⟨[], v, [], h, fun p hp => (by cases hp), hk⟩
theorem gen_one {v : T} {i : Nat} {ob : GObj} {post : Ob} (h : Tri P o (sl E) [(i, ob)] v post) (hl : lk L i = some ob) (hk : k [i] v post) : gen P o E L k := ⟨[(i, ob)], v, post, h, fun p hp => by rw [List.mem_singleton.1 hp]; exact hl, hk⟩
theorem gen_two {v : T} {i j : Nat} {a b : GObj} {post : Ob} (h : Tri P o (sl E) [(i, a), (j, b)] v post) (hi : lk L i = some a) (hj : lk L j = some b) (hk : k [i, j] v post) : gen P o E L k := ⟨[(i, a), (j, b)], v, post, h, fun p hp => by
  rcases List.mem_cons.1 hp with rfl | hp
  · exact hi
  · rw [List.mem_singleton.1 hp]; exact hj, hk⟩
theorem s_frz {x : Operand} {K0 : Prop} (ho : o.op = .assign x ∨ o.op = .move x) (h : eFrz L k (eo E x) K0) (h0 : K0 → gen P o E L k) : gen P o E L k := by
  unfold eFrz at h
  split at h
  · next c n hx =>
    split at h
    · next hl => exact gen_one (t_frz_grid ho hx h.1) hl h.2
    · exact h0 h
  · next c ver hx =>
    split at h
    · next e kk v l hl =>
      obtain ⟨rfl, h⟩ := h
      exact gen_one (t_frz_stk ho hx) hl h
    · exact h0 h
  · exact h0 h
theorem s_assign0 {x : Operand} (ho : o.op = .assign x) (h : eAssign0 F V o E L k x) : gen P o E L k := by
  have plain : k [] (nz F o.type (eo E x)) [] → gen P o E L k := fun hk => gen_nil (t_assign ho (nz_le F o.type _)) hk
  unfold eAssign0 at h
  split at h
  · next d e kk hd hx hel =>
    cases hv : inV V d with
    | true =>
      rw [hv] at h
      exact gen_one (t_nilrow ho hx) h.1 h.2
    | false =>
      rw [hv] at h
      cases hv2 : inV V (d + 2000) with
      | true =>
        rw [hv2] at h
        exact gen_one (t_stk_nil ho hx) h.1 h.2
      | false =>
        rw [hv2] at h
        exact plain h
  · exact plain h
theorem s_assign {x : Operand} (ho : o.op = .assign x) (h : eAssign F V o E L k x) : gen P o E L k := by
  unfold eAssign at h
  split at h
  · next d hd =>
    cases hv : inV V (d + 4000) with
    | true => rw [hv] at h; exact s_frz (.inl ho) h (s_assign0 ho)
    | false => rw [hv] at h; exact s_assign0 ho h
  · exact s_assign0 ho h
theorem s_pick {c a b : Operand} (ho : o.op = .pick c a b) (h : ePick P o E L k c a b) : gen P o E L k := by
  unfold ePick at h
  split at h
  · next v hc =>
    cases v with
    | true => exact gen_nil (t_pick_t ho hc (TLe.refl _)) (h.1 rfl)
    | false => exact gen_nil (t_pick_f ho hc (TLe.refl _)) (h.2 rfl)
  · exact h
theorem s_nil {x : Operand} (ho : o.op = .nilCheck x) (h : eNil P o E L k x) : gen P o E L k := by
  unfold eNil at h
  split at h
  · next i off hx => exact gen_nil (t_nil ho hx (.inl ⟨i, off, rfl⟩)) h
  · next ds hx => exact gen_nil (t_nil ho hx (.inr ⟨ds, rfl⟩)) h
  · exact h
theorem fOff_ok {s f fo : Nat} (hF : FaxOK P F) (h : fOff F s f = some fo) : fieldOff? P s f = some fo := by
  unfold fOff at h
  split at h
  · next l hl => exact hF.fo s l f fo hl h
  · cases h
theorem s_field {s : Nat} {x : Operand} {f : Nat} (ho : o.op = .fieldAddr s x f) (h : eField P F o E L k s x f) (hF : FaxOK P F) : gen P o E L k := by
  unfold eField at h
  split at h
  · next i off fo hx hf => exact gen_nil (t_field_ref ho (fOff_ok hF hf) hx) h
  · next ds fo hx hf => exact gen_nil (t_field ho (fOff_ok hF hf) hx) h
  · exact h
theorem s_load {t : Nat} {x : Operand} (ho : o.op = .load t x) (h : eLoad P F o E L k t x) (hF : FaxOK P F) : gen P o E L k := by
  unfold eLoad at h
  split at h
  · next ds m hx ha =>
    split at h
    · next d ds => exact gen_nil ((t_load ho (hF.ag _ _ _ ha) hx rfl).le (nz_le F t _)) h
    · exact h
  · next ds m hx ha => exact gen_nil (t_load_agg ho (hF.ag _ _ _ ha) hx (Nat.le_of_ble_eq_true h.1)) h.2
  · next i off m hx ha =>
    split at h
    · next e ts hl =>
      split at h
      · next v hv => exact gen_one ((t_load_ref ho (hF.ag _ _ _ ha) hx hv).le (nz_le F t _)) hl h
      · exact h
    · next eo0 e ver rows hl =>
      obtain ⟨l, h1, hk⟩ := h
      exact gen_one (t_grid_load ho (hF.ag _ _ _ ha) hx h1) hl hk
    · next e l ts hl =>
      split at h
      · obtain ⟨b, hb, hk⟩ := h
        exact gen_one (t_load_b8 ho (hF.ag _ _ _ ha) hx hb) hl hk
      · cases hb : Nat.ble 800 off with
        | true =>
          rw [hb] at h
          simp only [cond_true] at h
          split at h
          · next v hv => exact gen_one ((t_load_bt ho (hF.ag _ _ _ ha) hx (by have := Nat.le_of_ble_eq_true hb; have := h.1; omega) hv).le (nz_le F t _)) hl h.2
          · exact h
        | false => rw [hb] at h; exact h
    · exact h
  · next i off m hx ha =>
    split at h
    · next e ts hl =>
      split at h
      · next ds hv =>
        cases hb : Nat.beq ds.length m with
        | true =>
          rw [hb] at h
          exact gen_one (t_load_refd ho (hF.ag _ _ _ ha) hx hv (Nat.eq_of_beq_eq_true hb)) hl h
        | false => rw [hb] at h; exact h
      · exact h
    · exact h
  · next id ver j m hx ha =>
    split at h
    · next e2 v l hl =>
      obtain ⟨rfl, h⟩ := h
      obtain ⟨d, h2, h3, hk⟩ := h
      exact gen_one (t_stk_load ho (hF.ag _ _ _ ha) hx h2 h3) hl hk
    · exact h
  · next id ver j t0 hx ha =>
    split at h
    · next eo0 e v rows hl =>
      obtain ⟨rfl, h⟩ := h
      obtain ⟨l, d, h2, h3, h4, hk⟩ := h
      exact gen_one (t_cell_load ho (hF.ag _ _ _ ha) hx h2 h3 h4) hl hk
    · exact h
  · exact h
theorem s_storeG {t i off eo0 e ver : Nat} {rows : List (List D)} {x v : Operand} (ho : o.op = .store t x v) (hx : eo E x = .ref i off) (hl : lk L i = some (.grid eo0 e ver rows)) (h : eStoreG P F o E L k t i off eo0 e ver rows (eo E v)) (hF : FaxOK P F) : gen P o E L k := by
  unfold eStoreG at h
  split at h
  · next c v2 bb hv ha =>
    split at h
    · next e2 v' l hc =>
      cases hb : Nat.beq e2 e with
      | true =>
        rw [hb] at h
        have h2 := Nat.eq_of_beq_eq_true hb
        obtain ⟨rfl, h⟩ := h
        subst h2
        exact gen_two (t_put_row ho (hF.ag _ _ _ ha) hx hv h.1) hl hc h.2
      | false => rw [hb] at h; exact h
    · exact h
  · exact h
theorem s_store {t : Nat} {x v : Operand} (ho : o.op = .store t x v) (h : eStore P F o E L k t x v) (hF : FaxOK P F) : gen P o E L k := by
  unfold eStore at h
  split at h
  · next id ver j t0 hx =>
    split at h
    · next eo0 e v' rows d bb hl hv ha =>
      obtain ⟨rfl, h⟩ := h
      obtain ⟨l, h2, h3, h4, hk⟩ := h
      exact gen_one (t_cell_store ho (hF.ag _ _ _ ha) hx (dOf_le hv) h2 h3 h4) hl hk
    · exact h
  · next id ver j hx =>
    split at h
    · next e v' l d bb hl hv ha =>
      obtain ⟨rfl, h3, h4, hk⟩ := h
      exact gen_one (t_stk_store ho (hF.ag _ _ _ ha) hx (dOf_le hv) h3 h4) hl hk
    · exact h
  · next i off hx =>
    split at h
    · next e ts cv b m hl hc ha =>
      cases hb : (Nat.beq m cv.length && Nat.ble (off + cv.length) ts.length) with
      | true =>
        rw [hb] at h
        rw [Bool.and_eq_true] at hb
        have h1 := Nat.eq_of_beq_eq_true hb.1
        have h2 := Nat.le_of_ble_eq_true hb.2
        subst h1
        have h3 : k [i] .und [(i, .cells e (putL ts off cv))] := h
        rw [putL_eq ts off cv h2] at h3
        exact gen_one (t_store ho hx (nz_le F t _) hc (hF.ag _ _ _ ha) h2) hl h3
      | false => rw [hb] at h; exact h
    · exact s_storeG ho hx (by assumption) h hF
    · next e l ts cv b m hl hc ha =>
      split at h
      · next z hu hv =>
        cases hb : Nat.beq m 1 with
        | true =>
          rw [hb] at h
          have h1 := Nat.eq_of_beq_eq_true hb
          subst h1
          obtain ⟨b, rfl, h2, hk⟩ := h
          exact gen_one (t_store_b8 ho hx hv (hF.ag _ _ _ ha) h2) hl hk
        | false => rw [hb] at h; exact h
      · cases hb : (Nat.ble 800 off && Nat.beq m cv.length && Nat.ble (off - 800 + cv.length) ts.length) with
        | true =>
          rw [hb] at h
          rw [Bool.and_eq_true, Bool.and_eq_true] at hb
          have h0 := Nat.le_of_ble_eq_true hb.1.1
          have h1 := Nat.eq_of_beq_eq_true hb.1.2
          have h2 := Nat.le_of_ble_eq_true hb.2
          subst h1
          obtain ⟨h4, h3⟩ : l.length = 800 ∧ k [i] .und [(i, .barr e l (putL ts (off - 800) cv))] := h
          rw [putL_eq ts (off - 800) cv h2] at h3
          exact gen_one (t_store_bt ho hx (by omega) (nz_le F t _) hc (hF.ag _ _ _ ha) h2) hl h3
        | false => rw [hb] at h; exact h
    · exact h
  · exact h
theorem s_idx {t kk : Nat} {l : List D} {x i : Operand} (ho : o.op = .indexAddr t x i) (hx : TLe (eo E x) (.d (.sl kk l))) (h : eIdx P F o E L k t kk l i) (hF : FaxOK P F) : gen P o E L k := by
  unfold eIdx at h
  split at h
  · next kd z e m hi he =>
    cases hb : (Nat.beq kk m && Nat.blt 0 m) with
    | true =>
      rw [hb] at h
      rw [Bool.and_eq_true] at hb
      have h1 := Nat.eq_of_beq_eq_true hb.1
      subst h1
      obtain ⟨j, d, rfl, hd, hk⟩ := h
      exact gen_nil (t_index ho (hF.el _ _ _ he) hx hi hd (Nat.le_of_ble_eq_true hb.2)) hk
    | false => rw [hb] at h; exact h
  · exact h
theorem s_indexAddr {t : Nat} {x i : Operand} (ho : o.op = .indexAddr t x i) (h : eIndexAddr P F o E L k t x i) (hF : FaxOK P F) : gen P o E L k := by
  unfold eIndexAddr at h
  split at h
  · next id off hx =>
    have old : eArr F E t i (fun j => k [] (.ref id (off + j)) []) → gen P o E L k := fun h => by
      unfold eArr at h
      split at h
      · next kd z m n hi ha =>
        obtain ⟨j, rfl, hj, hk⟩ := h
        exact gen_nil (t_index_aref ho (hF.ar _ _ _ ha) hx hi hj) hk
      · exact h.elim
    split at h
    · next m0 ha0 =>
      cases hb : Nat.beq off 0 with
      | true =>
        rw [hb] at h
        have h1 := Nat.eq_of_beq_eq_true hb
        subst h1
        have h : eArr1 F E t i (fun j => k [] (.ref id j) []) := h
        unfold eArr1 at h
        rw [ha0] at h
        split at h
        · next kd z m n hi ha =>
          obtain ⟨j, rfl, hj, hk⟩ := h
          cases ha
          have := t_index_aref ho (hF.ar _ _ _ ha0) hx hi hj
          rw [Nat.mul_one, Nat.zero_add] at this
          exact gen_nil this hk
        · exact h.elim
      | false => rw [hb] at h; exact old h
    · exact old h
  · next ds hx =>
    unfold eArr at h
    split at h
    · next kd z m n hi ha =>
      obtain ⟨j, rfl, hj, hk⟩ := h
      exact gen_nil (t_index_api ho (hF.ar _ _ _ ha) hx hi hj) hk
    · exact h.elim
  · next kk l hx => exact s_idx ho (TLe.of_eq hx) h hF
  · next kk l id hx => exact s_idx ho (by rw [hx]; exact TLe.own) h hF
  · next id ver hx =>
    split at h
    · next e2 v l kd z e hl hi he =>
      obtain ⟨rfl, h⟩ := h
      obtain ⟨j, rfl, hj, hk⟩ := h
      have := t_stk_addr (e := e2) (k := 1) (l := l) ho (hF.el _ _ _ he) hx hi hj
      rw [Nat.mul_one] at this
      exact gen_one this hl hk
    · exact h
  · next id n hx =>
    split at h
    · next kd z e hi he =>
      obtain ⟨j, rfl, hj, hk⟩ := h
      have := t_mrow_addr ho (hF.el _ _ _ he) hx hi hj
      rw [Nat.mul_one] at this
      exact gen_nil this hk
    · exact h
  · next id ver j hx =>
    split at h
    · next eo0 e v rows kd z e' hl hi he =>
      obtain ⟨rfl, h⟩ := h
      obtain ⟨l, t0, h2, rfl, h3, hk⟩ := h
      exact gen_one (t_row_addr ho (hF.el _ _ _ he) hx hi h2 h3) hl hk
    · exact h
  · exact h
theorem s_index {t : Nat} {x i : Operand} (ho : o.op = .index t x i) (h : eIndex P F o E L k t x i) (hF : FaxOK P F) : gen P o E L k := by
  unfold eIndex at h
  split at h
  · next l kd z hx hi hu =>
    obtain ⟨j, b, rfl, hb, hk⟩ := h
    exact gen_nil (t_index_s ho (hF.us _ hu) hx hi hb) hk
  · exact h
theorem s_sl {α : Type} {lo hi : Option Operand} {l : List α} {K : List α → Prop} {G R : Prop} (h : eSl E lo hi l K G) (hG : G → R) (hK : ∀ a b, Lo (sl E) lo a → Hi (sl E) l.length hi b → a ≤ b → b ≤ l.length → K ((l.drop a).take (b - a)) → R) : R := by
  unfold eSl at h
  split at h
  · exact hK 0 l.length .no .no (Nat.zero_le _) (Nat.le_refl _) (by simpa using h)
  · split at h
    · next x kd z hx =>
      obtain ⟨a, rfl, h1, h2⟩ := h
      exact hK a l.length (.at_ hx) .no h1 (Nat.le_refl _) (by rw [List.take_of_length_le (by simp)]; exact h2)
    · exact hG h
  · split at h
    · next y kd z hy =>
      obtain ⟨b, rfl, h1, h2⟩ := h
      exact hK 0 b .no (.at_ hy) (Nat.zero_le _) h1 (by simpa using h2)
    · exact hG h
  · split at h
    · next x y kd z ke u hx hy =>
      obtain ⟨a, b, rfl, rfl, h1, h2, h3⟩ := h
      exact hK a b (.at_ hx) (.at_ hy) h1 h2 h3
    · exact hG h
theorem s_sliceA {t i off : Nat} {x : Operand} {lo hi : Option Operand} (ho : o.op = .slice t x lo hi none) (hx : eo E x = .ref i off) (h : eSliceA P F o E L k t i off lo hi) (hF : FaxOK P F) : gen P o E L k := by
  unfold eSliceA at h
  split at h
  · next n m y z ha =>
    split at h
    · next ka kb u h1 h2 =>
      cases hb : (Nat.beq off 0 && Nat.ble n 9223372036854775807) with
      | true =>
        rw [hb] at h
        rw [Bool.and_eq_true] at hb
        have h3 := Nat.eq_of_beq_eq_true hb.1
        have h4 := Nat.le_of_ble_eq_true hb.2
        subst h3
        obtain ⟨b, rfl, h5, hk⟩ := h
        exact gen_nil (t_slice_arr ho (hF.ar _ _ _ ha) hx (.at_ (a := 0) h1) (.at_ h2) h5 h4) hk
      | false => rw [hb] at h; exact h
    · exact h
  · exact h
theorem s_slice {t : Nat} {x : Operand} {lo hi mx : Option Operand} (ho : o.op = .slice t x lo hi mx) (h : eSlice P F o E L k t x lo hi mx) (hF : FaxOK P F) : gen P o E L k := by
  unfold eSlice at h
  split at h
  · next i off hx => exact s_sliceA ho hx h hF
  · next l hx hu => exact s_sl h id fun a b h1 h2 h3 h4 hk => gen_nil (t_slice_s ho (hF.us _ hu) hx h1 h2 h3 h4) hk
  · next kk l e m hx he =>
    cases hb : Nat.beq kk m with
    | true =>
      rw [hb] at h
      have h1 := Nat.eq_of_beq_eq_true hb
      subst h1
      simp only [cond_true] at h
      exact s_sl h id fun a b h1 h2 h3 h4 hk => gen_nil (t_slice_d ho (hF.el _ _ _ he) (TLe.of_eq hx) h1 h2 h3 h4) hk
    | false => rw [hb] at h; exact h
  · next kk l id e m hx he =>
    cases hb : Nat.beq kk m with
    | true =>
      rw [hb] at h
      have h1 := Nat.eq_of_beq_eq_true hb
      subst h1
      simp only [cond_true] at h
      exact s_sl h (fun h => h) fun a b h1 h2 h3 h4 hk => gen_nil (t_slice_d ho (hF.el _ _ _ he) (by rw [show opT (sl E) x = _ from hx]; exact TLe.own) h1 h2 h3 h4) hk
    | false => rw [hb] at h; exact h
  · next id ver e m hx he =>
    split at h
    · next y =>
      split at h
      · next kd z e2 kk v l hy hl =>
        obtain ⟨rfl, h⟩ := h
        obtain ⟨b, rfl, hb2, hk⟩ := h
        exact gen_one (t_stk_pop ho (hF.el _ _ _ he) hx hy hb2) hl hk
      · exact h
    · exact h
  · exact h
theorem b_or (k : IntKind) (t : TypeId) (a b : Int) : BinR P .or t (.int k a) (.int k b) (.int k (k.wrap (BitVec.ofInt k.bits a ||| BitVec.ofInt k.bits b).toNat)) := fun x y w => by simp [eqGuard, binOp, Op.intBits]
theorem b_xor (k : IntKind) (t : TypeId) (a b : Int) : BinR P .xor t (.int k a) (.int k b) (.int k (k.wrap (BitVec.ofInt k.bits a ^^^ BitVec.ofInt k.bits b).toNat)) := fun x y w => by simp [eqGuard, binOp, Op.intBits]
theorem b_andNot (k : IntKind) (t : TypeId) (a b : Int) : BinR P .andNot t (.int k a) (.int k b) (.int k (k.wrap (BitVec.ofInt k.bits a &&& ~~~ BitVec.ofInt k.bits b).toNat)) := fun x y w => by simp [eqGuard, binOp, Op.intBits]
theorem b_fmul {k : FloatKind} (t : TypeId) {a b r : Nat} (h : k.format.mul a b = some r) : BinR P .mul t (.float k a) (.float k b) (.float k r) := fun x y w => by simp [eqGuard, binOp, Op.floatArith, h]
theorem b_fquo {k : FloatKind} (t : TypeId) {a b r : Nat} (h : k.format.div a b = some r) : BinR P .quo t (.float k a) (.float k b) (.float k r) := fun x y w => by simp [eqGuard, binOp, Op.floatArith, h]
theorem b_feql (k : FloatKind) (t : TypeId) (a b : Nat) : BinR P .eql t (.float k a) (.float k b) (.bool (k.format.order a b == some .eq)) := fun x y w => by simp [eqGuard, binOp, Op.floatCmp]
theorem b_flss (k : FloatKind) (t : TypeId) (a b : Nat) : BinR P .lss t (.float k a) (.float k b) (.bool (k.format.order a b == some .lt)) := fun x y w => by simp [eqGuard, binOp, Op.floatCmp]
theorem b_fgtr (k : FloatKind) (t : TypeId) (a b : Nat) : BinR P .gtr t (.float k a) (.float k b) (.bool (k.format.order a b == some .gt)) := fun x y w => by simp [eqGuard, binOp, Op.floatCmp]
theorem s_int {op : BinOp} {t u : Nat} {x y : Operand} {kk : IntKind} {a b : Int} (ho : o.op = .binOp op t x y u) (hx : eo E x = .d (.v (.int kk a))) (hy : eo E y = .d (.v (.int kk b))) (h : eInt P o E L k op kk a b) : gen P o E L k := by
  unfold eInt at h
  split at h
  · obtain ⟨r, rfl, hk⟩ := h; exact gen_nil (t_bin ho hx hy (b_add _ _ _ _) rfl) hk
  · obtain ⟨r, rfl, hk⟩ := h; exact gen_nil (t_bin ho hx hy (b_sub _ _ _ _) rfl) hk
  · obtain ⟨r, rfl, hk⟩ := h; exact gen_nil (t_bin ho hx hy (b_mul _ _ _ _) rfl) hk
  · obtain ⟨h0, r, rfl, hk⟩ := h; exact gen_nil (t_bin ho hx hy (b_quo _ _ _ _ h0) rfl) hk
  · obtain ⟨h0, r, rfl, hk⟩ := h; exact gen_nil (t_bin ho hx hy (b_rem _ _ _ _ h0) rfl) hk
  · obtain ⟨r, rfl, hk⟩ := h; exact gen_nil (t_bin ho hx hy (b_and _ _ _ _) rfl) hk
  · obtain ⟨r, rfl, hk⟩ := h; exact gen_nil (t_bin ho hx hy (b_or _ _ _ _) rfl) hk
  · obtain ⟨r, rfl, hk⟩ := h; exact gen_nil (t_bin ho hx hy (b_xor _ _ _ _) rfl) hk
  · obtain ⟨r, rfl, hk⟩ := h; exact gen_nil (t_bin ho hx hy (b_andNot _ _ _ _) rfl) hk
  · obtain ⟨r, rfl, hk⟩ := h; exact gen_nil (t_bin ho hx hy (b_eql _ _ _ _) rfl) hk
  · obtain ⟨r, rfl, hk⟩ := h; exact gen_nil (t_bin ho hx hy (b_neq _ _ _ _) rfl) hk
  · obtain ⟨r, rfl, hk⟩ := h; exact gen_nil (t_bin ho hx hy (b_lss _ _ _ _) rfl) hk
  · obtain ⟨r, rfl, hk⟩ := h; exact gen_nil (t_bin ho hx hy (b_leq _ _ _ _) rfl) hk
  · obtain ⟨r, rfl, hk⟩ := h; exact gen_nil (t_bin ho hx hy (b_gtr _ _ _ _) rfl) hk
  · obtain ⟨r, rfl, hk⟩ := h; exact gen_nil (t_bin ho hx hy (b_geq _ _ _ _) rfl) hk
  · exact h
theorem s_str {op : BinOp} {t u : Nat} {x y : Operand} {a b : List UInt8} (ho : o.op = .binOp op t x y u) (hx : eo E x = strT a) (hy : eo E y = strT b) (h : eStr P o E L k op a b) : gen P o E L k := by
  unfold eStr at h
  split at h
  · exact gen_nil (t_bin ho hx hy (b_sadd _ _ _ h.1) rfl) h.2
  · obtain ⟨r, rfl, hk⟩ := h; exact gen_nil (t_bin ho hx hy (b_sseql _ _ _) rfl) hk
  · obtain ⟨r, rfl, hk⟩ := h; exact gen_nil (t_bin ho hx hy (b_ssneq _ _ _) rfl) hk
  · obtain ⟨r, rfl, hk⟩ := h; exact gen_nil (t_bin ho hx hy (b_slss _ _ _) rfl) hk
  · exact h
theorem s_bool {op : BinOp} {t u : Nat} {x y : Operand} {a b : Bool} (ho : o.op = .binOp op t x y u) (hx : eo E x = boolT a) (hy : eo E y = boolT b) (h : eBool P F o E L k op t a b) (hF : FaxOK P F) : gen P o E L k := by
  unfold eBool at h
  split at h
  · next hu => obtain ⟨r, rfl, hk⟩ := h; exact gen_nil (t_bin ho hx hy (b_beql _ _ _ (hF.ub _ hu)) rfl) hk
  · next hu => obtain ⟨r, rfl, hk⟩ := h; exact gen_nil (t_bin ho hx hy (b_bneq _ _ _ (hF.ub _ hu)) rfl) hk
  · exact h
theorem vsOf_cons (x : Value) (l : List D) : vsOf (.v x :: l) = (vsOf l).map (x :: ·) := by
  show (match D.v x, vsOf l with | .v x, some xs => some (x :: xs) | _, _ => none) = _
  cases vsOf l <;> rfl
theorem vsOf_ok {l : List D} : ∀ {xs : List Value}, vsOf l = some xs → l = xs.map .v := by
  induction l with
  | nil => intro xs h; cases h; rfl
  | cons d l ih =>
    intro xs h
    cases d with
    | v x =>
      rw [vsOf_cons] at h
      cases hl : vsOf l with
      | none => rw [hl] at h; cases h
      | some ys => rw [hl] at h; cases h; rw [List.map_cons, ← ih hl]
    | agg _ => cases h
    | sl _ _ => cases h
theorem inv_agg {S : Sm} : ∀ {xs ys : List Value}, RepDs S (xs.map .v) ys → ys = xs
  | [], _, h => by cases h; rfl
  | x :: xs, _, h => by
    rw [List.map_cons] at h
    cases h with
    | cons h1 _ h2 => cases h1 with | v _ => rw [inv_agg h2]
theorem t_binAg {op : BinOp} {t u : TypeId} {x y : Operand} {xs ys : List Value} {c : Bool} (ho : o.op = .binOp op t x y u) (hx : opT (sl E) x = .d (.agg (xs.map .v))) (hy : opT (sl E) y = .d (.agg (ys.map .v))) (hr : BinR P op t (.agg xs.toArray) (.agg ys.toArray) (.bool c)) : Tri P o (sl E) [] (boolT c) [] :=
  .val fun _ g _ ac w hrp _ _ => ⟨.bool c, by
    have e1 := hrp x (by rw [ho]; simp [Op.operands])
    have e2 := hrp y (by rw [ho]; simp [Op.operands])
    rw [hx] at e1
    rw [hy] at e2
    have i1 : ac.eval x = .agg xs.toArray := by
      generalize ac.eval x = z at e1
      cases e1 with | d h => cases h with | agg h => rw [inv_agg h]
    have i2 : ac.eval y = .agg ys.toArray := by
      generalize ac.eval y = z at e2
      cases e2 with | d h => cases h with | agg h => rw [inv_agg h]
    unfold execOp; rw [ho]
    simp only [i1, i2]
    have := hr x y w
    simp only [Sem.run_bind] at this ⊢
    rw [this]; rfl, rep_v rfl⟩
theorem s_agB {op : BinOp} {t u : Nat} {x y : Operand} {a b : List D} (ho : o.op = .binOp op t x y u) (hx : eo E x = .d (.agg a)) (hy : eo E y = .d (.agg b)) (h : eAgB P o E L k op t a b) : gen P o E L k := by
  unfold eAgB at h
  split at h
  · next xs ys h1 h2 =>
    obtain ⟨c, hr, hk⟩ := h
    have e1 := vsOf_ok h1
    have e2 := vsOf_ok h2
    subst e1 e2
    exact gen_nil (t_binAg ho hx hy hr) hk
  · exact h
theorem b_shl (ka kb : IntKind) (t : TypeId) (a b : Int) (h : 0 ≤ b) : BinR P .shl t (.int ka a) (.int kb b) (.int ka (ka.wrap (a * 2 ^ min b.toNat ka.bits))) := fun x y w => by simp [eqGuard, binOp, Op.shift, Int.not_lt.2 h]
theorem b_shr (ka kb : IntKind) (t : TypeId) (a b : Int) (h : 0 ≤ b) : BinR P .shr t (.int ka a) (.int kb b) (.int ka (a.fdiv (2 ^ min b.toNat ka.bits))) := fun x y w => by simp [eqGuard, binOp, Op.shift, Int.not_lt.2 h]
theorem s_bin {op : BinOp} {t u : Nat} {x y : Operand} (ho : o.op = .binOp op t x y u) (h : eBin P F o E L k op t x y) (hF : FaxOK P F) : gen P o E L k := by
  unfold eBin at h
  split at h
  · next a b hx hy => exact s_agB ho hx hy h
  · next ka a kb b hx hy =>
    unfold eSh at h
    split at h
    · obtain ⟨h0, r, rfl, hk⟩ := h; exact gen_nil (t_bin ho hx hy (b_shl _ _ _ _ _ h0) rfl) hk
    · obtain ⟨h0, r, rfl, hk⟩ := h; exact gen_nil (t_bin ho hx hy (b_shr _ _ _ _ _ h0) rfl) hk
    · cases hb : ikb ka kb with
      | true =>
        rw [hb] at h
        have h1 := ikb_eq hb
        subst h1
        exact s_int ho hx hy h
      | false => rw [hb] at h; exact h
  · next a b hx hy => exact s_str ho hx hy h
  · next a b hx hy => exact s_bool ho hx hy h hF
  · next a b hx hy =>
    unfold eFlt at h
    split at h
    · obtain ⟨r, hr, hk⟩ := h; exact gen_nil (t_bin ho hx hy (b_fmul _ hr) rfl) hk
    · obtain ⟨r, hr, hk⟩ := h; exact gen_nil (t_bin ho hx hy (b_fquo _ hr) rfl) hk
    · obtain ⟨r, rfl, hk⟩ := h; exact gen_nil (t_bin ho hx hy (b_feql _ _ _ _) rfl) hk
    · obtain ⟨r, rfl, hk⟩ := h; exact gen_nil (t_bin ho hx hy (b_flss _ _ _ _) rfl) hk
    · obtain ⟨r, rfl, hk⟩ := h; exact gen_nil (t_bin ho hx hy (b_fgtr _ _ _ _) rfl) hk
    · exact h
  · exact h
theorem s_un {op : UnOp} {t : Nat} {x : Operand} (ho : o.op = .unOp op t x) (h : eUn P o E L k op x) : gen P o E L k := by
  unfold eUn at h
  split at h
  · next b hx => obtain ⟨r, rfl, hk⟩ := h; exact gen_nil (t_not ho hx) hk
  · next kk a hx => obtain ⟨r, rfl, hk⟩ := h; exact gen_nil (t_neg ho hx) hk
  · exact h
theorem s_conv {s t : Nat} {x : Operand} (ho : o.op = .convert s t x) (h : eConv P F o E L k s t x) (hF : FaxOK P F) : gen P o E L k := by
  unfold eConv at h
  split at h
  · next ka a ks kt hx hs ht =>
    cases hb : ikb ka ks with
    | true =>
      rw [hb] at h
      have h1 := ikb_eq hb
      subst h1
      obtain ⟨r, rfl, hk⟩ := h
      exact gen_nil (t_conv_int ho (hF.ui _ _ hs) (hF.ui _ _ ht) hx) hk
    | false => rw [hb] at h; exact h
  · next ka a ks hx hs ht =>
    cases hb : ikb ka ks with
    | true =>
      rw [hb] at h
      have h1 := ikb_eq hb
      subst h1
      obtain ⟨l, hl, hk⟩ := h
      have := t_conv_rune ho (hF.ui _ _ hs) (hF.us _ ht) hx
      rw [hl.1] at this
      exact gen_nil this hk
    | false => rw [hb] at h; exact h
  · exact h
theorem s_extract {x : Operand} {i : Nat} (ho : o.op = .extract x i) (h : eExtract P o E L k x i) : gen P o E L k := by
  unfold eExtract at h
  split at h
  · next l hx =>
    split at h
    · next v hv => exact gen_nil (t_extract ho hx hv) h
    · exact h
  · exact h
theorem s_alloc {e : Nat} (ho : o.op = .alloc e) (h : eAlloc P F o E L k e) (hF : FaxOK P F) : gen P o E L k := by
  unfold eAlloc at h
  split at h
  · next d zs ds hd hz =>
    obtain ⟨h1, h2⟩ := hF.ze _ _ _ hz
    exact gen_one (t_alloc_d ho h1 h2) h.1 h.2
  · exact h
theorem s_box {e : Nat} {x : Operand} (ho : o.op = .box e x) (h : eBox P V o E L k e x) : gen P o E L k := by
  unfold eBox at h
  split at h
  · next d v hd hx =>
    cases hv : inV V (d + 1000) with
    | true => rw [hv] at h; exact gen_nil (t_boxpi ho (dOf_le hx)) h
    | false => rw [hv] at h; exact gen_one (t_box ho (dOf_le hx)) h.1 h.2
  · split at h
    · next l hl => exact gen_one (t_boxC ho hl) h.1 h.2
    · exact h
  · exact h
theorem bParts_ok {fl : List (Nat × Nat)} : ∀ {ps : List (Nat × Operand)} {qs : List (Nat × Nat × D)}, bParts E fl ps = some qs → Parts (sl E) (fl[·]?) ps qs
  | [], qs, h => by cases h; exact .nil
  | p :: ps, qs, h => by
    have h : (match dOf (eo E p.2), fl[p.1]?, bParts E fl ps with
      | some d, some (off, size), some qs => some ((off, size, d) :: qs)
      | _, _, _ => none) = some qs := h
    split at h
    · next d off size qs' h1 h2 h3 => cases h; exact .cons (dOf_le h1) h2 (bParts_ok h3)
    · cases h
theorem nilTo_le (d z : D) : DLe d (nilTo d z) := by
  unfold nilTo
  split
  · split
    · exact DLe.nil
    · exact DLe.refl _
  · exact DLe.refl _
theorem dles_refl : ∀ l : List D, DLes l l
  | [] => .nil
  | d :: l => .cons (DLe.refl d) (dles_refl l)
theorem mergeN_le : ∀ (ds zs : List D), DLes ds (mergeN ds zs)
  | [], _ => .nil
  | _ :: _, [] => dles_refl _
  | d :: ds, z :: zs => .cons (nilTo_le d z) (mergeN_le ds zs)
theorem bPartsT_ok {fl : List (Nat × Nat)} : ∀ {ps : List (Nat × Operand)} {qs : List (Nat × List T)}, bPartsT E fl ps = some qs → PartsT (sl E) (fl[·]?) ps qs
  | [], qs, h => by cases h; exact .nil
  | p :: ps, qs, h => by
    have h : (match (eo E p.2).cv, fl[p.1]?, bPartsT E fl ps with
      | some us, some (off, m), some qs => bif Nat.beq us.length m then some ((off, us) :: qs) else none
      | _, _, _ => none) = some qs := h
    split at h
    · next us off m qs' h1 h2 h3 =>
      cases hb : Nat.beq us.length m with
      | true => rw [hb] at h; cases h; exact .cons (TLe.refl _) h1 (Nat.eq_of_beq_eq_true hb) h2 (bPartsT_ok h3)
      | false => rw [hb] at h; cases h
    · cases h
theorem nilAt_ok : ∀ {l : List T} {i : Nat}, nilAt l = some i → l[i]? = some (.d (.v (.slice none 0 0)))
  | [], i, h => by cases h
  | t :: l, i, h => by
    have h : (bif isNilT t then some 0 else up1 (nilAt l)) = some i := h
    cases e : isNilT t with
    | true => rw [e] at h; cases h; rw [isNilT_ok e]; rfl
    | false =>
      rw [e] at h
      cases hn : nilAt l with
      | none => rw [hn] at h; cases h
      | some n => rw [hn] at h; cases h; simpa using nilAt_ok hn
theorem bPartsA_ok {kk : Nat} : ∀ {ps : List (Nat × Operand)} {qs : List (Nat × Nat × D)}, bPartsA E kk ps = some qs → Parts (sl E) (fun i => some (i * kk, kk)) ps qs
  | [], qs, h => by cases h; exact .nil
  | p :: ps, qs, h => by
    have h : (match dOf (eo E p.2), bPartsA E kk ps with
      | some d, some qs => some ((p.1 * kk, kk, d) :: qs)
      | _, _ => none) = some qs := h
    split at h
    · next d qs' h1 h2 => cases h; exact .cons (dOf_le h1) rfl (bPartsA_ok h2)
    · cases h
theorem s_buildT {t : Nat} {zs : List Value} {fl : List (Nat × Nat)} {ps : Array (Nat × Operand)} (ho : o.op = .build t ps) (hz : zeroOf? P t = some zs) (hp : PlacesOK P t fl) (h : eBuildT P V o E L k zs fl ps.toList) : gen P o E L k := by
  unfold eBuildT at h
  split at h
  · next qs d hq hd =>
    cases hb : fitsT qs (zs.map fun x => T.d (.v x)).length with
    | true =>
      rw [hb] at h
      simp only [cond_true] at h
      split at h
      · next i _ hi =>
        obtain ⟨e, kk, h1, h2⟩ := h
        exact gen_one (t_buildS (ps := ps.toList) ho hz hp (bPartsT_ok hq) hb (nilAt_ok hi)) h1 h2
      · exact gen_nil (t_buildT (ps := ps.toList) ho hz hp (bPartsT_ok hq) hb) h
    | false => rw [hb] at h; exact h
  · exact h
theorem s_build {t : Nat} {ps : Array (Nat × Operand)} (ho : o.op = .build t ps) (h : eBuild P F V o E L k t ps.toList) (hF : FaxOK P F) : gen P o E L k := by
  unfold eBuild at h
  split at h
  · next zs zd fl hz hp =>
    split at h
    · next qs hq =>
      split at h
      · next ds hd => exact gen_nil ((t_build (ps := ps.toList) ho (hF.ze _ _ _ hz).1 (hF.pl _ _ hp) (bParts_ok hq) hd).le (DLe.agg (mergeN_le ds zd)).t) h
      · exact h
    · exact s_buildT ho (hF.ze _ _ _ hz).1 (hF.pl _ _ hp) h
  · next zs zd hz hp =>
    split at h
    · next n kk ha =>
      split at h
      · next qs hq =>
        split at h
        · next ds hd => exact gen_nil ((t_buildA (ps := ps.toList) ho (hF.ze _ _ _ hz).1 (hF.ar _ _ _ ha) (bPartsA_ok hq) hd).le (DLe.agg (mergeN_le ds zd)).t) h
        · exact h
      · exact h
    · exact h
  · exact h
theorem bFull_ok : ∀ {ps : List (Nat × Operand)} {i : Nat} {l : List D}, bFull E i ps = some l → Full (sl E) i ps l
  | [], i, l, h => by cases h; exact .nil
  | p :: ps, i, l, h => by
    have h : (match dOf (eo E p.2), bFull E (i + 1) ps with
      | some d, some l => bif Nat.beq p.1 i then some (d :: l) else none
      | _, _ => none) = some l := h
    split at h
    · next d l' h1 h2 =>
      cases hb : Nat.beq p.1 i with
      | true =>
        rw [hb] at h
        cases h
        have h3 := Nat.eq_of_beq_eq_true hb
        obtain ⟨p1, p2⟩ := p
        simp only at h3
        subst h3
        exact .cons (dOf_le h1) (bFull_ok h2)
      | false => rw [hb] at h; cases h
    · cases h
theorem s_lit {t len : Nat} {ps : Array (Nat × Operand)} (ho : o.op = .buildSlice t len ps) (h : eLit P F V o E L k t len ps.toList) (hF : FaxOK P F) : gen P o E L k := by
  unfold eLit at h
  split at h
  · next e kk l he hl =>
    split at h
    · next zs zd hz =>
      generalize hb : (Nat.beq l.length len && (Nat.ble (len * kk) 1000 && (Nat.blt 0 zs.length && (Nat.blt 0 kk && l.all fun d => Nat.beq d.lv.length kk)))) = bb at h
      cases bb with
      | true =>
        simp only [Bool.and_eq_true, List.all_eq_true] at hb
        obtain ⟨b1, b2, b3, b4, b5⟩ := hb
        have c1 := Nat.eq_of_beq_eq_true b1
        have c2 := Nat.le_of_ble_eq_true b2
        have c3 := Nat.le_of_ble_eq_true b3
        have c4 := Nat.le_of_ble_eq_true b4
        have hs := t_sfull (ps := ps.toList) ho (hF.el _ _ _ he) (hF.ze _ _ _ hz).1 (bFull_ok hl) c2 c3 c1 (fun d hd => Nat.eq_of_beq_eq_true (b5 d hd)) c4
        simp only [cond_true] at h
        split at h
        · next d hd =>
          cases hv : inV V d with
          | true =>
            rw [hv] at h
            exact gen_one (t_sfullrow (ps := ps.toList) ho (hF.el _ _ _ he) (hF.ze _ _ _ hz).1 (bFull_ok hl) c2 c3 c1 (fun d hd => Nat.eq_of_beq_eq_true (b5 d hd)) c4) h.1 h.2
          | false => rw [hv] at h; exact gen_nil hs h
        · exact gen_nil hs h
      | false => exact h
    · exact h
  · exact h
theorem s_func {f : Fn} {a b : Array Operand} (ho : o.op = .makeFunc f a b) (h : eFunc P o E L k f a.toList b.toList) : gen P o E L k := by
  unfold eFunc at h
  split at h
  · next f ha =>
    have h1 : a = #[] := by simpa using ha
    subst h1
    exact gen_nil (t_func (xs := b.toList) ho) h
  · next f x a' ha =>
    split at h
    · next hb =>
      have h1 : b = #[] := by simpa using hb
      subst h1
      rw [← ha] at h
      exact gen_nil (t_bfunc (xs := a.toList) ho) h
    · exact h
  · exact h
theorem s_len {x : Operand} {t : Nat} (ho : o.op = .call { callee := .builtin .len, args := #[x], argTypes := #[t] }) (h : eLen P F o E L k x t) (hF : FaxOK P F) : gen P o E L k := by
  unfold eLen at h
  split at h
  · next kk l e m hx he =>
    cases hb : Nat.beq kk m with
    | true =>
      rw [hb] at h
      have h1 := Nat.eq_of_beq_eq_true hb
      subst h1
      exact gen_nil (t_len ho (hF.el _ _ _ he) (TLe.of_eq hx)) h
    | false => rw [hb] at h; exact h
  · next kk l id e m hx he =>
    cases hb : Nat.beq kk m with
    | true =>
      rw [hb] at h
      have h1 := Nat.eq_of_beq_eq_true hb
      subst h1
      exact gen_nil (t_len ho (hF.el _ _ _ he) (by rw [show opT (sl E) x = _ from hx]; exact TLe.own)) h
    | false => rw [hb] at h; exact h
  · next l hx hu => exact gen_nil (t_len_s ho (hF.us _ hu) hx) h
  · next id ver e m hx he =>
    split at h
    · next e2 kk v l hl =>
      obtain ⟨rfl, h⟩ := h
      exact gen_one (t_stk_len ho (hF.el _ _ _ he) hx) hl h
    · exact h
  · next id n e m hx he => exact gen_nil (t_mrow_len ho (hF.el _ _ _ he) hx) h
  · next id ver j e m hx he =>
    split at h
    · next eo0 e0 v rows hl =>
      obtain ⟨rfl, h⟩ := h
      obtain ⟨l, h2, hk⟩ := h
      exact gen_one (t_row_len ho (hF.el _ _ _ he) hx h2) hl hk
    · exact h
  · exact h
theorem s_mm {x y : Operand} {ts : Array Nat} {mx : Bool} (ho : o.op = .call { callee := .builtin (if mx = true then .max else .min), args := #[x, y], argTypes := ts }) (h : eMM P o E L k x y mx) : gen P o E L k := by
  unfold eMM at h
  split at h
  · next ka a kb b hx hy =>
    cases hb : ikb ka kb with
    | true =>
      rw [hb] at h
      have h1 := ikb_eq hb
      subst h1
      obtain ⟨r, rfl, hk⟩ := h
      cases mx with
      | true => exact gen_nil (t_max ho hx hy) hk
      | false => exact gen_nil (t_min ho hx hy) hk
    | false => rw [hb] at h; exact h
  · exact h
theorem s_app {s x : Operand} {t : Nat} (ho : o.op = .call { callee := .builtin .append, args := #[s, x], argTypes := #[t, t] }) (h : eApp P F o E L k s x t) (hF : FaxOK P F) : gen P o E L k := by
  unfold eApp at h
  split at h
  · next kk l id k2 m e k3 b hs hx hr =>
    generalize hb : (Nat.beq kk k2 && Nat.beq kk k3) = bb at h
    cases bb with
    | true =>
      rw [Bool.and_eq_true] at hb
      have h1 := Nat.eq_of_beq_eq_true hb.1
      have h2 := Nat.eq_of_beq_eq_true hb.2
      subst h1 h2
      exact gen_one (t_append ho (hF.ro _ _ _ _ hr) hs (dOf_le hx) h.2.1) h.1 h.2.2
    | false => exact h
  · next id ver k2 m e k3 b hs hx hr =>
    split at h
    · next e2 kk v l hl =>
      generalize hb : (Nat.beq kk k2 && (Nat.beq kk k3 && Nat.beq e e2)) = bb at h
      cases bb with
      | true =>
        rw [Bool.and_eq_true, Bool.and_eq_true] at hb
        have h2 := Nat.eq_of_beq_eq_true hb.1
        have h3 := Nat.eq_of_beq_eq_true hb.2.1
        have h4 := Nat.eq_of_beq_eq_true hb.2.2
        obtain ⟨rfl, h⟩ := h
        subst h2 h3 h4
        exact gen_one (t_stk_push ho (hF.ro _ _ _ _ hr) hs (dOf_le hx) h.1) hl h.2
      | false => exact h
    · exact h
  · exact h
theorem s_makemap {t : Nat} {r : Option Operand} (ho : o.op = .makeMap t r) (h : eMakeMap P F V o E L k t r) : gen P o E L k := by
  unfold eMakeMap at h
  split at h
  · next d kt ds et z hd hm =>
    split at h
    · exact gen_one (t_makermap ho) h.1 h.2
    · exact gen_one (t_makemap ho) h.1 h.2
  · exact h
theorem s_make {t : Nat} {x y : Operand} (ho : o.op = .makeSlice t x y) (h : eMake P F V o E L k t x y) (hF : FaxOK P F) : gen P o E L k := by
  unfold eMake at h
  split at h
  · next d ka a kb b e z hd hx hy hm =>
    split at h
    · obtain ⟨n, rfl, rfl, hn, h1, h2⟩ := h
      exact gen_one (t_make _ ho (hF.mks _ _ _ hm) hx hy hn) h1 h2
    · obtain ⟨n, rfl, rfl, hn, h1, h2⟩ := h
      exact gen_one (t_makegrid ho (hF.mks _ _ _ hm) hx hy hn) h1 h2
    · exact h
  · exact h
theorem noN_ne {α : Type} {r : Option (Option α)} (h : noN r = true) : r ≠ some none := by rintro rfl; cases h
theorem s_look {t : Nat} {m x : Operand} {ok : Bool} (ho : o.op = .lookup t m x ok) (h : eLook P F V o E L k t m x ok) (hF : FaxOK P F) : gen P o E L k := by
  unfold eLook at h
  split at h
  · next id kv kt ds et z hm hx ht =>
    obtain ⟨hT, hz⟩ := mapZ_spec (hF.mt _ _ ht)
    split at h
    · next d2 M hl =>
      obtain ⟨rfl, hk, r, rfl, h⟩ := h
      exact gen_one (t_look ho hT hz hm hx hk) hl h
    · next d2 M hl =>
      obtain ⟨rfl, hk, r, rfl, h⟩ := h
      exact gen_one (t_lookok ho hT hz hm hx hk) hl h
    · next d2 e n M hl =>
      obtain ⟨rfl, hk, rfl, hn, r, rfl, h⟩ := h
      split at h
      · next d hd =>
        cases hv : inV V d with
        | true => rw [hv] at h; exact gen_two (t_rtake ho hT hz hm hx hk (noN_ne hn)) hl h.1 h.2
        | false => rw [hv] at h; exact gen_one (t_rlook ho hT hz hm hx hk (noN_ne hn)) hl h
      · exact gen_one (t_rlook ho hT hz hm hx hk (noN_ne hn)) hl h
    · exact h
  · exact h
theorem s_mapU {t : Nat} {m x v : Operand} (ho : o.op = .mapUpdate t m x v) (h : eMapU P F o E L k t m x v) (hF : FaxOK P F) : gen P o E L k := by
  unfold eMapU at h
  split at h
  · next id kv kt ds et z hm hx ht =>
    obtain ⟨hT, hz⟩ := mapZ_spec (hF.mt _ _ ht)
    split at h
    · next d2 M hl =>
      split at h
      · next y hy =>
        obtain ⟨rfl, hk, h⟩ := h
        exact gen_one (t_put ho hT hm hx (dOf_le hy) hk) hl h
      · exact h
    · next d2 e n M hl =>
      split at h
      · next n2 l c hv =>
        obtain ⟨rfl, hk, rfl, hc, M0, rfl, h⟩ := h
        have := t_rput (M := mtake M0 kv) (e := e) ho hT hm hx hv hk
        rw [mput_mtake] at this
        exact gen_two this hl hc h
      · exact h
    · exact h
  · exact h
theorem s_del {m x : Operand} {t kt : Nat} (ho : o.op = .call { callee := .builtin .delete, args := #[m, x], argTypes := #[t, kt] }) (h : eDel P F o E L k m x t kt) (hF : FaxOK P F) : gen P o E L k := by
  unfold eDel at h
  split at h
  · next id kv kt' ds et z hm hx ht =>
    obtain ⟨hT, hz⟩ := mapZ_spec (hF.mt _ _ ht)
    cases hb : Nat.beq kt kt' with
    | true =>
      rw [hb] at h
      have h1 := Nat.eq_of_beq_eq_true hb
      subst h1
      simp only [cond_true] at h
      split at h
      · next d2 M hl =>
        obtain ⟨rfl, hk, h⟩ := h
        exact gen_one (t_del ho hT hm hx hk) hl h
      · next d2 e n M hl =>
        obtain ⟨rfl, hk, h⟩ := h
        exact gen_one (t_rdel ho hT hm hx hk) hl h
      · exact h
    | false => rw [hb] at h; exact h
  · exact h
theorem s_call {c : Call} (ho : o.op = .call c) (h : eCall P F o E L k c) (hF : FaxOK P F) : gen P o E L k := by
  obtain ⟨cl, as, ts⟩ := c
  unfold eCall at h
  split at h
  · next m x t kt h1 h2 h3 =>
    simp only at h1 h2 h3
    have e2 : as = #[m, x] := by simpa using congrArg List.toArray h2
    have e3 : ts = #[t, kt] := by simpa using congrArg List.toArray h3
    subst h1 e2 e3
    exact s_del ho h hF
  · next x t h1 h2 h3 =>
    simp only at h1 h2 h3
    have e2 : as = #[x] := by simpa using congrArg List.toArray h2
    have e3 : ts = #[t] := by simpa using congrArg List.toArray h3
    subst h1 e2 e3
    exact s_len ho h hF
  · next x y h1 h2 =>
    simp only at h1 h2
    have e2 : as = #[x, y] := by simpa using congrArg List.toArray h2
    subst h1 e2
    exact s_mm (mx := false) ho h
  · next x y h1 h2 =>
    simp only at h1 h2
    have e2 : as = #[x, y] := by simpa using congrArg List.toArray h2
    subst h1 e2
    exact s_mm (mx := true) ho h
  · next s x t t' h1 h2 h3 =>
    simp only at h1 h2 h3
    have e2 : as = #[s, x] := by simpa using congrArg List.toArray h2
    have e3 : ts = #[t, t'] := by simpa using congrArg List.toArray h3
    subst h1 e2 e3
    cases hb : Nat.beq t t' with
    | true =>
      rw [hb] at h
      have h1 := Nat.eq_of_beq_eq_true hb
      subst h1
      exact s_app ho h hF
    | false => rw [hb] at h; exact h
  · exact h
theorem evOp0_gen (hF : FaxOK P F) (h : evOp0 P F V o E L k) : gen P o E L k := by
  unfold evOp0 at h
  split at h
  · next x ho => exact gen_nil (t_move ho (nz_le F o.type _)) h
  · next ho => exact s_assign ho h
  · next ho => exact s_pick ho h
  · next ho => exact s_nil ho h
  · next ho => exact s_field ho h hF
  · next ho => exact s_load ho h hF
  · next ho => exact s_store ho h hF
  · next ho => exact s_indexAddr ho h hF
  · next ho => exact s_index ho h hF
  · next ho => exact s_slice ho h hF
  · next ho => exact s_bin ho h hF
  · next ho => exact s_un ho h
  · next ho => exact s_conv ho h hF
  · next ho => exact s_extract ho h
  · next ho => exact s_alloc ho h hF
  · next ho => exact s_box ho h
  · next ho => exact s_build ho h hF
  · next ho => exact s_lit ho h hF
  · next ho => exact s_func ho h
  · next ho => exact s_call ho h hF
  · next ho => exact s_makemap ho h
  · next ho => exact s_make ho h hF
  · next ho => exact s_look ho h hF
  · next ho => exact s_mapU ho h hF
  · exact h
theorem evOp_gen (hF : FaxOK P F) (h : evOp P F V o E L k) : gen P o E L k := by
  unfold evOp at h
  split at h
  · next d hd =>
    cases hv : inV V (d + 5000) with
    | true => rw [hv] at h; exact h
    | false => rw [hv] at h; exact evOp0_gen hF h
  · exact evOp0_gen hF h
end
end Go.Proofs.YtngklbnodknadaaGreatDoor
end
