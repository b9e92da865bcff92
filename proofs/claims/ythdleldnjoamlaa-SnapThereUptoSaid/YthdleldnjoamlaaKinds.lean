/-
  What a state is made of: as it lies in memory, as it is, and as numbers.
-/
import Derived.Test.YthdleldnjoamlaaPut
namespace Go.Proofs.Ythdleldnjoamlaa
open Go.RowKit

/-! ### As numbers -/
def encL {γ : Type} (e : γ → List Int) (l : List γ) : List Int := (l.length : Int) :: l.flatMap e
/-- No list's numbers begin another one's. -/
def Pf {γ : Type} (e : γ → List Int) : Prop := ∀ a b r r', e a ++ r = e b ++ r' → a = b ∧ r = r'
theorem Pf.fm {γ : Type} {e : γ → List Int} (h : Pf e) : ∀ (l m : List γ) (r r' : List Int), l.length = m.length → l.flatMap e ++ r = m.flatMap e ++ r' → l = m ∧ r = r'
  | [], [], r, r', _, he => ⟨rfl, he⟩
  | [], _ :: _, _, _, hl, _ => by simp at hl
  | _ :: _, [], _, _, hl, _ => by simp at hl
  | a :: l, b :: m, r, r', hl, he => by
    rw [List.flatMap_cons, List.flatMap_cons, List.append_assoc, List.append_assoc] at he
    obtain ⟨rfl, h2⟩ := h a b _ _ he
    obtain ⟨rfl, h3⟩ := h.fm l m r r' (by simpa using hl) h2
    exact ⟨rfl, h3⟩
theorem Pf.list {γ : Type} {e : γ → List Int} (h : Pf e) : Pf (encL e) := fun a b r r' he => by
  unfold encL at he
  rw [List.cons_append, List.cons_append, List.cons.injEq] at he
  exact h.fm a b r r' (by omega) he.2
theorem Pf.inj {γ : Type} {e : γ → List Int} (h : Pf e) {a b : γ} (he : e a = e b) : a = b := (h a b [] [] (by rw [he])).1

structure Vl where
  k : Int
  n : Int
deriving DecidableEq
structure Ty where
  r : Int
  a : Int
deriving DecidableEq
structure Sh where
  u : Int
  n : Int
deriving DecidableEq
structure En where
  c : Int
  k : Int
  n : Int
deriving DecidableEq
structure FrC where
  f1 : Int
  f2 : Int
  f3 : Int
  f4 : Int
  sk : Int
  sn : Int
  regs : List Vl
  tries : List Ty
deriving DecidableEq
structure CeC where
  kd : Int
  nm : Int
  vals : List Vl
  frames : List FrC
deriving DecidableEq
structure ThC where
  frames : List FrC
  st : Int
  on : Int
  vk : Int
  vn : Int
deriving DecidableEq
structure StC where
  cells : List CeC
  shapes : List Sh
  texts : List (List UInt8)
  threads : List ThC
  ends : List En
  said : List Vl
  asked : Int
  steps : Int
deriving DecidableEq
def Vl.e (x : Vl) : List Int := [x.k, x.n]
def Ty.e (x : Ty) : List Int := [x.r, x.a]
def Sh.e (x : Sh) : List Int := [x.u, x.n]
def En.e (x : En) : List Int := [x.c, x.k, x.n]
def byE (b : UInt8) : List Int := [(b.toNat : Int)]
def txE (s : List UInt8) : List Int := encL byE s
def FrC.e (x : FrC) : List Int := [x.f1, x.f2, x.f3, x.f4, x.sk, x.sn] ++ (encL Vl.e x.regs ++ encL Ty.e x.tries)
def CeC.e (x : CeC) : List Int := [x.kd, x.nm] ++ (encL Vl.e x.vals ++ encL FrC.e x.frames)
def ThC.e (x : ThC) : List Int := encL FrC.e x.frames ++ [x.st, x.on, x.vk, x.vn]
def StC.e (x : StC) : List Int := encL CeC.e x.cells ++ (encL Sh.e x.shapes ++ (encL txE x.texts ++ (encL ThC.e x.threads ++ (encL En.e x.ends ++ (encL Vl.e x.said ++ [x.asked, x.steps])))))
theorem Vl.pf : Pf Vl.e := fun a b r r' h => by
  obtain ⟨_, _⟩ := a; obtain ⟨_, _⟩ := b; simp [Vl.e] at h; simp [h]
theorem Ty.pf : Pf Ty.e := fun a b r r' h => by
  obtain ⟨_, _⟩ := a; obtain ⟨_, _⟩ := b; simp [Ty.e] at h; simp [h]
theorem Sh.pf : Pf Sh.e := fun a b r r' h => by
  obtain ⟨_, _⟩ := a; obtain ⟨_, _⟩ := b; simp [Sh.e] at h; simp [h]
theorem En.pf : Pf En.e := fun a b r r' h => by
  obtain ⟨_, _, _⟩ := a; obtain ⟨_, _, _⟩ := b; simp [En.e] at h; simp [h]
theorem byE_pf : Pf byE := fun a b r r' h => by
  simp [byE] at h
  exact ⟨UInt8.toNat_inj.1 (by omega), h.2⟩
theorem txE_pf : Pf txE := byE_pf.list
theorem FrC.pf : Pf FrC.e := fun a b r r' h => by
  obtain ⟨_, _, _, _, _, _, _, _⟩ := a; obtain ⟨_, _, _, _, _, _, _, _⟩ := b
  simp only [FrC.e, List.append_assoc, List.cons_append, List.nil_append, List.cons.injEq] at h
  obtain ⟨rfl, rfl, rfl, rfl, rfl, rfl, h1⟩ := h
  obtain ⟨rfl, h2⟩ := Vl.pf.list _ _ _ _ h1
  obtain ⟨rfl, h3⟩ := Ty.pf.list _ _ _ _ h2
  exact ⟨rfl, h3⟩
theorem CeC.pf : Pf CeC.e := fun a b r r' h => by
  obtain ⟨_, _, _, _⟩ := a; obtain ⟨_, _, _, _⟩ := b
  simp only [CeC.e, List.append_assoc, List.cons_append, List.nil_append, List.cons.injEq] at h
  obtain ⟨rfl, rfl, h1⟩ := h
  obtain ⟨rfl, h2⟩ := Vl.pf.list _ _ _ _ h1
  obtain ⟨rfl, h3⟩ := FrC.pf.list _ _ _ _ h2
  exact ⟨rfl, h3⟩
theorem ThC.pf : Pf ThC.e := fun a b r r' h => by
  obtain ⟨_, _, _, _, _⟩ := a; obtain ⟨_, _, _, _, _⟩ := b
  simp only [ThC.e, List.append_assoc] at h
  obtain ⟨rfl, h1⟩ := FrC.pf.list _ _ _ _ h
  simp only [List.cons_append, List.nil_append, List.cons.injEq] at h1
  obtain ⟨rfl, rfl, rfl, rfl, h2⟩ := h1
  exact ⟨rfl, h2⟩
theorem StC.pf : Pf StC.e := fun a b r r' h => by
  obtain ⟨_, _, _, _, _, _, _, _⟩ := a; obtain ⟨_, _, _, _, _, _, _, _⟩ := b
  simp only [StC.e, List.append_assoc] at h
  obtain ⟨rfl, h1⟩ := CeC.pf.list _ _ _ _ h
  obtain ⟨rfl, h2⟩ := Sh.pf.list _ _ _ _ h1
  obtain ⟨rfl, h3⟩ := txE_pf.list _ _ _ _ h2
  obtain ⟨rfl, h4⟩ := ThC.pf.list _ _ _ _ h3
  obtain ⟨rfl, h5⟩ := En.pf.list _ _ _ _ h4
  obtain ⟨rfl, h6⟩ := Vl.pf.list _ _ _ _ h5
  simp only [List.cons_append, List.nil_append, List.cons.injEq] at h6
  obtain ⟨rfl, rfl, h7⟩ := h6
  exact ⟨rfl, h7⟩

/-! ### As it lies in memory -/
/-- A slice: where it lies, its room, what it holds. -/
structure Sv (α : Type) where
  p : Option Addr
  cap : Nat
  l : List α
abbrev Sv.val {α : Type} (s : Sv α) : Value := .slice s.p s.l.length s.cap
abbrev Sv.none {α : Type} : Sv α := ⟨Option.none, 0, []⟩
structure Rd {α : Type} (k : Nat) (cells : α → List Value) (ok : World → α → Prop) (W : World) (s : Sv α) : Prop where
  row : Sl W k s.p s.l.length s.cap (s.l.flatMap cells)
  each : ∀ x ∈ s.l, ok W x
/-- What stays where all that was there stays. -/
def Stays {α : Type} (ok : World → α → Prop) : Prop := ∀ (W W' : World) (x : α), ok W x → Below W.heap.size W W' → ok W' x
abbrev okT {α : Type} : World → α → Prop := fun _ _ => True
theorem okT_stays {α : Type} : Stays (okT (α := α)) := fun _ _ _ _ _ => trivial
section
variable {α : Type} {k : Nat} {cells : α → List Value} {ok : World → α → Prop} {W W' : World} {s : Sv α}
theorem Rd.stays (hok : Stays ok) : Stays (Rd k cells ok) := fun _ _ _ h hb => ⟨h.row.below hb, fun x hx => hok _ _ _ (h.each x hx) hb⟩
theorem Rd.zero (W : World) : Rd k cells ok W Sv.none := ⟨Sl.zero _ _, fun x hx => by cases hx⟩
theorem fm_get (hk : ∀ x, (cells x).length = k) {l : List α} {i j : Nat} {z : α} (hi : i < l.length) (hj : j < k) : (l.flatMap cells)[i * k + j]? = (cells (l.getD i z))[j]? := by
  induction l generalizing i with
  | nil => simp at hi
  | cons e l ih =>
    rw [List.flatMap_cons]
    cases i with
    | zero => rw [Nat.zero_mul, Nat.zero_add, List.getElem?_append_left (by rw [hk]; exact hj)]; rfl
    | succ i =>
      rw [List.getElem?_append_right (by rw [hk, Nat.succ_mul]; omega), hk, show (i + 1) * k + j - k = i * k + j from by rw [Nat.succ_mul]; omega, ih (by simpa using hi)]
      rfl
theorem fm_len (hk : ∀ x, (cells x).length = k) (l : List α) : (l.flatMap cells).length = l.length * k := by
  induction l with
  | nil => simp
  | cons e l ih => rw [List.flatMap_cons, List.length_append, ih, hk, List.length_cons, Nat.succ_mul, Nat.add_comm]
/-- Where the i-th lies. -/
theorem Rd.at_ (h : Rd k cells ok W s) (hk : ∀ x, (cells x).length = k) (hk0 : 0 < k) {i : Nat} (hi : i < s.l.length) (z : α) :
    ∃ b off, s.p = some ⟨b, off, none⟩ ∧ b < W.heap.size ∧ ∀ j v, (cells (s.l.getD i z))[j]? = some v → W.cell? ⟨b, off + i * k + j, none⟩ = some v := by
  obtain ⟨b, off, hp, hb, hc⟩ := h.row.row.cons (by rw [h.row.len]; exact Nat.mul_pos (by omega) hk0)
  refine ⟨b, off, hp, hb, fun j v hv => ?_⟩
  have hj : j < k := by rw [← hk (s.l.getD i z)]; exact (List.getElem?_eq_some_iff.1 hv).1
  have hlt : i * k + j < (s.l.flatMap cells).length := by
    rw [fm_len hk]
    calc i * k + j < i * k + k := by omega
      _ = (i + 1) * k := (Nat.succ_mul _ _).symm
      _ ≤ s.l.length * k := Nat.mul_le_mul_right _ hi
  rw [Nat.add_assoc, hc _ hlt, fm_get hk hi hj, hv]
end
structure Fr where
  f1 : Int
  f2 : Int
  f3 : Int
  f4 : Int
  sk : Int
  sn : Int
  regs : Sv Vl
  tries : Sv Ty
structure Ce where
  kd : Int
  nm : Int
  vals : Sv Vl
  frames : Sv Fr
structure Th where
  frames : Sv Fr
  st : Int
  on : Int
  vk : Int
  vn : Int
structure St where
  cells : Sv Ce
  shapes : Sv Sh
  texts : Sv ByteArray
  threads : Sv Th
  ends : Sv En
  said : Sv Vl
  asked : Int
  steps : Int
def Vl.cells (x : Vl) : List Value := [.int .i64 x.k, .int .i64 x.n]
abbrev Vl.val (x : Vl) : Value := .agg #[.int .i64 x.k, .int .i64 x.n]
def Ty.cells (x : Ty) : List Value := [.int .i64 x.r, .int .i64 x.a]
abbrev Ty.val (x : Ty) : Value := .agg #[.int .i64 x.r, .int .i64 x.a]
def Sh.cells (x : Sh) : List Value := [.int .i64 x.u, .int .i64 x.n]
abbrev Sh.val (x : Sh) : Value := .agg #[.int .i64 x.u, .int .i64 x.n]
def En.cells (x : En) : List Value := [.int .i64 x.c, .int .i64 x.k, .int .i64 x.n]
abbrev En.val (x : En) : Value := .agg #[.int .i64 x.c, .int .i64 x.k, .int .i64 x.n]
def Fr.cells (x : Fr) : List Value := [.int .i64 x.f1, .int .i64 x.f2, .int .i64 x.f3, .int .i64 x.f4, .int .i64 x.sk, .int .i64 x.sn, x.regs.val, x.tries.val]
abbrev Fr.val (x : Fr) : Value := .agg #[.int .i64 x.f1, .int .i64 x.f2, .int .i64 x.f3, .int .i64 x.f4, .int .i64 x.sk, .int .i64 x.sn, x.regs.val, x.tries.val]
def Ce.cells (x : Ce) : List Value := [.int .i64 x.kd, .int .i64 x.nm, x.vals.val, x.frames.val]
abbrev Ce.val (x : Ce) : Value := .agg #[.int .i64 x.kd, .int .i64 x.nm, x.vals.val, x.frames.val]
def Th.cells (x : Th) : List Value := [x.frames.val, .int .i64 x.st, .int .i64 x.on, .int .i64 x.vk, .int .i64 x.vn]
abbrev Th.val (x : Th) : Value := .agg #[x.frames.val, .int .i64 x.st, .int .i64 x.on, .int .i64 x.vk, .int .i64 x.vn]
def txCells (x : ByteArray) : List Value := [.string x]
def byCells (x : UInt8) : List Value := [.int .u8 (x.toNat : Int)]
abbrev St.val (x : St) : Value := .agg #[x.cells.val, x.shapes.val, x.texts.val, x.threads.val, x.ends.val, x.said.val, .int .i64 x.asked, .int .i64 x.steps]
abbrev RdVl : World → Sv Vl → Prop := Rd 2 Vl.cells okT
abbrev RdTy : World → Sv Ty → Prop := Rd 2 Ty.cells okT
abbrev RdSh : World → Sv Sh → Prop := Rd 2 Sh.cells okT
abbrev RdEn : World → Sv En → Prop := Rd 3 En.cells okT
abbrev RdTx : World → Sv ByteArray → Prop := Rd 1 txCells okT
abbrev RdBy : World → Sv UInt8 → Prop := Rd 1 byCells okT
def Fr.ok (W : World) (x : Fr) : Prop := RdVl W x.regs ∧ RdTy W x.tries
abbrev RdFr : World → Sv Fr → Prop := Rd 8 Fr.cells Fr.ok
def Ce.ok (W : World) (x : Ce) : Prop := RdVl W x.vals ∧ RdFr W x.frames
abbrev RdCe : World → Sv Ce → Prop := Rd 4 Ce.cells Ce.ok
def Th.ok (W : World) (x : Th) : Prop := RdFr W x.frames
abbrev RdTh : World → Sv Th → Prop := Rd 5 Th.cells Th.ok
structure St.ok (W : World) (x : St) : Prop where
  cells : RdCe W x.cells
  shapes : RdSh W x.shapes
  texts : RdTx W x.texts
  threads : RdTh W x.threads
  ends : RdEn W x.ends
  said : RdVl W x.said
theorem RdVl.st : Stays RdVl := Rd.stays okT_stays
theorem RdTy.st : Stays RdTy := Rd.stays okT_stays
theorem RdSh.st : Stays RdSh := Rd.stays okT_stays
theorem RdEn.st : Stays RdEn := Rd.stays okT_stays
theorem RdTx.st : Stays RdTx := Rd.stays okT_stays
theorem RdBy.st : Stays RdBy := Rd.stays okT_stays
theorem Fr.ok.st : Stays Fr.ok := fun _ _ _ h hb => ⟨RdVl.st _ _ _ h.1 hb, RdTy.st _ _ _ h.2 hb⟩
theorem RdFr.st : Stays RdFr := Rd.stays Fr.ok.st
theorem Ce.ok.st : Stays Ce.ok := fun _ _ _ h hb => ⟨RdVl.st _ _ _ h.1 hb, RdFr.st _ _ _ h.2 hb⟩
theorem RdCe.st : Stays RdCe := Rd.stays Ce.ok.st
theorem Th.ok.st : Stays Th.ok := fun _ _ _ h hb => RdFr.st _ _ _ h hb
theorem RdTh.st : Stays RdTh := Rd.stays Th.ok.st
theorem St.ok.st : Stays St.ok := fun _ _ _ h hb => ⟨RdCe.st _ _ _ h.cells hb, RdSh.st _ _ _ h.shapes hb, RdTx.st _ _ _ h.texts hb, RdTh.st _ _ _ h.threads hb, RdEn.st _ _ _ h.ends hb, RdVl.st _ _ _ h.said hb⟩
/-- What it is. -/
def Fr.c (x : Fr) : FrC := ⟨x.f1, x.f2, x.f3, x.f4, x.sk, x.sn, x.regs.l, x.tries.l⟩
def Ce.c (x : Ce) : CeC := ⟨x.kd, x.nm, x.vals.l, x.frames.l.map Fr.c⟩
def Th.c (x : Th) : ThC := ⟨x.frames.l.map Fr.c, x.st, x.on, x.vk, x.vn⟩
def txC (x : ByteArray) : List UInt8 := x.data.toList
def St.c (x : St) : StC := ⟨x.cells.l.map Ce.c, x.shapes.l, x.texts.l.map txC, x.threads.l.map Th.c, x.ends.l, x.said.l, x.asked, x.steps⟩
theorem encL_map {α γ : Type} (c : α → γ) (e : γ → List Int) (l : List α) : encL e (l.map c) = (l.length : Int) :: l.flatMap fun x => e (c x) := by
  unfold encL
  rw [List.length_map, List.flatMap_map]
instance : Inhabited Fr := ⟨⟨0, 0, 0, 0, 0, 0, Sv.none, Sv.none⟩⟩
instance : Inhabited Ce := ⟨⟨0, 0, Sv.none, Sv.none⟩⟩
instance : Inhabited Th := ⟨⟨Sv.none, 0, 0, 0, 0⟩⟩
instance : Inhabited Vl := ⟨⟨0, 0⟩⟩
instance : Inhabited Ty := ⟨⟨0, 0⟩⟩
instance : Inhabited Sh := ⟨⟨0, 0⟩⟩
instance : Inhabited En := ⟨⟨0, 0, 0⟩⟩
end Go.Proofs.Ythdleldnjoamlaa
