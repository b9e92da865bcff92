/-
  many things written, each by a function.
-/
import Derived.Test.YthdleldnjoamlaaKinds
namespace Go.Proofs.Ythdleldnjoamlaa
open Go.RowKit

/-- A function that writes one thing. -/
structure OneV {α : Type} (wp : Nat) (W : World) (f : FuncId) (args : Value → Array Value) (val : α → Value) (ok : World → α → Prop) (e : α → List Int) : Prop where
  ent : ∀ (args : Array Value) (w : World), (callFunc f args).run Try.prog w = .ok (.enter f args) w
  call : ∀ W' L x, Kp wp W W' → WrI wp W' L → (∀ W'', Kp wp W' W'' → ok W'' x) → L.length + (e x).length ≤ 50000000 →
    Calls Try.prog f (args (val x)) W' fun r W'' => r = .returned (.tuple #[]) ∧ WrI wp W'' (L ++ e x) ∧ Kp wp W' W''
theorem fm_take {α : Type} (e : α → List Int) (l : List α) (k : Nat) : ((l.take k).flatMap e).length ≤ (l.flatMap e).length := by
  have : l.flatMap e = (l.take k).flatMap e ++ (l.drop k).flatMap e := by rw [← List.flatMap_append, List.take_append_drop]
  rw [this, List.length_append]; omega
theorem fm_step {α : Type} (e : α → List Int) {l : List α} {k : Nat} (z : α) (hk : k < l.length) : (l.take (k + 1)).flatMap e = (l.take k).flatMap e ++ e (l.getD k z) := by
  rw [List.take_add_one, List.flatMap_append, List.getElem?_eq_getElem hk]; simp [hk]

set_option maxRecDepth 100000 in
set_option maxHeartbeats 1000000 in
theorem many_Vl {wp : Nat} {W : World} {L : List Int} {s : Sv Vl} {f : FuncId} {rc : Value} (hW : WrI wp W L) (hR : ∀ W', Kp wp W W' → RdVl W' s) (h1 : OneV wp W f (fun v => #[rc, v]) Vl.val okT Vl.e) (hl : L.length + (encL Vl.e s.l).length ≤ 50000000) :
    Calls Try.prog 24 #[.pointer (some ⟨wp, 0, none⟩), s.val, .func (.func f) #[rc] #[]] W fun r W' => r = .returned (.tuple #[]) ∧ WrI wp W' (L ++ encL Vl.e s.l) ∧ Kp wp W W' := by
  obtain ⟨sp, scap, sl⟩ := s
  change L.length + (encL Vl.e sl).length ≤ _ at hl
  have hm : sl.length ≤ 9223372036854775807 := by have h := hR W (Kp.refl _ _); exact Nat.le_trans h.row.le h.row.big
  have hent := h1.ent
  have hal : WrI wp (W.alloc (.cells #[.int .i64 sl.length] 3)) L := hW.alloc _
  have hlit := lit_sl W [(sl.length : Int)] (by simp) #[.int .i64 sl.length] rfl _ rfl 1 rfl
  have hlL : L.length + 1 + (sl.flatMap Vl.e).length ≤ 50000000 := by unfold encL at hl; rw [List.length_cons] at hl; omega
  have hput := put_any hal hlit rfl (by simp; omega)
  have hK0 : Kp wp W (W.alloc (.cells #[.int .i64 sl.length] 3)) := (Kp.refl _ _).alloc (Nat.le_of_lt hW.lt) _
  dsimp only [Sv.val] at *
  have HP := Lib.hid hput; have HC := Lib.hid h1.call; have HR := Lib.hid hR; have HL := Lib.hid hlL
  clear hput hR hl hal hlit hlL
  go_enter Try.func24, Try.ntmps24
  go_wp2_with fail
  refine HP.out.mono ?_
  rintro _ W1 ⟨rfl, hw1, hk1⟩
  replace hk1 := hK0.trans hk1
  go_wp2_with fail
  go_loopw [15] (fun s15 wr => ∃ k : Nat, k ≤ sl.length ∧ s15 = .int .i64 k ∧ Hid (WrI wp wr (L ++ ((sl.length : Int) :: (sl.take k).flatMap Vl.e))) ∧ Kp wp W wr) (fun s15 _ => sl.length - (intOf s15).toNat)
  case atStart => exact ⟨0, Nat.zero_le _, rfl, Lib.hid (by simpa using hw1), hk1⟩
  case round =>
    clear hw1 hk1 HP
    obtain ⟨k, hk, rfl, hw, hkp⟩ := hrel
    by_cases hlt : k < sl.length
    · obtain ⟨b, off, hp, hb, hc⟩ := (HR.out wr hkp).at_ (fun _ => rfl) (by omega) hlt default
      have hx : sl.getD k default ∈ sl := by simp [hlt]
      have hok : ∀ W'', Kp wp wr W'' → okT W'' (sl.getD k default) := fun W'' h => (HR.out W'' (hkp.trans h)).each _ hx
      have hstep := fm_step Vl.e default hlt
      have hbd := fm_take Vl.e sl (k + 1)
      generalize sl.getD k default = x at *
      rw [hstep, List.length_append] at hbd
      have c0 : wr.cell? ⟨b, off + k * 2, none⟩ = some (.int .i64 x.k) := hc 0 _ rfl
      have c1 : wr.cell? ⟨b, off + k * 2 + 1, none⟩ = some (.int .i64 x.n) := hc 1 _ rfl
      clear hc
      dsimp only at hp
      subst hp
      have hcall := HC.out (wr.alloc (.cells #[.int .i64 x.k, .int .i64 x.n] 63)) _ x (hkp.trans ((Kp.refl _ _).alloc (Nat.le_of_lt hw.out.lt) (.cells #[.int .i64 x.k, .int .i64 x.n] 63))) (hw.out.alloc (.cells #[.int .i64 x.k, .int .i64 x.n] 63)) (fun W'' h => hok W'' (((Kp.refl _ _).alloc (Nat.le_of_lt hw.out.lt) (.cells #[.int .i64 x.k, .int .i64 x.n] 63)).trans h)) (by have := HL.out; rw [List.length_append, List.length_cons]; omega)
      have hk2 : ∀ W'', Kp wp (wr.alloc (.cells #[.int .i64 x.k, .int .i64 x.n] 63)) W'' → Kp wp W W'' := fun W'' h => hkp.trans (((Kp.refl _ _).alloc (Nat.le_of_lt hw.out.lt) (.cells #[.int .i64 x.k, .int .i64 x.n] 63)).trans h)
      have HCL := Lib.hid hcall; have HS := Lib.hid hstep; have HK2 := Lib.hid hk2
      clear hcall hstep hbd hok hk2
      go_wp2_with fail
      refine HCL.out.mono ?_
      rintro _ W2 ⟨rfl, hw2, hkp2⟩
      go_wp2_with fail
      go_roundw
      case rel => exact ⟨k + 1, by omega, by go_num, Lib.hid (by rw [HS.out, ← List.cons_append, ← List.append_assoc]; exact hw2), HK2.out _ hkp2⟩
      case measure => simp [intOf]; omega
    · obtain rfl : k = sl.length := by omega
      have hw' := hw.out
      rw [List.take_length] at hw'
      clear hw
      go_wp2_with fail
      go_end0
      exact ⟨rfl, hw', hkp⟩

set_option maxRecDepth 100000 in
set_option maxHeartbeats 1000000 in
theorem many_Ty {wp : Nat} {W : World} {L : List Int} {s : Sv Ty} {f : FuncId} {rc : Value} (hW : WrI wp W L) (hR : ∀ W', Kp wp W W' → RdTy W' s) (h1 : OneV wp W f (fun v => #[rc, v]) Ty.val okT Ty.e) (hl : L.length + (encL Ty.e s.l).length ≤ 50000000) :
    Calls Try.prog 49 #[.pointer (some ⟨wp, 0, none⟩), s.val, .func (.func f) #[rc] #[]] W fun r W' => r = .returned (.tuple #[]) ∧ WrI wp W' (L ++ encL Ty.e s.l) ∧ Kp wp W W' := by
  obtain ⟨sp, scap, sl⟩ := s
  change L.length + (encL Ty.e sl).length ≤ _ at hl
  have hm : sl.length ≤ 9223372036854775807 := by have h := hR W (Kp.refl _ _); exact Nat.le_trans h.row.le h.row.big
  have hent := h1.ent
  have hal : WrI wp (W.alloc (.cells #[.int .i64 sl.length] 3)) L := hW.alloc _
  have hlit := lit_sl W [(sl.length : Int)] (by simp) #[.int .i64 sl.length] rfl _ rfl 1 rfl
  have hlL : L.length + 1 + (sl.flatMap Ty.e).length ≤ 50000000 := by unfold encL at hl; rw [List.length_cons] at hl; omega
  have hput := put_any hal hlit rfl (by simp; omega)
  have hK0 : Kp wp W (W.alloc (.cells #[.int .i64 sl.length] 3)) := (Kp.refl _ _).alloc (Nat.le_of_lt hW.lt) _
  dsimp only [Sv.val] at *
  have HP := Lib.hid hput; have HC := Lib.hid h1.call; have HR := Lib.hid hR; have HL := Lib.hid hlL
  clear hput hR hl hal hlit hlL
  go_enter Try.func49, Try.ntmps49
  go_wp2_with fail
  refine HP.out.mono ?_
  rintro _ W1 ⟨rfl, hw1, hk1⟩
  replace hk1 := hK0.trans hk1
  go_wp2_with fail
  go_loopw [15] (fun s15 wr => ∃ k : Nat, k ≤ sl.length ∧ s15 = .int .i64 k ∧ Hid (WrI wp wr (L ++ ((sl.length : Int) :: (sl.take k).flatMap Ty.e))) ∧ Kp wp W wr) (fun s15 _ => sl.length - (intOf s15).toNat)
  case atStart => exact ⟨0, Nat.zero_le _, rfl, Lib.hid (by simpa using hw1), hk1⟩
  case round =>
    clear hw1 hk1 HP
    obtain ⟨k, hk, rfl, hw, hkp⟩ := hrel
    by_cases hlt : k < sl.length
    · obtain ⟨b, off, hp, hb, hc⟩ := (HR.out wr hkp).at_ (fun _ => rfl) (by omega) hlt default
      have hx : sl.getD k default ∈ sl := by simp [hlt]
      have hok : ∀ W'', Kp wp wr W'' → okT W'' (sl.getD k default) := fun W'' h => (HR.out W'' (hkp.trans h)).each _ hx
      have hstep := fm_step Ty.e default hlt
      have hbd := fm_take Ty.e sl (k + 1)
      generalize sl.getD k default = x at *
      rw [hstep, List.length_append] at hbd
      have c0 : wr.cell? ⟨b, off + k * 2, none⟩ = some (.int .i64 x.r) := hc 0 _ rfl
      have c1 : wr.cell? ⟨b, off + k * 2 + 1, none⟩ = some (.int .i64 x.a) := hc 1 _ rfl
      clear hc
      dsimp only at hp
      subst hp
      have hcall := HC.out (wr.alloc (.cells #[.int .i64 x.r, .int .i64 x.a] 104)) _ x (hkp.trans ((Kp.refl _ _).alloc (Nat.le_of_lt hw.out.lt) (.cells #[.int .i64 x.r, .int .i64 x.a] 104))) (hw.out.alloc (.cells #[.int .i64 x.r, .int .i64 x.a] 104)) (fun W'' h => hok W'' (((Kp.refl _ _).alloc (Nat.le_of_lt hw.out.lt) (.cells #[.int .i64 x.r, .int .i64 x.a] 104)).trans h)) (by have := HL.out; rw [List.length_append, List.length_cons]; omega)
      have hk2 : ∀ W'', Kp wp (wr.alloc (.cells #[.int .i64 x.r, .int .i64 x.a] 104)) W'' → Kp wp W W'' := fun W'' h => hkp.trans (((Kp.refl _ _).alloc (Nat.le_of_lt hw.out.lt) (.cells #[.int .i64 x.r, .int .i64 x.a] 104)).trans h)
      have HCL := Lib.hid hcall; have HS := Lib.hid hstep; have HK2 := Lib.hid hk2
      clear hcall hstep hbd hok hk2
      go_wp2_with fail
      refine HCL.out.mono ?_
      rintro _ W2 ⟨rfl, hw2, hkp2⟩
      go_wp2_with fail
      go_roundw
      case rel => exact ⟨k + 1, by omega, by go_num, Lib.hid (by rw [HS.out, ← List.cons_append, ← List.append_assoc]; exact hw2), HK2.out _ hkp2⟩
      case measure => simp [intOf]; omega
    · obtain rfl : k = sl.length := by omega
      have hw' := hw.out
      rw [List.take_length] at hw'
      clear hw
      go_wp2_with fail
      go_end0
      exact ⟨rfl, hw', hkp⟩

set_option maxRecDepth 100000 in
set_option maxHeartbeats 1000000 in
theorem many_Sh {wp : Nat} {W : World} {L : List Int} {s : Sv Sh} {f : FuncId} {rc : Value} (hW : WrI wp W L) (hR : ∀ W', Kp wp W W' → RdSh W' s) (h1 : OneV wp W f (fun v => #[v, rc]) Sh.val okT Sh.e) (hl : L.length + (encL Sh.e s.l).length ≤ 50000000) :
    Calls Try.prog 15 #[.pointer (some ⟨wp, 0, none⟩), s.val, .func (.func f) #[] #[rc]] W fun r W' => r = .returned (.tuple #[]) ∧ WrI wp W' (L ++ encL Sh.e s.l) ∧ Kp wp W W' := by
  obtain ⟨sp, scap, sl⟩ := s
  change L.length + (encL Sh.e sl).length ≤ _ at hl
  have hm : sl.length ≤ 9223372036854775807 := by have h := hR W (Kp.refl _ _); exact Nat.le_trans h.row.le h.row.big
  have hent := h1.ent
  have hal : WrI wp (W.alloc (.cells #[.int .i64 sl.length] 3)) L := hW.alloc _
  have hlit := lit_sl W [(sl.length : Int)] (by simp) #[.int .i64 sl.length] rfl _ rfl 1 rfl
  have hlL : L.length + 1 + (sl.flatMap Sh.e).length ≤ 50000000 := by unfold encL at hl; rw [List.length_cons] at hl; omega
  have hput := put_any hal hlit rfl (by simp; omega)
  have hK0 : Kp wp W (W.alloc (.cells #[.int .i64 sl.length] 3)) := (Kp.refl _ _).alloc (Nat.le_of_lt hW.lt) _
  dsimp only [Sv.val] at *
  have HP := Lib.hid hput; have HC := Lib.hid h1.call; have HR := Lib.hid hR; have HL := Lib.hid hlL
  clear hput hR hl hal hlit hlL
  go_enter Try.func15, Try.ntmps15
  go_wp2_with fail
  refine HP.out.mono ?_
  rintro _ W1 ⟨rfl, hw1, hk1⟩
  replace hk1 := hK0.trans hk1
  go_wp2_with fail
  go_loopw [15] (fun s15 wr => ∃ k : Nat, k ≤ sl.length ∧ s15 = .int .i64 k ∧ Hid (WrI wp wr (L ++ ((sl.length : Int) :: (sl.take k).flatMap Sh.e))) ∧ Kp wp W wr) (fun s15 _ => sl.length - (intOf s15).toNat)
  case atStart => exact ⟨0, Nat.zero_le _, rfl, Lib.hid (by simpa using hw1), hk1⟩
  case round =>
    clear hw1 hk1 HP
    obtain ⟨k, hk, rfl, hw, hkp⟩ := hrel
    by_cases hlt : k < sl.length
    · obtain ⟨b, off, hp, hb, hc⟩ := (HR.out wr hkp).at_ (fun _ => rfl) (by omega) hlt default
      have hx : sl.getD k default ∈ sl := by simp [hlt]
      have hok : ∀ W'', Kp wp wr W'' → okT W'' (sl.getD k default) := fun W'' h => (HR.out W'' (hkp.trans h)).each _ hx
      have hstep := fm_step Sh.e default hlt
      have hbd := fm_take Sh.e sl (k + 1)
      generalize sl.getD k default = x at *
      rw [hstep, List.length_append] at hbd
      have c0 : wr.cell? ⟨b, off + k * 2, none⟩ = some (.int .i64 x.u) := hc 0 _ rfl
      have c1 : wr.cell? ⟨b, off + k * 2 + 1, none⟩ = some (.int .i64 x.n) := hc 1 _ rfl
      clear hc
      dsimp only at hp
      subst hp
      have hcall := HC.out (wr.alloc (.cells #[.int .i64 x.u, .int .i64 x.n] 56)) _ x (hkp.trans ((Kp.refl _ _).alloc (Nat.le_of_lt hw.out.lt) (.cells #[.int .i64 x.u, .int .i64 x.n] 56))) (hw.out.alloc (.cells #[.int .i64 x.u, .int .i64 x.n] 56)) (fun W'' h => hok W'' (((Kp.refl _ _).alloc (Nat.le_of_lt hw.out.lt) (.cells #[.int .i64 x.u, .int .i64 x.n] 56)).trans h)) (by have := HL.out; rw [List.length_append, List.length_cons]; omega)
      have hk2 : ∀ W'', Kp wp (wr.alloc (.cells #[.int .i64 x.u, .int .i64 x.n] 56)) W'' → Kp wp W W'' := fun W'' h => hkp.trans (((Kp.refl _ _).alloc (Nat.le_of_lt hw.out.lt) (.cells #[.int .i64 x.u, .int .i64 x.n] 56)).trans h)
      have HCL := Lib.hid hcall; have HS := Lib.hid hstep; have HK2 := Lib.hid hk2
      clear hcall hstep hbd hok hk2
      go_wp2_with fail
      refine HCL.out.mono ?_
      rintro _ W2 ⟨rfl, hw2, hkp2⟩
      go_wp2_with fail
      go_roundw
      case rel => exact ⟨k + 1, by omega, by go_num, Lib.hid (by rw [HS.out, ← List.cons_append, ← List.append_assoc]; exact hw2), HK2.out _ hkp2⟩
      case measure => simp [intOf]; omega
    · obtain rfl : k = sl.length := by omega
      have hw' := hw.out
      rw [List.take_length] at hw'
      clear hw
      go_wp2_with fail
      go_end0
      exact ⟨rfl, hw', hkp⟩

set_option maxRecDepth 100000 in
set_option maxHeartbeats 1000000 in
theorem many_En {wp : Nat} {W : World} {L : List Int} {s : Sv En} {f : FuncId} {rc : Value} (hW : WrI wp W L) (hR : ∀ W', Kp wp W W' → RdEn W' s) (h1 : OneV wp W f (fun v => #[rc, v]) En.val okT En.e) (hl : L.length + (encL En.e s.l).length ≤ 50000000) :
    Calls Try.prog 22 #[.pointer (some ⟨wp, 0, none⟩), s.val, .func (.func f) #[rc] #[]] W fun r W' => r = .returned (.tuple #[]) ∧ WrI wp W' (L ++ encL En.e s.l) ∧ Kp wp W W' := by
  obtain ⟨sp, scap, sl⟩ := s
  change L.length + (encL En.e sl).length ≤ _ at hl
  have hm : sl.length ≤ 9223372036854775807 := by have h := hR W (Kp.refl _ _); exact Nat.le_trans h.row.le h.row.big
  have hent := h1.ent
  have hal : WrI wp (W.alloc (.cells #[.int .i64 sl.length] 3)) L := hW.alloc _
  have hlit := lit_sl W [(sl.length : Int)] (by simp) #[.int .i64 sl.length] rfl _ rfl 1 rfl
  have hlL : L.length + 1 + (sl.flatMap En.e).length ≤ 50000000 := by unfold encL at hl; rw [List.length_cons] at hl; omega
  have hput := put_any hal hlit rfl (by simp; omega)
  have hK0 : Kp wp W (W.alloc (.cells #[.int .i64 sl.length] 3)) := (Kp.refl _ _).alloc (Nat.le_of_lt hW.lt) _
  dsimp only [Sv.val] at *
  have HP := Lib.hid hput; have HC := Lib.hid h1.call; have HR := Lib.hid hR; have HL := Lib.hid hlL
  clear hput hR hl hal hlit hlL
  go_enter Try.func22, Try.ntmps22
  go_wp2_with fail
  refine HP.out.mono ?_
  rintro _ W1 ⟨rfl, hw1, hk1⟩
  replace hk1 := hK0.trans hk1
  go_wp2_with fail
  go_loopw [15] (fun s15 wr => ∃ k : Nat, k ≤ sl.length ∧ s15 = .int .i64 k ∧ Hid (WrI wp wr (L ++ ((sl.length : Int) :: (sl.take k).flatMap En.e))) ∧ Kp wp W wr) (fun s15 _ => sl.length - (intOf s15).toNat)
  case atStart => exact ⟨0, Nat.zero_le _, rfl, Lib.hid (by simpa using hw1), hk1⟩
  case round =>
    clear hw1 hk1 HP
    obtain ⟨k, hk, rfl, hw, hkp⟩ := hrel
    by_cases hlt : k < sl.length
    · obtain ⟨b, off, hp, hb, hc⟩ := (HR.out wr hkp).at_ (fun _ => rfl) (by omega) hlt default
      have hx : sl.getD k default ∈ sl := by simp [hlt]
      have hok : ∀ W'', Kp wp wr W'' → okT W'' (sl.getD k default) := fun W'' h => (HR.out W'' (hkp.trans h)).each _ hx
      have hstep := fm_step En.e default hlt
      have hbd := fm_take En.e sl (k + 1)
      generalize sl.getD k default = x at *
      rw [hstep, List.length_append] at hbd
      have c0 : wr.cell? ⟨b, off + k * 3, none⟩ = some (.int .i64 x.c) := hc 0 _ rfl
      have c1 : wr.cell? ⟨b, off + k * 3 + 1, none⟩ = some (.int .i64 x.k) := hc 1 _ rfl
      have c2 : wr.cell? ⟨b, off + k * 3 + 2, none⟩ = some (.int .i64 x.n) := hc 2 _ rfl
      clear hc
      dsimp only at hp
      subst hp
      have hcall := HC.out (wr.alloc (.cells #[.int .i64 x.c, .int .i64 x.k, .int .i64 x.n] 69)) _ x (hkp.trans ((Kp.refl _ _).alloc (Nat.le_of_lt hw.out.lt) (.cells #[.int .i64 x.c, .int .i64 x.k, .int .i64 x.n] 69))) (hw.out.alloc (.cells #[.int .i64 x.c, .int .i64 x.k, .int .i64 x.n] 69)) (fun W'' h => hok W'' (((Kp.refl _ _).alloc (Nat.le_of_lt hw.out.lt) (.cells #[.int .i64 x.c, .int .i64 x.k, .int .i64 x.n] 69)).trans h)) (by have := HL.out; rw [List.length_append, List.length_cons]; omega)
      have hk2 : ∀ W'', Kp wp (wr.alloc (.cells #[.int .i64 x.c, .int .i64 x.k, .int .i64 x.n] 69)) W'' → Kp wp W W'' := fun W'' h => hkp.trans (((Kp.refl _ _).alloc (Nat.le_of_lt hw.out.lt) (.cells #[.int .i64 x.c, .int .i64 x.k, .int .i64 x.n] 69)).trans h)
      have HCL := Lib.hid hcall; have HS := Lib.hid hstep; have HK2 := Lib.hid hk2
      clear hcall hstep hbd hok hk2
      go_wp2_with fail
      refine HCL.out.mono ?_
      rintro _ W2 ⟨rfl, hw2, hkp2⟩
      go_wp2_with fail
      go_roundw
      case rel => exact ⟨k + 1, by omega, by go_num, Lib.hid (by rw [HS.out, ← List.cons_append, ← List.append_assoc]; exact hw2), HK2.out _ hkp2⟩
      case measure => simp [intOf]; omega
    · obtain rfl : k = sl.length := by omega
      have hw' := hw.out
      rw [List.take_length] at hw'
      clear hw
      go_wp2_with fail
      go_end0
      exact ⟨rfl, hw', hkp⟩

set_option maxRecDepth 100000 in
set_option maxHeartbeats 1000000 in
theorem many_By {wp : Nat} {W : World} {L : List Int} {s : Sv UInt8} {f : FuncId} {rc : Value} (hW : WrI wp W L) (hR : ∀ W', Kp wp W W' → RdBy W' s) (h1 : OneV wp W f (fun v => #[v, rc]) (fun x : UInt8 => Value.int .u8 (x.toNat : Int)) okT byE) (hl : L.length + (encL byE s.l).length ≤ 50000000) :
    Calls Try.prog 43 #[.pointer (some ⟨wp, 0, none⟩), s.val, .func (.func f) #[] #[rc]] W fun r W' => r = .returned (.tuple #[]) ∧ WrI wp W' (L ++ encL byE s.l) ∧ Kp wp W W' := by
  obtain ⟨sp, scap, sl⟩ := s
  change L.length + (encL byE sl).length ≤ _ at hl
  have hm : sl.length ≤ 9223372036854775807 := by have h := hR W (Kp.refl _ _); exact Nat.le_trans h.row.le h.row.big
  have hent := h1.ent
  have hal : WrI wp (W.alloc (.cells #[.int .i64 sl.length] 3)) L := hW.alloc _
  have hlit := lit_sl W [(sl.length : Int)] (by simp) #[.int .i64 sl.length] rfl _ rfl 1 rfl
  have hlL : L.length + 1 + (sl.flatMap byE).length ≤ 50000000 := by unfold encL at hl; rw [List.length_cons] at hl; omega
  have hput := put_any hal hlit rfl (by simp; omega)
  have hK0 : Kp wp W (W.alloc (.cells #[.int .i64 sl.length] 3)) := (Kp.refl _ _).alloc (Nat.le_of_lt hW.lt) _
  dsimp only [Sv.val] at *
  have HP := Lib.hid hput; have HC := Lib.hid h1.call; have HR := Lib.hid hR; have HL := Lib.hid hlL
  clear hput hR hl hal hlit hlL
  go_enter Try.func43, Try.ntmps43
  go_wp2_with fail
  refine HP.out.mono ?_
  rintro _ W1 ⟨rfl, hw1, hk1⟩
  replace hk1 := hK0.trans hk1
  go_wp2_with fail
  go_loopw [15] (fun s15 wr => ∃ k : Nat, k ≤ sl.length ∧ s15 = .int .i64 k ∧ Hid (WrI wp wr (L ++ ((sl.length : Int) :: (sl.take k).flatMap byE))) ∧ Kp wp W wr) (fun s15 _ => sl.length - (intOf s15).toNat)
  case atStart => exact ⟨0, Nat.zero_le _, rfl, Lib.hid (by simpa using hw1), hk1⟩
  case round =>
    clear hw1 hk1 HP
    obtain ⟨k, hk, rfl, hw, hkp⟩ := hrel
    by_cases hlt : k < sl.length
    · obtain ⟨b, off, hp, hb, hc⟩ := (HR.out wr hkp).at_ (fun _ => rfl) (by omega) hlt default
      have hx : sl.getD k default ∈ sl := by simp [hlt]
      have hok : ∀ W'', Kp wp wr W'' → okT W'' (sl.getD k default) := fun W'' h => (HR.out W'' (hkp.trans h)).each _ hx
      have hstep := fm_step byE default hlt
      have hbd := fm_take byE sl (k + 1)
      generalize sl.getD k default = x at *
      rw [hstep, List.length_append] at hbd
      have c0 : wr.cell? ⟨b, off + k, none⟩ = some (.int .u8 (x.toNat : Int)) := by have := hc 0 _ rfl; rwa [Nat.mul_one] at this
      clear hc
      dsimp only at hp
      subst hp
      have hcall := HC.out wr _ x (hkp.trans (Kp.refl _ _)) hw.out (fun W'' h => hok W'' ((Kp.refl _ _).trans h)) (by have := HL.out; rw [List.length_append, List.length_cons]; omega)
      have hk2 : ∀ W'', Kp wp wr W'' → Kp wp W W'' := fun W'' h => hkp.trans ((Kp.refl _ _).trans h)
      have HCL := Lib.hid hcall; have HS := Lib.hid hstep; have HK2 := Lib.hid hk2
      clear hcall hstep hbd hok hk2
      go_wp2_with fail
      refine HCL.out.mono ?_
      rintro _ W2 ⟨rfl, hw2, hkp2⟩
      go_wp2_with fail
      go_roundw
      case rel => exact ⟨k + 1, by omega, by go_num, Lib.hid (by rw [HS.out, ← List.cons_append, ← List.append_assoc]; exact hw2), HK2.out _ hkp2⟩
      case measure => simp [intOf]; omega
    · obtain rfl : k = sl.length := by omega
      have hw' := hw.out
      rw [List.take_length] at hw'
      clear hw
      go_wp2_with fail
      go_end0
      exact ⟨rfl, hw', hkp⟩

set_option maxRecDepth 100000 in
set_option maxHeartbeats 1000000 in
theorem many_Tx {wp : Nat} {W : World} {L : List Int} {s : Sv ByteArray} {f : FuncId} {rc : Value} (hW : WrI wp W L) (hR : ∀ W', Kp wp W W' → RdTx W' s) (h1 : OneV wp W f (fun v => #[rc, v]) Value.string okT (fun x => txE (txC x))) (hl : L.length + (encL (fun x => txE (txC x)) s.l).length ≤ 50000000) :
    Calls Try.prog 18 #[.pointer (some ⟨wp, 0, none⟩), s.val, .func (.func f) #[rc] #[]] W fun r W' => r = .returned (.tuple #[]) ∧ WrI wp W' (L ++ encL (fun x => txE (txC x)) s.l) ∧ Kp wp W W' := by
  obtain ⟨sp, scap, sl⟩ := s
  change L.length + (encL (fun x => txE (txC x)) sl).length ≤ _ at hl
  have hm : sl.length ≤ 9223372036854775807 := by have h := hR W (Kp.refl _ _); exact Nat.le_trans h.row.le h.row.big
  have hent := h1.ent
  have hal : WrI wp (W.alloc (.cells #[.int .i64 sl.length] 3)) L := hW.alloc _
  have hlit := lit_sl W [(sl.length : Int)] (by simp) #[.int .i64 sl.length] rfl _ rfl 1 rfl
  have hlL : L.length + 1 + (sl.flatMap (fun x => txE (txC x))).length ≤ 50000000 := by unfold encL at hl; rw [List.length_cons] at hl; omega
  have hput := put_any hal hlit rfl (by simp; omega)
  have hK0 : Kp wp W (W.alloc (.cells #[.int .i64 sl.length] 3)) := (Kp.refl _ _).alloc (Nat.le_of_lt hW.lt) _
  dsimp only [Sv.val] at *
  have HP := Lib.hid hput; have HC := Lib.hid h1.call; have HR := Lib.hid hR; have HL := Lib.hid hlL
  clear hput hR hl hal hlit hlL
  go_enter Try.func18, Try.ntmps18
  go_wp2_with fail
  refine HP.out.mono ?_
  rintro _ W1 ⟨rfl, hw1, hk1⟩
  replace hk1 := hK0.trans hk1
  go_wp2_with fail
  go_loopw [15] (fun s15 wr => ∃ k : Nat, k ≤ sl.length ∧ s15 = .int .i64 k ∧ Hid (WrI wp wr (L ++ ((sl.length : Int) :: (sl.take k).flatMap (fun x => txE (txC x))))) ∧ Kp wp W wr) (fun s15 _ => sl.length - (intOf s15).toNat)
  case atStart => exact ⟨0, Nat.zero_le _, rfl, Lib.hid (by simpa using hw1), hk1⟩
  case round =>
    clear hw1 hk1 HP
    obtain ⟨k, hk, rfl, hw, hkp⟩ := hrel
    by_cases hlt : k < sl.length
    · obtain ⟨b, off, hp, hb, hc⟩ := (HR.out wr hkp).at_ (fun _ => rfl) (by omega) hlt default
      have hx : sl.getD k default ∈ sl := by simp [hlt]
      have hok : ∀ W'', Kp wp wr W'' → okT W'' (sl.getD k default) := fun W'' h => (HR.out W'' (hkp.trans h)).each _ hx
      have hstep := fm_step (fun x => txE (txC x)) default hlt
      have hbd := fm_take (fun x => txE (txC x)) sl (k + 1)
      generalize sl.getD k default = x at *
      rw [hstep, List.length_append] at hbd
      have c0 : wr.cell? ⟨b, off + k, none⟩ = some (.string x) := by have := hc 0 _ rfl; rwa [Nat.mul_one] at this
      clear hc
      dsimp only at hp
      subst hp
      have hcall := HC.out wr _ x (hkp.trans (Kp.refl _ _)) hw.out (fun W'' h => hok W'' ((Kp.refl _ _).trans h)) (by have := HL.out; rw [List.length_append, List.length_cons]; omega)
      have hk2 : ∀ W'', Kp wp wr W'' → Kp wp W W'' := fun W'' h => hkp.trans ((Kp.refl _ _).trans h)
      have HCL := Lib.hid hcall; have HS := Lib.hid hstep; have HK2 := Lib.hid hk2
      clear hcall hstep hbd hok hk2
      go_wp2_with fail
      refine HCL.out.mono ?_
      rintro _ W2 ⟨rfl, hw2, hkp2⟩
      go_wp2_with fail
      go_roundw
      case rel => exact ⟨k + 1, by omega, by go_num, Lib.hid (by rw [HS.out, ← List.cons_append, ← List.append_assoc]; exact hw2), HK2.out _ hkp2⟩
      case measure => simp [intOf]; omega
    · obtain rfl : k = sl.length := by omega
      have hw' := hw.out
      rw [List.take_length] at hw'
      clear hw
      go_wp2_with fail
      go_end0
      exact ⟨rfl, hw', hkp⟩

set_option maxRecDepth 100000 in
set_option maxHeartbeats 1000000 in
theorem many_Fr {wp : Nat} {W : World} {L : List Int} {s : Sv Fr} {f : FuncId} {rc : Value} (hW : WrI wp W L) (hR : ∀ W', Kp wp W W' → RdFr W' s) (h1 : OneV wp W f (fun v => #[rc, v]) Fr.val Fr.ok (fun x => FrC.e x.c)) (hl : L.length + (encL (fun x => FrC.e x.c) s.l).length ≤ 50000000) :
    Calls Try.prog 41 #[.pointer (some ⟨wp, 0, none⟩), s.val, .func (.func f) #[rc] #[]] W fun r W' => r = .returned (.tuple #[]) ∧ WrI wp W' (L ++ encL (fun x => FrC.e x.c) s.l) ∧ Kp wp W W' := by
  obtain ⟨sp, scap, sl⟩ := s
  change L.length + (encL (fun x => FrC.e x.c) sl).length ≤ _ at hl
  have hm : sl.length ≤ 9223372036854775807 := by have h := hR W (Kp.refl _ _); exact Nat.le_trans h.row.le h.row.big
  have hent := h1.ent
  have hal : WrI wp (W.alloc (.cells #[.int .i64 sl.length] 3)) L := hW.alloc _
  have hlit := lit_sl W [(sl.length : Int)] (by simp) #[.int .i64 sl.length] rfl _ rfl 1 rfl
  have hlL : L.length + 1 + (sl.flatMap (fun x => FrC.e x.c)).length ≤ 50000000 := by unfold encL at hl; rw [List.length_cons] at hl; omega
  have hput := put_any hal hlit rfl (by simp; omega)
  have hK0 : Kp wp W (W.alloc (.cells #[.int .i64 sl.length] 3)) := (Kp.refl _ _).alloc (Nat.le_of_lt hW.lt) _
  dsimp only [Sv.val] at *
  have HP := Lib.hid hput; have HC := Lib.hid h1.call; have HR := Lib.hid hR; have HL := Lib.hid hlL
  clear hput hR hl hal hlit hlL
  go_enter Try.func41, Try.ntmps41
  go_wp2_with fail
  refine HP.out.mono ?_
  rintro _ W1 ⟨rfl, hw1, hk1⟩
  replace hk1 := hK0.trans hk1
  go_wp2_with fail
  go_loopw [15] (fun s15 wr => ∃ k : Nat, k ≤ sl.length ∧ s15 = .int .i64 k ∧ Hid (WrI wp wr (L ++ ((sl.length : Int) :: (sl.take k).flatMap (fun x => FrC.e x.c)))) ∧ Kp wp W wr) (fun s15 _ => sl.length - (intOf s15).toNat)
  case atStart => exact ⟨0, Nat.zero_le _, rfl, Lib.hid (by simpa using hw1), hk1⟩
  case round =>
    clear hw1 hk1 HP
    obtain ⟨k, hk, rfl, hw, hkp⟩ := hrel
    by_cases hlt : k < sl.length
    · obtain ⟨b, off, hp, hb, hc⟩ := (HR.out wr hkp).at_ (fun _ => rfl) (by omega) hlt default
      have hx : sl.getD k default ∈ sl := by simp [hlt]
      have hok : ∀ W'', Kp wp wr W'' → Fr.ok W'' (sl.getD k default) := fun W'' h => (HR.out W'' (hkp.trans h)).each _ hx
      have hstep := fm_step (fun x => FrC.e x.c) default hlt
      have hbd := fm_take (fun x => FrC.e x.c) sl (k + 1)
      generalize sl.getD k default = x at *
      rw [hstep, List.length_append] at hbd
      have c0 : wr.cell? ⟨b, off + k * 8, none⟩ = some (.int .i64 x.f1) := hc 0 _ rfl
      have c1 : wr.cell? ⟨b, off + k * 8 + 1, none⟩ = some (.int .i64 x.f2) := hc 1 _ rfl
      have c2 : wr.cell? ⟨b, off + k * 8 + 2, none⟩ = some (.int .i64 x.f3) := hc 2 _ rfl
      have c3 : wr.cell? ⟨b, off + k * 8 + 3, none⟩ = some (.int .i64 x.f4) := hc 3 _ rfl
      have c4 : wr.cell? ⟨b, off + k * 8 + 4, none⟩ = some (.int .i64 x.sk) := hc 4 _ rfl
      have c5 : wr.cell? ⟨b, off + k * 8 + 5, none⟩ = some (.int .i64 x.sn) := hc 5 _ rfl
      have c6 : wr.cell? ⟨b, off + k * 8 + 6, none⟩ = some (x.regs.val) := hc 6 _ rfl
      have c7 : wr.cell? ⟨b, off + k * 8 + 7, none⟩ = some (x.tries.val) := hc 7 _ rfl
      clear hc
      dsimp only at hp
      subst hp
      have hcall := HC.out (wr.alloc (.cells #[.int .i64 x.f1, .int .i64 x.f2, .int .i64 x.f3, .int .i64 x.f4, .int .i64 x.sk, .int .i64 x.sn, x.regs.val, x.tries.val] 94)) _ x (hkp.trans ((Kp.refl _ _).alloc (Nat.le_of_lt hw.out.lt) (.cells #[.int .i64 x.f1, .int .i64 x.f2, .int .i64 x.f3, .int .i64 x.f4, .int .i64 x.sk, .int .i64 x.sn, x.regs.val, x.tries.val] 94))) (hw.out.alloc (.cells #[.int .i64 x.f1, .int .i64 x.f2, .int .i64 x.f3, .int .i64 x.f4, .int .i64 x.sk, .int .i64 x.sn, x.regs.val, x.tries.val] 94)) (fun W'' h => hok W'' (((Kp.refl _ _).alloc (Nat.le_of_lt hw.out.lt) (.cells #[.int .i64 x.f1, .int .i64 x.f2, .int .i64 x.f3, .int .i64 x.f4, .int .i64 x.sk, .int .i64 x.sn, x.regs.val, x.tries.val] 94)).trans h)) (by have := HL.out; rw [List.length_append, List.length_cons]; omega)
      have hk2 : ∀ W'', Kp wp (wr.alloc (.cells #[.int .i64 x.f1, .int .i64 x.f2, .int .i64 x.f3, .int .i64 x.f4, .int .i64 x.sk, .int .i64 x.sn, x.regs.val, x.tries.val] 94)) W'' → Kp wp W W'' := fun W'' h => hkp.trans (((Kp.refl _ _).alloc (Nat.le_of_lt hw.out.lt) (.cells #[.int .i64 x.f1, .int .i64 x.f2, .int .i64 x.f3, .int .i64 x.f4, .int .i64 x.sk, .int .i64 x.sn, x.regs.val, x.tries.val] 94)).trans h)
      have HCL := Lib.hid hcall; have HS := Lib.hid hstep; have HK2 := Lib.hid hk2
      clear hcall hstep hbd hok hk2
      go_wp2_with fail
      refine HCL.out.mono ?_
      rintro _ W2 ⟨rfl, hw2, hkp2⟩
      go_wp2_with fail
      go_roundw
      case rel => exact ⟨k + 1, by omega, by go_num, Lib.hid (by rw [HS.out, ← List.cons_append, ← List.append_assoc]; exact hw2), HK2.out _ hkp2⟩
      case measure => simp [intOf]; omega
    · obtain rfl : k = sl.length := by omega
      have hw' := hw.out
      rw [List.take_length] at hw'
      clear hw
      go_wp2_with fail
      go_end0
      exact ⟨rfl, hw', hkp⟩

set_option maxRecDepth 100000 in
set_option maxHeartbeats 1000000 in
theorem many_Ce {wp : Nat} {W : World} {L : List Int} {s : Sv Ce} {f : FuncId} {rc : Value} (hW : WrI wp W L) (hR : ∀ W', Kp wp W W' → RdCe W' s) (h1 : OneV wp W f (fun v => #[rc, v]) Ce.val Ce.ok (fun x => CeC.e x.c)) (hl : L.length + (encL (fun x => CeC.e x.c) s.l).length ≤ 50000000) :
    Calls Try.prog 13 #[.pointer (some ⟨wp, 0, none⟩), s.val, .func (.func f) #[rc] #[]] W fun r W' => r = .returned (.tuple #[]) ∧ WrI wp W' (L ++ encL (fun x => CeC.e x.c) s.l) ∧ Kp wp W W' := by
  obtain ⟨sp, scap, sl⟩ := s
  change L.length + (encL (fun x => CeC.e x.c) sl).length ≤ _ at hl
  have hm : sl.length ≤ 9223372036854775807 := by have h := hR W (Kp.refl _ _); exact Nat.le_trans h.row.le h.row.big
  have hent := h1.ent
  have hal : WrI wp (W.alloc (.cells #[.int .i64 sl.length] 3)) L := hW.alloc _
  have hlit := lit_sl W [(sl.length : Int)] (by simp) #[.int .i64 sl.length] rfl _ rfl 1 rfl
  have hlL : L.length + 1 + (sl.flatMap (fun x => CeC.e x.c)).length ≤ 50000000 := by unfold encL at hl; rw [List.length_cons] at hl; omega
  have hput := put_any hal hlit rfl (by simp; omega)
  have hK0 : Kp wp W (W.alloc (.cells #[.int .i64 sl.length] 3)) := (Kp.refl _ _).alloc (Nat.le_of_lt hW.lt) _
  dsimp only [Sv.val] at *
  have HP := Lib.hid hput; have HC := Lib.hid h1.call; have HR := Lib.hid hR; have HL := Lib.hid hlL
  clear hput hR hl hal hlit hlL
  go_enter Try.func13, Try.ntmps13
  go_wp2_with fail
  refine HP.out.mono ?_
  rintro _ W1 ⟨rfl, hw1, hk1⟩
  replace hk1 := hK0.trans hk1
  go_wp2_with fail
  go_loopw [15] (fun s15 wr => ∃ k : Nat, k ≤ sl.length ∧ s15 = .int .i64 k ∧ Hid (WrI wp wr (L ++ ((sl.length : Int) :: (sl.take k).flatMap (fun x => CeC.e x.c)))) ∧ Kp wp W wr) (fun s15 _ => sl.length - (intOf s15).toNat)
  case atStart => exact ⟨0, Nat.zero_le _, rfl, Lib.hid (by simpa using hw1), hk1⟩
  case round =>
    clear hw1 hk1 HP
    obtain ⟨k, hk, rfl, hw, hkp⟩ := hrel
    by_cases hlt : k < sl.length
    · obtain ⟨b, off, hp, hb, hc⟩ := (HR.out wr hkp).at_ (fun _ => rfl) (by omega) hlt default
      have hx : sl.getD k default ∈ sl := by simp [hlt]
      have hok : ∀ W'', Kp wp wr W'' → Ce.ok W'' (sl.getD k default) := fun W'' h => (HR.out W'' (hkp.trans h)).each _ hx
      have hstep := fm_step (fun x => CeC.e x.c) default hlt
      have hbd := fm_take (fun x => CeC.e x.c) sl (k + 1)
      generalize sl.getD k default = x at *
      rw [hstep, List.length_append] at hbd
      have c0 : wr.cell? ⟨b, off + k * 4, none⟩ = some (.int .i64 x.kd) := hc 0 _ rfl
      have c1 : wr.cell? ⟨b, off + k * 4 + 1, none⟩ = some (.int .i64 x.nm) := hc 1 _ rfl
      have c2 : wr.cell? ⟨b, off + k * 4 + 2, none⟩ = some (x.vals.val) := hc 2 _ rfl
      have c3 : wr.cell? ⟨b, off + k * 4 + 3, none⟩ = some (x.frames.val) := hc 3 _ rfl
      clear hc
      dsimp only at hp
      subst hp
      have hcall := HC.out (wr.alloc (.cells #[.int .i64 x.kd, .int .i64 x.nm, x.vals.val, x.frames.val] 52)) _ x (hkp.trans ((Kp.refl _ _).alloc (Nat.le_of_lt hw.out.lt) (.cells #[.int .i64 x.kd, .int .i64 x.nm, x.vals.val, x.frames.val] 52))) (hw.out.alloc (.cells #[.int .i64 x.kd, .int .i64 x.nm, x.vals.val, x.frames.val] 52)) (fun W'' h => hok W'' (((Kp.refl _ _).alloc (Nat.le_of_lt hw.out.lt) (.cells #[.int .i64 x.kd, .int .i64 x.nm, x.vals.val, x.frames.val] 52)).trans h)) (by have := HL.out; rw [List.length_append, List.length_cons]; omega)
      have hk2 : ∀ W'', Kp wp (wr.alloc (.cells #[.int .i64 x.kd, .int .i64 x.nm, x.vals.val, x.frames.val] 52)) W'' → Kp wp W W'' := fun W'' h => hkp.trans (((Kp.refl _ _).alloc (Nat.le_of_lt hw.out.lt) (.cells #[.int .i64 x.kd, .int .i64 x.nm, x.vals.val, x.frames.val] 52)).trans h)
      have HCL := Lib.hid hcall; have HS := Lib.hid hstep; have HK2 := Lib.hid hk2
      clear hcall hstep hbd hok hk2
      go_wp2_with fail
      refine HCL.out.mono ?_
      rintro _ W2 ⟨rfl, hw2, hkp2⟩
      go_wp2_with fail
      go_roundw
      case rel => exact ⟨k + 1, by omega, by go_num, Lib.hid (by rw [HS.out, ← List.cons_append, ← List.append_assoc]; exact hw2), HK2.out _ hkp2⟩
      case measure => simp [intOf]; omega
    · obtain rfl : k = sl.length := by omega
      have hw' := hw.out
      rw [List.take_length] at hw'
      clear hw
      go_wp2_with fail
      go_end0
      exact ⟨rfl, hw', hkp⟩

set_option maxRecDepth 100000 in
set_option maxHeartbeats 1000000 in
theorem many_Th {wp : Nat} {W : World} {L : List Int} {s : Sv Th} {f : FuncId} {rc : Value} (hW : WrI wp W L) (hR : ∀ W', Kp wp W W' → RdTh W' s) (h1 : OneV wp W f (fun v => #[rc, v]) Th.val Th.ok (fun x => ThC.e x.c)) (hl : L.length + (encL (fun x => ThC.e x.c) s.l).length ≤ 50000000) :
    Calls Try.prog 20 #[.pointer (some ⟨wp, 0, none⟩), s.val, .func (.func f) #[rc] #[]] W fun r W' => r = .returned (.tuple #[]) ∧ WrI wp W' (L ++ encL (fun x => ThC.e x.c) s.l) ∧ Kp wp W W' := by
  obtain ⟨sp, scap, sl⟩ := s
  change L.length + (encL (fun x => ThC.e x.c) sl).length ≤ _ at hl
  have hm : sl.length ≤ 9223372036854775807 := by have h := hR W (Kp.refl _ _); exact Nat.le_trans h.row.le h.row.big
  have hent := h1.ent
  have hal : WrI wp (W.alloc (.cells #[.int .i64 sl.length] 3)) L := hW.alloc _
  have hlit := lit_sl W [(sl.length : Int)] (by simp) #[.int .i64 sl.length] rfl _ rfl 1 rfl
  have hlL : L.length + 1 + (sl.flatMap (fun x => ThC.e x.c)).length ≤ 50000000 := by unfold encL at hl; rw [List.length_cons] at hl; omega
  have hput := put_any hal hlit rfl (by simp; omega)
  have hK0 : Kp wp W (W.alloc (.cells #[.int .i64 sl.length] 3)) := (Kp.refl _ _).alloc (Nat.le_of_lt hW.lt) _
  dsimp only [Sv.val] at *
  have HP := Lib.hid hput; have HC := Lib.hid h1.call; have HR := Lib.hid hR; have HL := Lib.hid hlL
  clear hput hR hl hal hlit hlL
  go_enter Try.func20, Try.ntmps20
  go_wp2_with fail
  refine HP.out.mono ?_
  rintro _ W1 ⟨rfl, hw1, hk1⟩
  replace hk1 := hK0.trans hk1
  go_wp2_with fail
  go_loopw [15] (fun s15 wr => ∃ k : Nat, k ≤ sl.length ∧ s15 = .int .i64 k ∧ Hid (WrI wp wr (L ++ ((sl.length : Int) :: (sl.take k).flatMap (fun x => ThC.e x.c)))) ∧ Kp wp W wr) (fun s15 _ => sl.length - (intOf s15).toNat)
  case atStart => exact ⟨0, Nat.zero_le _, rfl, Lib.hid (by simpa using hw1), hk1⟩
  case round =>
    clear hw1 hk1 HP
    obtain ⟨k, hk, rfl, hw, hkp⟩ := hrel
    by_cases hlt : k < sl.length
    · obtain ⟨b, off, hp, hb, hc⟩ := (HR.out wr hkp).at_ (fun _ => rfl) (by omega) hlt default
      have hx : sl.getD k default ∈ sl := by simp [hlt]
      have hok : ∀ W'', Kp wp wr W'' → Th.ok W'' (sl.getD k default) := fun W'' h => (HR.out W'' (hkp.trans h)).each _ hx
      have hstep := fm_step (fun x => ThC.e x.c) default hlt
      have hbd := fm_take (fun x => ThC.e x.c) sl (k + 1)
      generalize sl.getD k default = x at *
      rw [hstep, List.length_append] at hbd
      have c0 : wr.cell? ⟨b, off + k * 5, none⟩ = some (x.frames.val) := hc 0 _ rfl
      have c1 : wr.cell? ⟨b, off + k * 5 + 1, none⟩ = some (.int .i64 x.st) := hc 1 _ rfl
      have c2 : wr.cell? ⟨b, off + k * 5 + 2, none⟩ = some (.int .i64 x.on) := hc 2 _ rfl
      have c3 : wr.cell? ⟨b, off + k * 5 + 3, none⟩ = some (.int .i64 x.vk) := hc 3 _ rfl
      have c4 : wr.cell? ⟨b, off + k * 5 + 4, none⟩ = some (.int .i64 x.vn) := hc 4 _ rfl
      clear hc
      dsimp only at hp
      subst hp
      have hcall := HC.out (wr.alloc (.cells #[x.frames.val, .int .i64 x.st, .int .i64 x.on, .int .i64 x.vk, .int .i64 x.vn] 65)) _ x (hkp.trans ((Kp.refl _ _).alloc (Nat.le_of_lt hw.out.lt) (.cells #[x.frames.val, .int .i64 x.st, .int .i64 x.on, .int .i64 x.vk, .int .i64 x.vn] 65))) (hw.out.alloc (.cells #[x.frames.val, .int .i64 x.st, .int .i64 x.on, .int .i64 x.vk, .int .i64 x.vn] 65)) (fun W'' h => hok W'' (((Kp.refl _ _).alloc (Nat.le_of_lt hw.out.lt) (.cells #[x.frames.val, .int .i64 x.st, .int .i64 x.on, .int .i64 x.vk, .int .i64 x.vn] 65)).trans h)) (by have := HL.out; rw [List.length_append, List.length_cons]; omega)
      have hk2 : ∀ W'', Kp wp (wr.alloc (.cells #[x.frames.val, .int .i64 x.st, .int .i64 x.on, .int .i64 x.vk, .int .i64 x.vn] 65)) W'' → Kp wp W W'' := fun W'' h => hkp.trans (((Kp.refl _ _).alloc (Nat.le_of_lt hw.out.lt) (.cells #[x.frames.val, .int .i64 x.st, .int .i64 x.on, .int .i64 x.vk, .int .i64 x.vn] 65)).trans h)
      have HCL := Lib.hid hcall; have HS := Lib.hid hstep; have HK2 := Lib.hid hk2
      clear hcall hstep hbd hok hk2
      go_wp2_with fail
      refine HCL.out.mono ?_
      rintro _ W2 ⟨rfl, hw2, hkp2⟩
      go_wp2_with fail
      go_roundw
      case rel => exact ⟨k + 1, by omega, by go_num, Lib.hid (by rw [HS.out, ← List.cons_append, ← List.append_assoc]; exact hw2), HK2.out _ hkp2⟩
      case measure => simp [intOf]; omega
    · obtain rfl : k = sl.length := by omega
      have hw' := hw.out
      rw [List.take_length] at hw'
      clear hw
      go_wp2_with fail
      go_end0
      exact ⟨rfl, hw', hkp⟩

end Go.Proofs.Ythdleldnjoamlaa
