/-
  Ri, Rz, Er, Ph, Rs, Du, Sf, in one.
-/
import Derived.Test.YtngklbnodknadaaGreatDoorMal
import Derived.Test.YtngklbnodknadaaGreatDoorMao
import Derived.Test.YtngklbnodknadaaGreatDoorMan
section
namespace Go.Proofs.YtngklbnodknadaaGreatDoor
open Go.RowKit

def riZ (a : List UInt8) (nd : Nat) : Nat → Int
  | 0 => 0
  | i + 1 => if i < nd then IntKind.u64.wrap (IntKind.u64.wrap (riZ a nd i * 10) + IntKind.u64.wrap (IntKind.u8.wrap (((a.getD i 0).toNat : Int) - 48))) else IntKind.u64.wrap (riZ a nd i * 10)
theorem riZ_in {a : List UInt8} {nd i : Nat} (h : i < nd) : riZ a nd (i + 1) = IntKind.u64.wrap (IntKind.u64.wrap (riZ a nd i * 10) + IntKind.u64.wrap (IntKind.u8.wrap (((a.getD i 0).toNat : Int) - 48))) := by rw [riZ, if_pos h]
theorem riZ_out {a : List UInt8} {nd i : Nat} (h : nd ≤ i) : riZ a nd (i + 1) = IntKind.u64.wrap (riZ a nd i * 10) := by rw [riZ, if_neg (by omega)]
def riM (a : List UInt8) (nd : Nat) (dp : Int) (tr : Bool) : Int := if 20 < dp then 18446744073709551615 else if upM a nd tr dp = true then IntKind.u64.wrap (riZ a nd dp.toNat + 1) else riZ a nd dp.toNat
theorem ri_fn (a : List UInt8) (nd : Nat) (dp : Int) (ng tr : Bool) (ha : a.length = 800) (hn : nd ≤ 800) (r : Int) (hr : riM a nd dp tr = r) : FnO Tryz.prog 126 [.ref 1000 0] [(1000, decO a nd dp ng tr)] (.d (.v (.int .u64 r))) [(1000, decO a nd dp ng tr)] := by
  unfold riM at hr
  by_cases h1 : 20 < dp
  · rw [if_pos h1] at hr
    subst hr
    refine FnO.of1 (n := 56) [] fax_ok Tryz.func126 rfl rfl rfl (by rfl) (by rfl) (by kernel_rfl) fun Γ hA hbA hbO => ?_
    (repeat ((conv => whnf); (first | refine exR ?_ | refine tT ?_ | refine lL ?_)))
    exact ⟨eN, rS, fiO⟩
  rw [if_neg h1] at hr
  have hup := up_fn a nd dp ng tr dp ha hn _ rfl
  generalize upM a nd tr dp = r0 at hup hr
  refine FnO.of1 (n := 56) [] fax_ok Tryz.func126 rfl rfl rfl (by rfl) (by rfl) (by kernel_rfl) fun Γ hA hbA hbO => ?_
  (repeat ((conv => whnf); (first | refine exR ?_ | refine tF ?_ | refine lL ?_)))
  refine ev_loop [] fax_ok hA (by kernel_rfl) (fun i : Nat => i ≤ dp.toNat ∧ i ≤ nd) (fun i => [(0, .ref 1000 0), (3, intT i), (4, .d (.v (.int .u64 (riZ a nd i))))]) (fun _ => [(1000, decO a nd dp ng tr)]) (fun i => dp.toNat - i) 0 ⟨Nat.zero_le _, Nat.zero_le _⟩ fiE fiO ?_
  rintro i ⟨hi1, hi2⟩ - hbO2
  by_cases h2 : (i : Int) < dp
  · by_cases h3 : i < nd
    · have e := riZ_in (a := a) h3
      have hg := dec_get (a := a) (i := i) (by omega)
      generalize a.getD i 0 = b at e hg
      (repeat ((conv => whnf); (first | refine exR ?_ | refine tT ?_ | refine lL ?_ | refine exA _ rfl (by omega) ?_)))
      refine xB8 b hg ?_
      (repeat ((conv => whnf); (first | with_reducible refine exE _ (w_inc (by omega)) ?_ | refine exR ?_)))
      exact ⟨i + 1, ⟨by omega, by omega⟩, by omega, (by rw [e]; exact fiE), fiO⟩
    · skip
      (repeat ((conv => whnf); (first | refine exR ?_ | refine tT ?_ | refine tF ?_ | refine lL ?_)))
      refine ev_loop [] fax_ok hA (by kernel_rfl) (fun j : Nat => i ≤ j ∧ j ≤ dp.toNat ∧ (j < dp.toNat → nd ≤ j)) (fun j => [(0, .ref 1000 0), (3, intT j), (4, .d (.v (.int .u64 (riZ a nd j))))]) (fun _ => [(1000, decO a nd dp ng tr)]) (fun j => dp.toNat - j) i ⟨Nat.le_refl _, hi1, by omega⟩ fiE fiO ?_
      rintro j ⟨hj1, hj2, hj3⟩ - hbO3
      by_cases hj : (j : Int) < dp
      · have e := riZ_out (a := a) (i := j) (hj3 (by omega))
        (repeat ((conv => whnf); (first | with_reducible refine exE _ (w_inc (by omega)) ?_ | refine exR ?_ | refine tT ?_ | refine lL ?_)))
        exact ⟨j + 1, ⟨by omega, by omega, by omega⟩, by omega, (by rw [e]; exact fiE), fiO⟩
      · obtain rfl : j = dp.toNat := by omega
        cases r0 with
        | true =>
          rw [if_pos rfl] at hr
          subst hr
          (repeat ((conv => whnf); (first | refine exR ?_ | refine gO [(1000, 1000)] (enters_of Tryz.func132 rfl rfl) hup ?_ | refine tT ?_ | refine tF ?_ | refine lL ?_)))
          exact ⟨eN, rS, fiO⟩
        | false =>
          rw [if_neg (by decide)] at hr
          subst hr
          (repeat ((conv => whnf); (first | refine exR ?_ | refine gO [(1000, 1000)] (enters_of Tryz.func132 rfl rfl) hup ?_ | refine tF ?_ | refine lL ?_)))
          exact ⟨eN, rS, fiO⟩
  · skip
    (repeat ((conv => whnf); (first | refine exR ?_ | refine tF ?_ | refine lL ?_)))
    refine ev_loop [] fax_ok hA (by kernel_rfl) (fun j : Nat => i ≤ j ∧ j ≤ dp.toNat ∧ (j < dp.toNat → nd ≤ j)) (fun j => [(0, .ref 1000 0), (3, intT j), (4, .d (.v (.int .u64 (riZ a nd j))))]) (fun _ => [(1000, decO a nd dp ng tr)]) (fun j => dp.toNat - j) i ⟨Nat.le_refl _, hi1, by omega⟩ fiE fiO ?_
    rintro j ⟨hj1, hj2, hj3⟩ - hbO3
    by_cases hj : (j : Int) < dp
    · have e := riZ_out (a := a) (i := j) (hj3 (by omega))
      (repeat ((conv => whnf); (first | with_reducible refine exE _ (w_inc (by omega)) ?_ | refine exR ?_ | refine tT ?_ | refine lL ?_)))
      exact ⟨j + 1, ⟨by omega, by omega, by omega⟩, by omega, (by rw [e]; exact fiE), fiO⟩
    · obtain rfl : j = dp.toNat := by omega
      cases r0 with
      | true =>
        rw [if_pos rfl] at hr
        subst hr
        (repeat ((conv => whnf); (first | refine exR ?_ | refine gO [(1000, 1000)] (enters_of Tryz.func132 rfl rfl) hup ?_ | refine tT ?_ | refine tF ?_ | refine lL ?_)))
        exact ⟨eN, rS, fiO⟩
      | false =>
        rw [if_neg (by decide)] at hr
        subst hr
        (repeat ((conv => whnf); (first | refine exR ?_ | refine gO [(1000, 1000)] (enters_of Tryz.func132 rfl rfl) hup ?_ | refine tF ?_ | refine lL ?_)))
        exact ⟨eN, rS, fiO⟩
end Go.Proofs.YtngklbnodknadaaGreatDoor
end

section
namespace Go.Proofs.YtngklbnodknadaaGreatDoor
open Go.RowKit

theorem fd_nat {n k : Nat} (h : k ≤ 60) : ((n : Nat) : Int).fdiv (2 ^ min ((k : Nat) : Int).toNat IntKind.u64.bits) = ((n / 2 ^ k : Nat) : Int) := by
  rw [min64 h, Int.fdiv_eq_ediv_of_nonneg _ (Int.pow_nonneg (by decide))]
  simp
theorem mask_nat {k : Nat} (h : k ≤ 60) : IntKind.u64.wrap (1 * 2 ^ min ((k : Nat) : Int).toNat IntKind.u64.bits) = ((2 ^ k : Nat) : Int) := by
  rw [min64 h]
  have : 2 ^ k ≤ 2 ^ 60 := Nat.pow_le_pow_right (by decide) h
  exact u_nat (by simp) (by omega)
theorem mask1_nat {k : Nat} (h : k ≤ 60) : IntKind.u64.wrap (((2 ^ k : Nat) : Int) - 1) = ((2 ^ k - 1 : Nat) : Int) := by
  have : 2 ^ k ≤ 2 ^ 60 := Nat.pow_le_pow_right (by decide) h
  have : 0 < 2 ^ k := Nat.pow_pos (by decide)
  exact u_nat (by omega) (by omega)
theorem and_mod {n k : Nat} (hn : n < 18446744073709551616) (h : k ≤ 60) : IntKind.u64.wrap ((BitVec.ofInt IntKind.u64.bits ((n : Nat) : Int) &&& BitVec.ofInt IntKind.u64.bits ((2 ^ k - 1 : Nat) : Int)).toNat : Int) = ((n % 2 ^ k : Nat) : Int) := by
  have hp : 2 ^ k ≤ 2 ^ 60 := Nat.pow_le_pow_right (by decide) h
  have h1 : n % 2 ^ k ≤ n := Nat.mod_le _ _
  have e : (BitVec.ofInt IntKind.u64.bits ((n : Nat) : Int) &&& BitVec.ofInt IntKind.u64.bits ((2 ^ k - 1 : Nat) : Int)).toNat = n % 2 ^ k := by
    show (BitVec.ofInt 64 ((n : Nat) : Int) &&& BitVec.ofInt 64 ((2 ^ k - 1 : Nat) : Int)).toNat = _
    rw [BitVec.toNat_and, BitVec.ofInt_natCast, BitVec.ofInt_natCast, BitVec.toNat_ofNat, BitVec.toNat_ofNat, Nat.mod_eq_of_lt (by omega), Nat.mod_eq_of_lt (by omega), Nat.and_two_pow_sub_one_eq_mod]
  rw [e]
  exact u_nat rfl (by omega)
/-- A digit taken in: n * 10 + c - '0'. -/
theorem take_nat {n : Nat} {b : UInt8} (hb : isDg b) (hn : n < 1152921504606846976) : IntKind.u64.wrap ((n : Int) * 10) = ((n * 10 : Nat) : Int) ∧ IntKind.u64.wrap (((n * 10 : Nat) : Int) + (b.toNat : Int)) = ((n * 10 + b.toNat : Nat) : Int) ∧ IntKind.u64.wrap (((n * 10 + b.toNat : Nat) : Int) - 48) = ((n * 10 + dig b : Nat) : Int) ∧ IntKind.u64.wrap (b.toNat : Int) = (b.toNat : Int) := by
  have hdg : b.toNat = dig b + 48 ∧ dig b ≤ 9 := by unfold isDg at hb; unfold dig; omega
  exact ⟨u_nat (by omega) (by omega), u_nat (by omega) (by omega), u_nat (by omega) (by omega), u_in (by omega) (by omega)⟩
end Go.Proofs.YtngklbnodknadaaGreatDoor
end

section
namespace Go.Proofs.YtngklbnodknadaaGreatDoor
open Go.RowKit

section
variable {P : Program} {o : Oper} {σ : Nat → T}
theorem t_mki {x : Operand} {t : TypeId} {u : TypeDesc} {y : Value} (ho : o.op = .makeInterface t x) (hx : opT σ x = .d (.v y)) (hu : P.underlying t = some u) (hi : (∀ ms, u ≠ .interface ms)) : Tri P o σ [] (.d (.v (.iface t y))) [] :=
  .val fun _ g _ a w hr _ _ => ⟨.iface t y, by
    have e1 := hr x (by rw [ho]; simp [Op.operands])
    rw [hx] at e1
    unfold execOp; rw [ho]
    simp only [inv_v e1]
    have h2 : (Instr.makeInterface t y).run P w = .ok (.iface t y) w := by
      unfold Instr.makeInterface
      rw [Sem.run_bind, run_underlying hu]
      cases u <;> first | exact absurd rfl (hi _) | rfl
    rw [Sem.run_bind, h2]; rfl, rep_v rfl⟩
theorem b_neq_err (t u : TypeId) (x : Value) (h : P.underlying t = some (.interface (P.methodsAt t))) : BinR P .neq t (.iface u x) .nilIface (.bool true) := fun _ _ w => by
  have := run_neq_held_nil (P := P) (w := w) t u x h
  simpa [eqGuard] using this
/-- An error that is not nil. -/
def isErr : Value → Bool
  | .iface _ _ => true
  | _ => false
theorem t_neq_nil {t u : TypeId} {x : Operand} (ho : o.op = .binOp .neq t x (.const .nilIface) u) (hx : opT σ x = .d (.v .nilIface)) (h : P.underlying t = some (.interface (P.methodsAt t))) : Tri P o σ [] (boolT false) [] :=
  .val fun _ g _ ac w hrp _ _ => ⟨.bool false, by
    have e1 := hrp x (by rw [ho]; simp [Op.operands])
    rw [hx] at e1
    have e2 : ac.eval (.const .nilIface) = .nilIface := rfl
    have h2 : (do eqGuard .neq t x (.const .nilIface) .nilIface .nilIface; binOp .neq t .nilIface .nilIface : Sem Value).run P w = .ok (.bool false) w := by
      rw [eqGuard_nil_constR]
      simpa using run_neq_nil_nil (P := P) (w := w) t h
    unfold execOp; rw [ho]
    simp only [inv_v e1, e2]
    simp only [Sem.run_bind] at h2 ⊢
    rw [h2]; rfl, rep_v rfl⟩
theorem t_neq_pr {t u : TypeId} {x : Operand} (ho : o.op = .binOp .neq t x (.const .nilIface) u) (hx : opT σ x = .pr isErr) (h : P.underlying t = some (.interface (P.methodsAt t))) : Tri P o σ [] (boolT true) [] :=
  .val fun _ g _ ac w hrp _ _ => ⟨.bool true, by
    have e1 := hrp x (by rw [ho]; simp [Op.operands])
    rw [hx] at e1
    obtain ⟨te, pe, e2⟩ : ∃ te pe, ac.eval x = .iface te pe := by
      cases e1 with
      | pr h1 h2 =>
        generalize ac.eval x = y at h2
        cases y <;> first | exact ⟨_, _, rfl⟩ | cases h2
    have e3 : ac.eval (.const .nilIface) = .nilIface := rfl
    have h2 := b_neq_err t te pe h x (.const .nilIface) w
    unfold execOp; rw [ho]
    simp only [e2, e3]
    simp only [Sem.run_bind] at h2 ⊢
    rw [h2]; rfl, rep_v rfl⟩
end
theorem un_err : Tryz.prog.underlying 106 = some (.int .i64) := by kernel_rfl
/-- What a function that may fail hands back beside its value: nothing, or one of the flat errors. -/
def erV (e : Bool) : Value := match e with | true => .iface 106 (.int .i64 1) | false => .nilIface
abbrev erT (e : Bool) : T := .d (.v (erV e))
abbrev f64T (n : Nat) : T := .d (.v (.float .f64 n))
theorem t_frombits {o : Oper} {σ : Nat → T} {x : Operand} {m : Int} {ts : Array TypeId} (ho : o.op = .call { callee := .value (.func 101), args := #[x], argTypes := ts }) (hx : opT σ x = .d (.v (.int .u64 m))) : Tri Tryz.prog o σ [] (f64T m.toNat) [] :=
  t_ext ho (Tryz.func101) rfl rfl rfl rfl hx (fun _ => rfl) rfl
def len8T : List UInt8 := [0,1,2,2,3,3,3,3,4,4,4,4,4,4,4,4,5,5,5,5,5,5,5,5,5,5,5,5,5,5,5,5,6,6,6,6,6,6,6,6,6,6,6,6,6,6,6,6,6,6,6,6,6,6,6,6,6,6,6,6,6,6,6,6,7,7,7,7,7,7,7,7,7,7,7,7,7,7,7,7,7,7,7,7,7,7,7,7,7,7,7,7,7,7,7,7,7,7,7,7,7,7,7,7,7,7,7,7,7,7,7,7,7,7,7,7,7,7,7,7,7,7,7,7,7,7,7,7,8,8,8,8,8,8,8,8,8,8,8,8,8,8,8,8,8,8,8,8,8,8,8,8,8,8,8,8,8,8,8,8,8,8,8,8,8,8,8,8,8,8,8,8,8,8,8,8,8,8,8,8,8,8,8,8,8,8,8,8,8,8,8,8,8,8,8,8,8,8,8,8,8,8,8,8,8,8,8,8,8,8,8,8,8,8,8,8,8,8,8,8,8,8,8,8,8,8,8,8,8,8,8,8,8,8,8,8,8,8,8,8,8,8,8,8,8,8,8,8,8,8,8,8,8,8,8,8]
theorem len8T_get : ∀ j : Fin 256, (len8T.getD j.1 0).toNat ≤ 8 := by decide +kernel
theorem len8_ex {j : Nat} (h : j < 256) : ∃ b : UInt8, len8T[j]? = some b ∧ b.toNat ≤ 8 := by
  have h2 := len8T_get ⟨j, h⟩
  have hl : len8T.length = 256 := by decide +kernel
  refine ⟨len8T.getD j 0, ?_, h2⟩
  rw [List.getD_eq_getElem?_getD, List.getElem?_eq_getElem (by omega)]; rfl
end Go.Proofs.YtngklbnodknadaaGreatDoor
end

section
namespace Go.Proofs.YtngklbnodknadaaGreatDoor
open Go.RowKit

theorem b2u_fn (c : Bool) : FnD Tryz.prog 100 [boolT c] (.d (.v (.int .u64 (if c then 1 else 0)))) := by
  cases c with
  | true =>
    refine FnD.of1 (n := 4) [] fax_ok Tryz.func100 rfl rfl rfl (by rfl) (by kernel_rfl) (by intro _; rfl) fun Γ hA hbA => ?_
    (repeat ((conv => whnf); refine tT ?_))
    exact ⟨eN, rS, fiO⟩
  | false =>
    refine FnD.of1 (n := 4) [] fax_ok Tryz.func100 rfl rfl rfl (by rfl) (by kernel_rfl) (by intro _; rfl) fun Γ hA hbA => ?_
    (repeat ((conv => whnf); refine tF ?_))
    exact ⟨eN, rS, fiO⟩
theorem b2i_fn (c : Bool) : FnD Tryz.prog 121 [boolT c] (intT (if c then 1 else 0)) := by
  cases c with
  | true =>
    refine FnD.of1 (n := 4) [] fax_ok Tryz.func121 rfl rfl rfl (by rfl) (by kernel_rfl) (by intro _; rfl) fun Γ hA hbA => ?_
    (repeat ((conv => whnf); refine tT ?_))
    exact ⟨eN, rS, fiO⟩
  | false =>
    refine FnD.of1 (n := 4) [] fax_ok Tryz.func121 rfl rfl rfl (by rfl) (by kernel_rfl) (by intro _; rfl) fun Γ hA hbA => ?_
    (repeat ((conv => whnf); refine tF ?_))
    exact ⟨eN, rS, fiO⟩
theorem l2p_ex (p : Int) : ∃ l : Int, FnD Tryz.prog 118 [intT p] (intT l) := by
  refine ⟨(IntKind.i64.wrap (p * 108853)).fdiv (2 ^ min (15 : Int).toNat IntKind.i64.bits), ?_⟩
  have h : (0 : Int) ≤ 15 := by decide
  refine FnD.of1 (n := 6) [] fax_ok Tryz.func118 rfl rfl rfl (by rfl) (by kernel_rfl) (by intro _; rfl) fun Γ hA hbA => ?_
  (repeat ((conv => whnf); (first | refine exR ?_ | refine zQ ?_)))
  exact ⟨eN, rS, fiO⟩
theorem unmin_ex (x : Int) : ∃ u : Int, FnD Tryz.prog 122 [.d (.v (.int .u64 x))] (.d (.v (.int .u64 u))) := by
  refine ⟨IntKind.u64.wrap (IntKind.u64.wrap (x * 2 ^ min (2 : Int).toNat IntKind.u64.bits) - 2), ?_⟩
  refine FnD.of1 (n := 6) [] fax_ok Tryz.func122 rfl rfl rfl (by rfl) (by kernel_rfl) (by intro _; rfl) fun Γ hA hbA => ?_
  (repeat ((conv => whnf); (first | refine exR ?_ | refine zQ ?_)))
  exact ⟨eN, rS, fiO⟩
theorem round_ex (x : Int) : ∃ u : Int, FnD Tryz.prog 124 [.d (.v (.int .u64 x))] (.d (.v (.int .u64 u))) := by
  refine ⟨(IntKind.u64.wrap (IntKind.u64.wrap (x + 1) + IntKind.u64.wrap (BitVec.ofInt IntKind.u64.bits (x.fdiv (2 ^ min (2 : Int).toNat IntKind.u64.bits)) &&& BitVec.ofInt IntKind.u64.bits 1).toNat)).fdiv (2 ^ min (2 : Int).toNat IntKind.u64.bits), ?_⟩
  refine FnD.of1 (n := 10) [] fax_ok Tryz.func124 rfl rfl rfl (by rfl) (by kernel_rfl) (by intro _; rfl) fun Γ hA hbA => ?_
  (repeat ((conv => whnf); (first | refine exR ?_ | refine zQ ?_)))
  exact ⟨eN, rS, fiO⟩
set_option maxHeartbeats 1000000 in
theorem mul_ex (x y : Int) : ∃ h l : Int, FnD Tryz.prog 129 [.d (.v (.int .u64 x)), .d (.v (.int .u64 y))] (.tup [.d (.v (.int .u64 h)), .d (.v (.int .u64 l))]) := by
  exact ⟨_, _, by
    refine FnD.ofT (n := 51) [] fax_ok Tryz.func129 rfl rfl rfl (by rfl) (by kernel_rfl) (by intro _; rfl) fun Γ hA hbA => ?_
    (repeat ((conv => whnf); (first | refine exR ?_ | refine zQ ?_)))
    exact ⟨eN, rS, fiO⟩
    ⟩
end Go.Proofs.YtngklbnodknadaaGreatDoor
end

section
namespace Go.Proofs.YtngklbnodknadaaGreatDoor
open Go.RowKit

theorem set_app {out a : List UInt8} {c : UInt8} (h : out.length < a.length) : (out ++ a.drop out.length).set out.length c = (out ++ [c]) ++ a.drop (out ++ [c]).length := by
  rw [List.set_append_right _ _ (Nat.le_refl _), Nat.sub_self, List.drop_eq_getElem_cons h, List.set_cons_zero]
  simp
theorem get_app {out a : List UInt8} {p : Nat} (h : out.length ≤ p) : (out ++ a.drop out.length)[p]? = a[p]? := by
  rw [List.getElem?_append_right h, List.getElem?_drop]
  congr 1
  omega
set_option maxHeartbeats 8000000 in
set_option maxRecDepth 100000 in
theorem right_fn (a : List UInt8) (nd : Nat) (dp : Int) (ng tr : Bool) (k : Nat) (hok : (Dc.mk a nd dp ng tr).Ok) (hn : 1 ≤ nd) (h1 : 1 ≤ k) (h2 : k ≤ 60) (hd0 : -1000000 ≤ dp) (hd1 : dp ≤ 1000000) (a' : List UInt8) (nd' : Nat) (dp' : Int) (tr' : Bool) (hr : rightD ⟨a, nd, dp, ng, tr⟩ k = ⟨a', nd', dp', ng, tr'⟩) :
    FnO Tryz.prog 131 [.ref 1000 0, u64T k] [(1000, decO a nd dp ng tr)] (.tup []) [(1000, decO a' nd' dp' ng tr')] := by
  have ha := hok.len
  have hnd := hok.nd
  have hdg := hok.dg
  obtain ⟨c0, l0, q1, q2, q3, q4⟩ := hok.cons hn
  obtain ⟨r1, r2, r3, r4, r5⟩ := right_r hok hn h2
  have hpos : ∀ r, 1 ≤ r → 0 < rsN (a.take nd) r := fun r h => by
    have := rsN_pos hdg q1 q4 (r - 1)
    rw [show r - 1 + 1 = r by omega] at this
    exact Nat.lt_of_lt_of_le (Nat.pow_pos (by decide)) this
  unfold Dc.ds at q1 r1 r2 r5
  dsimp only at ha hnd hdg r1 r2 r5
  unfold rightD rightB rightA Dc.ds trimD at hr
  dsimp only at hr
  generalize hR : rightR ⟨a, nd, dp, ng, tr⟩ k = R at *
  have hlen : (a.take nd).length = nd := by rw [List.length_take]; omega
  have h60 : 2 ^ k ≤ 2 ^ 60 := Nat.pow_le_pow_right (by decide) h2
  generalize hds : a.take nd = ds at *
  refine FnO.of0 (n := 130) [] fax_ok Tryz.func131 rfl rfl rfl (by rfl) (by rfl) (by kernel_rfl) fun Γ hA hbA hbO => ?_
  skip
  refine ev_loop [] fax_ok hA (by kernel_rfl) (fun r : Nat => r ≤ R) (fun r => [(0, .ref 1000 0), (1, u64T k), (4, intT r), (5, intT 0), (6, u64T (rsN ds r))]) (fun _ => [(1000, decO a nd dp ng tr)]) (fun r => R - r) 0 (Nat.zero_le _) (by rw [rsN_zero]; exact fiE) fiO ?_
  rintro r hr0 - hbO2
  have hr0 : r ≤ R := hr0
  have hf := fd_nat (n := rsN ds r) h2
  rcases Nat.lt_or_ge r R with h | h
  · have hlt := r5 r h
    have hQ : rsN ds r / 2 ^ k = 0 := Nat.div_eq_of_lt hlt
    by_cases hrn : r < nd
    · have hg := dec_get (a := a) (i := r) (by omega)
      have hdr : ds[r]'(by omega) = a.getD r 0 := by
        have : (a.take nd)[r]? = a[r]? := by rw [List.getElem?_take, if_pos hrn]
        rw [hds, hg, List.getElem?_eq_getElem (by omega)] at this
        exact Option.some.inj this
      have hin := rsN_in (ds := ds) (r := r) (by omega)
      rw [hdr] at hin
      have hbd : isDg (a.getD r 0) := by rw [← hdr]; exact hdg _ (List.getElem_mem _)
      obtain ⟨t1, t2, t3, t4⟩ := take_nat hbd (n := rsN ds r) (by omega)
      generalize a.getD r 0 = b at *
      generalize rsN ds r / 2 ^ k = Q at *
      generalize rsN ds r = N1 at *
      clear hok r1 r2 r5 hpos hr q1 hdr hbd hlt h60
      (repeat ((conv => whnf); (first | with_reducible refine exE (α := Int) _ (by assumption) ?_ | refine exR ?_ | refine tT ?_ | refine tF ?_ | refine lL ?_ | refine exA _ rfl (by omega) ?_ | refine zQ ?_)))
      refine xB8 b hg ?_
      (repeat ((conv => whnf); (first | with_reducible refine exE (α := Int) _ (by assumption) ?_ | with_reducible refine exE _ (w_inc (by omega)) ?_)))
      exact ⟨r + 1, by omega, by omega, (by rw [hin]; exact fiE), fiO⟩
    · have hne := hpos r (by omega)
      have hQ0 : ((rsN ds r : Nat) : Int) ≠ 0 := by omega
      (repeat ((conv => whnf); (first | with_reducible refine exE (α := Int) _ (by assumption) ?_ | refine exR ?_ | refine tT ?_ | refine tF ?_ | refine lL ?_ | refine zQ ?_)))
      refine ev_loop [] fax_ok hA (by kernel_rfl) (fun p : Nat => r ≤ p ∧ p ≤ R) (fun p => [(0, .ref 1000 0), (1, u64T k), (4, intT p), (5, intT 0), (6, u64T (rsN ds p))]) (fun _ => [(1000, decO a nd dp ng tr)]) (fun p => R - p) r ⟨Nat.le_refl _, hr0⟩ fiE fiO ?_
      rintro p ⟨hp1, hp2⟩ - hbO3
      have hf := fd_nat (n := rsN ds p) h2
      rcases Nat.lt_or_ge p R with hp | hp
      · have hltp := r5 p hp
        have hQp : rsN ds p / 2 ^ k = 0 := Nat.div_eq_of_lt hltp
        have hout := rsN_out (ds := ds) (r := p) (by omega)
        have hmul : IntKind.u64.wrap (((rsN ds p : Nat) : Int) * 10) = ((rsN ds p * 10 : Nat) : Int) := u_nat (by omega) (by omega)
        generalize rsN ds p / 2 ^ k = Q at *
        generalize rsN ds p = N1 at *
        clear hok r1 r2 r5 hpos hr q1 h60
        (repeat ((conv => whnf); (first | with_reducible refine exE (α := Int) _ (by assumption) ?_ | with_reducible refine exE _ (w_inc (by omega)) ?_ | refine exR ?_ | refine tT ?_ | refine zQ ?_)))
        exact ⟨p + 1, by omega, by omega, (by rw [hout]; exact fiE), fiO⟩
      · obtain rfl : p = R := by omega
        clear hf
        have hm1 := mask_nat h2
        have hm2 := mask1_nat h2
        have w0 : IntKind.i64.wrap ((p : Int) - 1) = (p : Int) - 1 := wrap_in (by omega) (by omega)
        have w1 : IntKind.i64.wrap (dp - ((p : Int) - 1)) = dp - ((p : Int) - 1) := wrap_in (by omega) (by omega)
        have hf := fd_nat (n := rsN ds p) h2
        have hQ1 : 0 < rsN ds p / 2 ^ k := Nat.div_pos r1 (Nat.pow_pos (by decide))
        generalize rsN ds p / 2 ^ k = Q at *
        (repeat ((conv => whnf); (first | with_reducible refine exE (α := Int) _ (by assumption) ?_ | refine exR ?_ | refine tF ?_ | refine lL ?_ | refine zQ ?_)))
        refine ev_loop [] fax_ok hA (by kernel_rfl) (fun s : Nat × List UInt8 => (p + s.2.length ≤ nd ∨ s.2 = []) ∧ s.1 < 10 * 2 ^ k ∧ rsA k (ds.drop (p + s.2.length)) s.1 s.2 = rsA k (ds.drop p) (rsN ds p) []) (fun s => [(0, .ref 1000 0), (1, u64T k), (4, intT (p + s.2.length : Nat)), (5, intT s.2.length), (6, u64T s.1), (8, u64T (2 ^ k - 1))]) (fun s => [(1000, decO (s.2 ++ a.drop s.2.length) nd (dp - ((p : Int) - 1)) ng tr)]) (fun s => nd - (p + s.2.length)) (rsN ds p, []) ⟨.inr rfl, r2, rfl⟩ fiE fiO ?_
        rintro ⟨n, out⟩ ⟨i1, i2, i3⟩ - hbO4
        dsimp only at i1 i2 i3 ⊢
        by_cases hp : p + out.length < nd
        · have hg := dec_get (a := a) (i := p + out.length) (by omega)
          have hdr : ds[p + out.length]'(by omega) = a.getD (p + out.length) 0 := by
            have : (a.take nd)[p + out.length]? = a[p + out.length]? := by rw [List.getElem?_take, if_pos hp]
            rw [hds, hg, List.getElem?_eq_getElem (by omega)] at this
            exact Option.some.inj this
          have hge := get_app (out := out) (a := a) (p := p + out.length) (by omega)
          rw [hg] at hge
          rw [List.drop_eq_getElem_cons (by omega), rsA, hdr] at i3
          have hbd : isDg (a.getD (p + out.length) 0) := by rw [← hdr]; exact hdg _ (List.getElem_mem _)
          have hmod : n % 2 ^ k < 2 ^ k := Nat.mod_lt _ (Nat.pow_pos (by decide))
          obtain ⟨t1, t2, t3, t4⟩ := take_nat hbd (n := n % 2 ^ k) (by omega)
          have hand := and_mod (n := n) (by omega) h2
          have hfn := fd_nat (n := n) h2
          obtain ⟨d1, d2⟩ := dg_ok (rs_dig i2)
          have hset := set_app (out := out) (a := a) (c := chr (n / 2 ^ k)) (by omega)
          have hnx := rs_next (k := k) (n := n) (dig_lt hbd)
          have hll : out.length < (out ++ a.drop out.length).length := by simp; omega
          generalize a.getD (p + out.length) 0 = b at *
          generalize n / 2 ^ k = Q1 at *
          generalize n % 2 ^ k = M at *
          clear hok r1 r2 r5 hpos hr q1 hdr hbd h60 hm1 hm2 hQ1 hmod w0 w1
          (repeat ((conv => whnf); (first | refine exR ?_ | refine tT ?_ | refine lL ?_ | refine exA _ rfl (by omega) ?_)))
          refine xB8 b hge ?_
          (repeat ((conv => whnf); (first | with_reducible refine exE (α := Int) _ (by assumption) ?_ | refine exA _ rfl (by omega) ?_ | refine zQ ?_)))
          refine xS8 (chr Q1) rfl hll ?_
          (repeat ((conv => whnf); (first | with_reducible refine exE (α := Int) _ (by assumption) ?_ | with_reducible refine exE _ (w_inc (by omega)) ?_)))
          exact ⟨(M * 10 + dig b, out ++ [chr Q1]), ⟨.inl (by simp; omega), hnx, by simpa [Nat.add_assoc] using i3⟩, by simp; omega, (by simp only [List.length_append, List.length_singleton, ← Nat.add_assoc]; exact fiE), (by dsimp only; rw [← hset]; exact fiO)⟩
        · have hnil : ds.drop (p + out.length) = [] := List.drop_of_length_le (by omega)
          rw [hnil, rsA] at i3
          rw [← i3] at hr
          dsimp only at hr
          have hol : out.length ≤ 800 := by rcases i1 with h | h
                                            · omega
                                            · subst h; simp
          clear i3 i1 hm1 hm2 hok r5 r1 r2 hpos q1 hQ1 hf
          (repeat ((conv => whnf); (first | refine exR ?_ | refine tF ?_ | refine lL ?_)))
          refine ev_loop [] fax_ok hA (by kernel_rfl) (fun s : Nat × Nat × List UInt8 × Bool => rsB k (k + 1 - s.1) s.2.1 s.2.2.1 s.2.2.2 = rsB k (k + 1) n out tr ∧ s.1 ≤ k + 1 ∧ (s.1 ≤ k ∧ 2 ^ s.1 ∣ s.2.1 ∨ s.2.1 = 0) ∧ s.2.1 < 10 * 2 ^ k ∧ s.2.2.1.length ≤ 800) (fun s => [(0, .ref 1000 0), (1, u64T k), (5, intT s.2.2.1.length), (6, u64T s.2.1), (8, u64T (2 ^ k - 1))]) (fun s => [(1000, decO (s.2.2.1 ++ a.drop s.2.2.1.length) nd (dp - ((p : Int) - 1)) ng s.2.2.2)]) (fun s => k + 1 - s.1) (0, n, out, tr) ⟨rfl, Nat.zero_le _, .inl ⟨Nat.zero_le _, ⟨n, by simp⟩⟩, i2, hol⟩ fiE fiO ?_
          rintro ⟨j, m, o2, t⟩ ⟨g1, g2, g3, g4, g5⟩ - hbO5
          dsimp only at g1 g2 g3 g4 g5 ⊢
          by_cases hm0 : m = 0
          · subst hm0
            have hB : rsB k (k + 1 - j) 0 o2 t = (o2, t) := by cases k + 1 - j <;> simp [rsB]
            rw [hB] at g1
            rw [← g1] at hr
            dsimp only at hr
            injection hr with e1 e2 e3 e4 e5
            subst e5
            have htr := trim_fn (o2 ++ a.drop o2.length) o2.length (dp - ((p : Int) - 1)) ng t (by simp; omega) g5
            rw [e2] at htr e3
            rw [e3, e1] at htr
            have hal : a'.length = 800 := by rw [← e1]; simp; omega
            rw [e1]
            (repeat ((conv => whnf); (first | refine exR ?_ | refine gO [(1000, 1000)] (enters_of Tryz.func138 rfl rfl) htr ?_ | refine tF ?_ | refine lL ?_)))
            exact ⟨eN, rS, fiO⟩
          · obtain ⟨hjk, hdv⟩ : j ≤ k ∧ 2 ^ j ∣ m := by rcases g3 with h | h
                                                        · exact h
                                                        · exact absurd h hm0
            rw [show k + 1 - j = (k - j) + 1 by omega, rsB, if_neg hm0] at g1
            have hnx := rs_next (k := k) (n := m) (c := 0) (by decide)
            have hdv2 : j + 1 ≤ k ∧ 2 ^ (j + 1) ∣ m % 2 ^ k * 10 ∨ m % 2 ^ k * 10 = 0 := by
              rcases Nat.lt_or_ge j k with h | h
              · exact .inl ⟨h, rs_two hdv h⟩
              · obtain rfl : j = k := by omega
                exact .inr (rs_end hdv)
            have hmod : m % 2 ^ k < 2 ^ k := Nat.mod_lt _ (Nat.pow_pos (by decide))
            have hand := and_mod (n := m) (by omega) h2
            have hfm := fd_nat (n := m) h2
            have hmul : IntKind.u64.wrap (((m % 2 ^ k : Nat) : Int) * 10) = ((m % 2 ^ k * 10 : Nat) : Int) := u_nat (by omega) (by omega)
            obtain ⟨d1, d2⟩ := dg_ok (rs_dig g4)
            have hset := set_app (out := o2) (a := a) (c := chr (m / 2 ^ k))
            have hll : o2.length < 800 → o2.length < (o2 ++ a.drop o2.length).length := fun h => by simp; omega
            generalize m / 2 ^ k = Q1 at *
            generalize m % 2 ^ k = M at *
            clear hr h60 hmod w0 w1 hdg hdv
            by_cases hl : o2.length < 800
            · rw [if_pos hl, if_pos hl] at g1
              have hset := hset (by omega)
              have hll := hll hl
              (repeat ((conv => whnf); (first | with_reducible refine exE (α := Int) _ (by assumption) ?_ | refine exR ?_ | refine tT ?_ | refine exA _ rfl (by omega) ?_ | refine zQ ?_)))
              refine xS8 (chr Q1) rfl hll ?_
              (repeat ((conv => whnf); (first | with_reducible refine exE (α := Int) _ (by assumption) ?_ | with_reducible refine exE _ (w_inc (by omega)) ?_)))
              exact ⟨(j + 1, M * 10, o2 ++ [chr Q1], t), ⟨by rw [show k + 1 - (j + 1) = k - j by omega]; exact g1, by omega, hdv2, hnx, by simp; omega⟩, by simp; omega, (by simp only [List.length_append, List.length_singleton]; exact fiE), (by dsimp only; rw [← hset]; exact fiO)⟩
            · rw [if_neg hl, if_neg hl] at g1
              by_cases hq : 0 < Q1
              · rw [decide_eq_true hq, Bool.or_true] at g1
                (repeat ((conv => whnf); (first | with_reducible refine exE (α := Int) _ (by assumption) ?_ | refine exR ?_ | refine tT ?_ | refine tF ?_ | refine lL ?_ | refine zQ ?_)))
                exact ⟨(j + 1, M * 10, o2, true), ⟨by rw [show k + 1 - (j + 1) = k - j by omega]; exact g1, by omega, hdv2, hnx, g5⟩, by simp; omega, fiE, fiO⟩
              · rw [decide_eq_false hq, Bool.or_false] at g1
                (repeat ((conv => whnf); (first | with_reducible refine exE (α := Int) _ (by assumption) ?_ | refine exR ?_ | refine tT ?_ | refine tF ?_ | refine zQ ?_)))
                exact ⟨(j + 1, M * 10, o2, t), ⟨by rw [show k + 1 - (j + 1) = k - j by omega]; exact g1, by omega, hdv2, hnx, g5⟩, by simp; omega, fiE, fiO⟩
  · obtain rfl : r = R := by omega
    clear hf
    have hm1 := mask_nat h2
    have hm2 := mask1_nat h2
    have w0 : IntKind.i64.wrap ((r : Int) - 1) = (r : Int) - 1 := wrap_in (by omega) (by omega)
    have w1 : IntKind.i64.wrap (dp - ((r : Int) - 1)) = dp - ((r : Int) - 1) := wrap_in (by omega) (by omega)
    have hf := fd_nat (n := rsN ds r) h2
    have hQ1 : 0 < rsN ds r / 2 ^ k := Nat.div_pos r1 (Nat.pow_pos (by decide))
    generalize rsN ds r / 2 ^ k = Q at *
    (repeat ((conv => whnf); (first | with_reducible refine exE (α := Int) _ (by assumption) ?_ | refine exR ?_ | refine tF ?_ | refine lL ?_ | refine zQ ?_)))
    refine ev_loop [] fax_ok hA (by kernel_rfl) (fun s : Nat × List UInt8 => (r + s.2.length ≤ nd ∨ s.2 = []) ∧ s.1 < 10 * 2 ^ k ∧ rsA k (ds.drop (r + s.2.length)) s.1 s.2 = rsA k (ds.drop r) (rsN ds r) []) (fun s => [(0, .ref 1000 0), (1, u64T k), (4, intT (r + s.2.length : Nat)), (5, intT s.2.length), (6, u64T s.1), (8, u64T (2 ^ k - 1))]) (fun s => [(1000, decO (s.2 ++ a.drop s.2.length) nd (dp - ((r : Int) - 1)) ng tr)]) (fun s => nd - (r + s.2.length)) (rsN ds r, []) ⟨.inr rfl, r2, rfl⟩ fiE fiO ?_
    rintro ⟨n, out⟩ ⟨i1, i2, i3⟩ - hbO4
    dsimp only at i1 i2 i3 ⊢
    by_cases hp : r + out.length < nd
    · have hg := dec_get (a := a) (i := r + out.length) (by omega)
      have hdr : ds[r + out.length]'(by omega) = a.getD (r + out.length) 0 := by
        have : (a.take nd)[r + out.length]? = a[r + out.length]? := by rw [List.getElem?_take, if_pos hp]
        rw [hds, hg, List.getElem?_eq_getElem (by omega)] at this
        exact Option.some.inj this
      have hge := get_app (out := out) (a := a) (p := r + out.length) (by omega)
      rw [hg] at hge
      rw [List.drop_eq_getElem_cons (by omega), rsA, hdr] at i3
      have hbd : isDg (a.getD (r + out.length) 0) := by rw [← hdr]; exact hdg _ (List.getElem_mem _)
      have hmod : n % 2 ^ k < 2 ^ k := Nat.mod_lt _ (Nat.pow_pos (by decide))
      obtain ⟨t1, t2, t3, t4⟩ := take_nat hbd (n := n % 2 ^ k) (by omega)
      have hand := and_mod (n := n) (by omega) h2
      have hfn := fd_nat (n := n) h2
      obtain ⟨d1, d2⟩ := dg_ok (rs_dig i2)
      have hset := set_app (out := out) (a := a) (c := chr (n / 2 ^ k)) (by omega)
      have hnx := rs_next (k := k) (n := n) (dig_lt hbd)
      have hll : out.length < (out ++ a.drop out.length).length := by simp; omega
      generalize a.getD (r + out.length) 0 = b at *
      generalize n / 2 ^ k = Q1 at *
      generalize n % 2 ^ k = M at *
      clear hok r1 r2 r5 hpos hr q1 hdr hbd h60 hm1 hm2 hQ1 hmod w0 w1
      (repeat ((conv => whnf); (first | refine exR ?_ | refine tT ?_ | refine lL ?_ | refine exA _ rfl (by omega) ?_)))
      refine xB8 b hge ?_
      (repeat ((conv => whnf); (first | with_reducible refine exE (α := Int) _ (by assumption) ?_ | refine exA _ rfl (by omega) ?_ | refine zQ ?_)))
      refine xS8 (chr Q1) rfl hll ?_
      (repeat ((conv => whnf); (first | with_reducible refine exE (α := Int) _ (by assumption) ?_ | with_reducible refine exE _ (w_inc (by omega)) ?_)))
      exact ⟨(M * 10 + dig b, out ++ [chr Q1]), ⟨.inl (by simp; omega), hnx, by simpa [Nat.add_assoc] using i3⟩, by simp; omega, (by simp only [List.length_append, List.length_singleton, ← Nat.add_assoc]; exact fiE), (by dsimp only; rw [← hset]; exact fiO)⟩
    · have hnil : ds.drop (r + out.length) = [] := List.drop_of_length_le (by omega)
      rw [hnil, rsA] at i3
      rw [← i3] at hr
      dsimp only at hr
      have hol : out.length ≤ 800 := by rcases i1 with h | h
                                        · omega
                                        · subst h; simp
      clear i3 i1 hm1 hm2 hok r5 r1 r2 hpos q1 hQ1 hf
      (repeat ((conv => whnf); (first | refine exR ?_ | refine tF ?_ | refine lL ?_)))
      refine ev_loop [] fax_ok hA (by kernel_rfl) (fun s : Nat × Nat × List UInt8 × Bool => rsB k (k + 1 - s.1) s.2.1 s.2.2.1 s.2.2.2 = rsB k (k + 1) n out tr ∧ s.1 ≤ k + 1 ∧ (s.1 ≤ k ∧ 2 ^ s.1 ∣ s.2.1 ∨ s.2.1 = 0) ∧ s.2.1 < 10 * 2 ^ k ∧ s.2.2.1.length ≤ 800) (fun s => [(0, .ref 1000 0), (1, u64T k), (5, intT s.2.2.1.length), (6, u64T s.2.1), (8, u64T (2 ^ k - 1))]) (fun s => [(1000, decO (s.2.2.1 ++ a.drop s.2.2.1.length) nd (dp - ((r : Int) - 1)) ng s.2.2.2)]) (fun s => k + 1 - s.1) (0, n, out, tr) ⟨rfl, Nat.zero_le _, .inl ⟨Nat.zero_le _, ⟨n, by simp⟩⟩, i2, hol⟩ fiE fiO ?_
      rintro ⟨j, m, o2, t⟩ ⟨g1, g2, g3, g4, g5⟩ - hbO5
      dsimp only at g1 g2 g3 g4 g5 ⊢
      by_cases hm0 : m = 0
      · subst hm0
        have hB : rsB k (k + 1 - j) 0 o2 t = (o2, t) := by cases k + 1 - j <;> simp [rsB]
        rw [hB] at g1
        rw [← g1] at hr
        dsimp only at hr
        injection hr with e1 e2 e3 e4 e5
        subst e5
        have htr := trim_fn (o2 ++ a.drop o2.length) o2.length (dp - ((r : Int) - 1)) ng t (by simp; omega) g5
        rw [e2] at htr e3
        rw [e3, e1] at htr
        have hal : a'.length = 800 := by rw [← e1]; simp; omega
        rw [e1]
        (repeat ((conv => whnf); (first | refine exR ?_ | refine gO [(1000, 1000)] (enters_of Tryz.func138 rfl rfl) htr ?_ | refine tF ?_ | refine lL ?_)))
        exact ⟨eN, rS, fiO⟩
      · obtain ⟨hjk, hdv⟩ : j ≤ k ∧ 2 ^ j ∣ m := by rcases g3 with h | h
                                                    · exact h
                                                    · exact absurd h hm0
        rw [show k + 1 - j = (k - j) + 1 by omega, rsB, if_neg hm0] at g1
        have hnx := rs_next (k := k) (n := m) (c := 0) (by decide)
        have hdv2 : j + 1 ≤ k ∧ 2 ^ (j + 1) ∣ m % 2 ^ k * 10 ∨ m % 2 ^ k * 10 = 0 := by
          rcases Nat.lt_or_ge j k with h | h
          · exact .inl ⟨h, rs_two hdv h⟩
          · obtain rfl : j = k := by omega
            exact .inr (rs_end hdv)
        have hmod : m % 2 ^ k < 2 ^ k := Nat.mod_lt _ (Nat.pow_pos (by decide))
        have hand := and_mod (n := m) (by omega) h2
        have hfm := fd_nat (n := m) h2
        have hmul : IntKind.u64.wrap (((m % 2 ^ k : Nat) : Int) * 10) = ((m % 2 ^ k * 10 : Nat) : Int) := u_nat (by omega) (by omega)
        obtain ⟨d1, d2⟩ := dg_ok (rs_dig g4)
        have hset := set_app (out := o2) (a := a) (c := chr (m / 2 ^ k))
        have hll : o2.length < 800 → o2.length < (o2 ++ a.drop o2.length).length := fun h => by simp; omega
        generalize m / 2 ^ k = Q1 at *
        generalize m % 2 ^ k = M at *
        clear hr h60 hmod w0 w1 hdg hdv
        by_cases hl : o2.length < 800
        · rw [if_pos hl, if_pos hl] at g1
          have hset := hset (by omega)
          have hll := hll hl
          (repeat ((conv => whnf); (first | with_reducible refine exE (α := Int) _ (by assumption) ?_ | refine exR ?_ | refine tT ?_ | refine exA _ rfl (by omega) ?_ | refine zQ ?_)))
          refine xS8 (chr Q1) rfl hll ?_
          (repeat ((conv => whnf); (first | with_reducible refine exE (α := Int) _ (by assumption) ?_ | with_reducible refine exE _ (w_inc (by omega)) ?_)))
          exact ⟨(j + 1, M * 10, o2 ++ [chr Q1], t), ⟨by rw [show k + 1 - (j + 1) = k - j by omega]; exact g1, by omega, hdv2, hnx, by simp; omega⟩, by simp; omega, (by simp only [List.length_append, List.length_singleton]; exact fiE), (by dsimp only; rw [← hset]; exact fiO)⟩
        · rw [if_neg hl, if_neg hl] at g1
          by_cases hq : 0 < Q1
          · rw [decide_eq_true hq, Bool.or_true] at g1
            (repeat ((conv => whnf); (first | with_reducible refine exE (α := Int) _ (by assumption) ?_ | refine exR ?_ | refine tT ?_ | refine tF ?_ | refine lL ?_ | refine zQ ?_)))
            exact ⟨(j + 1, M * 10, o2, true), ⟨by rw [show k + 1 - (j + 1) = k - j by omega]; exact g1, by omega, hdv2, hnx, g5⟩, by simp; omega, fiE, fiO⟩
          · rw [decide_eq_false hq, Bool.or_false] at g1
            (repeat ((conv => whnf); (first | with_reducible refine exE (α := Int) _ (by assumption) ?_ | refine exR ?_ | refine tT ?_ | refine tF ?_ | refine zQ ?_)))
            exact ⟨(j + 1, M * 10, o2, t), ⟨by rw [show k + 1 - (j + 1) = k - j by omega]; exact g1, by omega, hdv2, hnx, g5⟩, by simp; omega, fiE, fiO⟩
end Go.Proofs.YtngklbnodknadaaGreatDoor
end

section
namespace Go.Proofs.YtngklbnodknadaaGreatDoor

def shL (d : Dc) (k : Nat) : Dc := if k ≤ 60 then leftD d k else shL (leftD d 60) (k - 60)
termination_by k
decreasing_by omega
def shR (d : Dc) (k : Nat) : Dc := if k ≤ 60 then rightD d k else shR (rightD d 60) (k - 60)
termination_by k
decreasing_by omega
theorem delta_le {d : Dc} {k : Nat} (h : d.Ok) (hn : 1 ≤ d.nd) (h1 : 1 ≤ k) (h2 : k ≤ 60) : deltaM d.ds k ≤ k := by
  obtain ⟨b1, b2, -⟩ := h.big hn
  have hD := delta_ok h1 h2 h.dg (by rw [show d.a.take d.nd = d.ds from rfl, h.len_ds]; exact b2)
  rw [show d.a.take d.nd = d.ds from rfl, h.len_ds] at hD
  obtain ⟨d1, d2⟩ := hD
  have hv : vald d.ds < 10 ^ d.nd := by
    have := vald_lt (l := d.ds) h.dg
    rwa [h.len_ds] at this
  refine Nat.le_of_not_lt fun hc => ?_
  have e1 : 10 ^ (d.nd + (k + 1)) ≤ 10 ^ (d.nd + deltaM d.ds k) := Nat.pow_le_pow_right (by decide) (by omega)
  have e2 : 10 ^ (d.nd + (k + 1)) = 10 ^ d.nd * 10 ^ k * 10 := by rw [Nat.pow_add, Nat.pow_succ, Nat.mul_assoc]
  have e3 : 2 ^ k ≤ 10 ^ k := Nat.pow_le_pow_left (by decide) k
  have e4 : vald d.ds * 2 ^ k < 10 ^ d.nd * 10 ^ k := Nat.lt_of_lt_of_le (Nat.mul_lt_mul_of_pos_right hv (Nat.pow_pos (by decide))) (Nat.mul_le_mul_left _ e3)
  omega
theorem shL_ok {d : Dc} {k : Nat} (h : d.Ok) (hn : 1 ≤ d.nd) (h1 : 1 ≤ k) : (shL d k).Ok ∧ 1 ≤ (shL d k).nd ∧ d.dp ≤ (shL d k).dp ∧ (shL d k).dp ≤ d.dp + k := by
  induction k using Nat.strongRecOn generalizing d with
  | _ k ih =>
    rw [shL]
    split
    · next hk =>
      obtain ⟨a1, a2, a3, -⟩ := left_ok h hn h1 hk
      have := delta_le h hn h1 hk
      exact ⟨a1, a2, by omega, by omega⟩
    · next hk =>
      obtain ⟨a1, a2, a3, -⟩ := left_ok (k := 60) h hn (by decide) (by decide)
      have := delta_le (k := 60) h hn (by decide) (by decide)
      obtain ⟨b1, b2, b3, b4⟩ := ih (k - 60) (by omega) a1 a2 (by omega)
      exact ⟨b1, b2, by omega, by omega⟩
theorem shR_ok {d : Dc} {k : Nat} (h : d.Ok) (hn : 1 ≤ d.nd) (h1 : 1 ≤ k) : (shR d k).Ok ∧ 1 ≤ (shR d k).nd ∧ d.dp - k - 19 ≤ (shR d k).dp ∧ (shR d k).dp ≤ d.dp := by
  induction k using Nat.strongRecOn generalizing d with
  | _ k ih =>
    rw [shR]
    split
    · next hk =>
      obtain ⟨a1, a2, a3, -⟩ := right_ok h hn hk
      obtain ⟨-, -, r3, r4, -⟩ := right_r h hn hk
      exact ⟨a1, a2, by omega, by omega⟩
    · next hk =>
      obtain ⟨a1, a2, a3, -⟩ := right_ok (k := 60) h hn (by decide)
      obtain ⟨-, -, r3, r4, -⟩ := right_r (k := 60) h hn (by decide)
      obtain ⟨b1, b2, b3, b4⟩ := ih (k - 60) (by omega) a1 a2 (by omega)
      exact ⟨b1, b2, by omega, by omega⟩
theorem leftD_ng (d : Dc) (k : Nat) : (leftD d k).ng = d.ng := by simp only [leftD, trimD]
theorem rightD_ng (d : Dc) (k : Nat) : (rightD d k).ng = d.ng := by simp only [rightD, trimD]
theorem shL_ng (d : Dc) (k : Nat) : (shL d k).ng = d.ng := by
  induction k using Nat.strongRecOn generalizing d with
  | _ k ih =>
    rw [shL]
    split
    · exact leftD_ng d k
    · rw [ih (k - 60) (by omega), leftD_ng]
theorem shR_ng (d : Dc) (k : Nat) : (shR d k).ng = d.ng := by
  induction k using Nat.strongRecOn generalizing d with
  | _ k ih =>
    rw [shR]
    split
    · exact rightD_ng d k
    · rw [ih (k - 60) (by omega), rightD_ng]
/-- The first loop: to the right while there are digits ahead of the point. -/
def sc1 : Nat → Dc → Int → Dc × Int
  | 0, d, e => (d, e)
  | f + 1, d, e => if 0 < d.dp then sc1 f (rightD d (pw d.dp.toNat)) (e + pw d.dp.toNat) else (d, e)
/-- The second one: to the left while there is a nought behind the point, or less than a half. -/
def sc2 : Nat → Dc → Int → Dc × Int
  | 0, d, e => (d, e)
  | f + 1, d, e => if d.dp < 0 ∨ d.dp = 0 ∧ dig (d.a.getD 0 0) < 5 then sc2 f (leftD d (pw (-d.dp).toNat)) (e - pw (-d.dp).toNat) else (d, e)
theorem sc1_end {d : Dc} {e : Int} (h : ¬ 0 < d.dp) : ∀ f, sc1 f d e = (d, e)
  | 0 => rfl
  | f + 1 => by rw [sc1, if_neg h]
theorem sc2_end {d : Dc} {e : Int} (h : ¬ (d.dp < 0 ∨ d.dp = 0 ∧ dig (d.a.getD 0 0) < 5)) : ∀ f, sc2 f d e = (d, e)
  | 0 => rfl
  | f + 1 => by rw [sc2, if_neg h]
/-- Behind both loops. -/
def sc3 (d : Dc) (e : Int) : Dc × Int := if e - 1 < -1022 then (shR d (-1022 - (e - 1)).toNat, -1022) else (d, e - 1)
/-- What each loop's state is like. -/
structure St1 (d0 d : Dc) (e : Int) : Prop where
  ok : d.Ok
  nd : 1 ≤ d.nd
  ng : d.ng = d0.ng
  lo : 0 ≤ e
  hi : e + 27 * mu1 d ≤ 27 * 630
  dp : d.dp ≤ 310
  dl : -330 ≤ d.dp
theorem mu1_le {d : Dc} (h : d.dp ≤ 310) : mu1 d ≤ 621 := by unfold mu1; split <;> omega
theorem mu2_le {d : Dc} (h : -330 ≤ d.dp) : mu2 d ≤ 3310 := by unfold mu2; omega
theorem St1.next {d0 d : Dc} {e : Int} (h : St1 d0 d e) (hp : 0 < d.dp) : St1 d0 (rightD d (pw d.dp.toNat)) (e + pw d.dp.toNat) ∧ mu1 (rightD d (pw d.dp.toNat)) < mu1 d := by
  obtain ⟨p1, p2, -⟩ := pw_ok d.dp.toNat
  obtain ⟨a1, a2, a3, -⟩ := right_ok (k := pw d.dp.toNat) h.ok h.nd (by omega)
  obtain ⟨-, -, r3, r4, -⟩ := right_r (k := pw d.dp.toNat) h.ok h.nd (by omega)
  have hm := mu1_lt h.ok h.nd hp
  have := h.hi
  have := h.lo
  have := h.dp
  have := h.dl
  exact ⟨⟨a1, a2, by rw [rightD_ng]; exact h.ng, by omega, by omega, by omega, by omega⟩, hm⟩
structure St2 (d0 d : Dc) (e : Int) : Prop where
  ok : d.Ok
  nd : 1 ≤ d.nd
  ng : d.ng = d0.ng
  hi : e ≤ 27 * 630
  lo : -27 * 3320 ≤ e - 27 * mu2 d
  dp : d.dp ≤ 60
  dl : -330 ≤ d.dp
theorem St1.two {d0 d : Dc} {e : Int} (h : St1 d0 d e) (hp : ¬ 0 < d.dp) : St2 d0 d e := by
  have h1 := h.hi
  have h2 := h.lo
  have h3 := mu2_le h.dl
  exact ⟨h.ok, h.nd, h.ng, by omega, by omega, by omega, h.dl⟩
theorem St2.next {d0 d : Dc} {e : Int} (h : St2 d0 d e) (hp : d.dp < 0 ∨ d.dp = 0 ∧ dig (d.a.getD 0 0) < 5) : St2 d0 (leftD d (pw (-d.dp).toNat)) (e - pw (-d.dp).toNat) ∧ mu2 (leftD d (pw (-d.dp).toNat)) < mu2 d := by
  obtain ⟨p1, p2, -⟩ := pw_ok (-d.dp).toNat
  obtain ⟨a1, a2, a3, -⟩ := left_ok (k := pw (-d.dp).toNat) h.ok h.nd p1 (by omega)
  have := delta_le (k := pw (-d.dp).toNat) h.ok h.nd p1 (by omega)
  have hm := mu2_lt h.ok h.nd hp
  have := h.hi
  have := h.lo
  have := h.dp
  have := h.dl
  exact ⟨⟨a1, a2, by rw [leftD_ng]; exact h.ng, by omega, by omega, by omega, by omega⟩, hm⟩
theorem shL_le {d : Dc} {k : Nat} (h : k ≤ 60) : shL d k = leftD d k := by rw [shL, if_pos h]
theorem shR_le {d : Dc} {k : Nat} (h : k ≤ 60) : shR d k = rightD d k := by rw [shR, if_pos h]
end Go.Proofs.YtngklbnodknadaaGreatDoor
end

section
namespace Go.Proofs.YtngklbnodknadaaGreatDoor
open Go.RowKit

theorem dc_left {a : List UInt8} {nd : Nat} {dp : Int} {ng tr : Bool} (k : Nat) : ∃ a1 nd1 dp1 tr1, leftD ⟨a, nd, dp, ng, tr⟩ k = ⟨a1, nd1, dp1, ng, tr1⟩ := by
  have := leftD_ng ⟨a, nd, dp, ng, tr⟩ k
  generalize leftD ⟨a, nd, dp, ng, tr⟩ k = d at this
  obtain ⟨a1, nd1, dp1, ng1, tr1⟩ := d
  exact ⟨a1, nd1, dp1, tr1, by rw [show ng1 = ng from this]⟩
theorem dc_right {a : List UInt8} {nd : Nat} {dp : Int} {ng tr : Bool} (k : Nat) : ∃ a1 nd1 dp1 tr1, rightD ⟨a, nd, dp, ng, tr⟩ k = ⟨a1, nd1, dp1, ng, tr1⟩ := by
  have := rightD_ng ⟨a, nd, dp, ng, tr⟩ k
  generalize rightD ⟨a, nd, dp, ng, tr⟩ k = d at this
  obtain ⟨a1, nd1, dp1, ng1, tr1⟩ := d
  exact ⟨a1, nd1, dp1, tr1, by rw [show ng1 = ng from this]⟩
set_option maxHeartbeats 1000000 in
theorem shl_fn (a : List UInt8) (nd : Nat) (dp : Int) (ng tr : Bool) (k : Nat) (hok : (Dc.mk a nd dp ng tr).Ok) (hn : 1 ≤ nd) (h1 : 1 ≤ k) (hb : dp + k ≤ 900000) (hl : -900000 ≤ dp) (a' : List UInt8) (nd' : Nat) (dp' : Int) (tr' : Bool) (hr : shL ⟨a, nd, dp, ng, tr⟩ k = ⟨a', nd', dp', ng, tr'⟩) :
    FnO Tryz.prog 125 [.ref 1000 0, intT k] [(1000, decO a nd dp ng tr)] (.tup []) [(1000, decO a' nd' dp' ng tr')] := by
  have hz : (((nd : Nat) : Int) == 0) = false := by rw [beq_eq_false_iff_ne]; omega
  have ha := hok.len
  dsimp only at ha
  refine FnO.of0 (n := 37) [] fax_ok Tryz.func125 rfl rfl rfl (by rfl) (by rfl) (by kernel_rfl) fun Γ hA hbA hbO => ?_
  (repeat ((conv => whnf); (first | refine exR ?_ | refine tT ?_ | refine tF ?_ | refine lL ?_)))
  refine ev_loop [] fax_ok hA (by kernel_rfl) (fun s : Dc × Nat => s.1.Ok ∧ 1 ≤ s.1.nd ∧ 1 ≤ s.2 ∧ s.1.dp + s.2 ≤ 900000 ∧ -900000 ≤ s.1.dp ∧ s.1.ng = ng ∧ shL s.1 s.2 = ⟨a', nd', dp', ng, tr'⟩) (fun s => [(0, .ref 1000 0), (1, intT s.2)]) (fun s => [(1000, decO s.1.a s.1.nd s.1.dp ng s.1.tr)]) (fun s => s.2) (⟨a, nd, dp, ng, tr⟩, k) ⟨hok, hn, h1, hb, hl, rfl, hr⟩ fiE fiO ?_
  rintro ⟨⟨b, m, p, g, t⟩, j⟩ ⟨i1, i2, i3, i4, i5, i6, i7⟩ - hbO2
  dsimp only at i2 i3 i4 i5 i6 i7 ⊢
  subst i6
  have ha2 := i1.len
  dsimp only at ha2
  rw [shL] at i7
  clear hok hn h1 hb hl hr hz
  by_cases hj : 60 < j
  · rw [if_neg (by omega)] at i7
    obtain ⟨b1, m1, p1, t1, e⟩ := dc_left (a := b) (nd := m) (dp := p) (ng := g) (tr := t) 60
    obtain ⟨k1, k2, k3, -⟩ := left_ok (k := 60) i1 i2 (by decide) (by decide)
    have k4 := delta_le (k := 60) i1 i2 (by decide) (by decide)
    have hf := left_fn b m p g t 60 i1 i2 (by decide) (by decide) (by omega) (by omega) b1 m1 p1 t1 e
    rw [e] at i7 k1 k2 k3
    dsimp only at k2 k3 k4
    have hw : IntKind.i64.wrap ((j : Int) - 60) = ((j - 60 : Nat) : Int) := i_nat (by omega) (by omega)
    (repeat ((conv => whnf); (first | with_reducible refine exE (α := Int) _ (by assumption) ?_ | refine exR ?_ | refine gO [(1000, 1000)] (enters_of Tryz.func130 rfl rfl) hf ?_ | refine tT ?_)))
    exact ⟨(⟨b1, m1, p1, g, t1⟩, j - 60), ⟨k1, k2, by dsimp only; omega, by dsimp only; omega, by dsimp only; omega, rfl, i7⟩, by dsimp only; omega, fiE, fiO⟩
  · rw [if_pos (by omega)] at i7
    have hf := left_fn b m p g t j i1 i2 i3 (by omega) (by omega) (by omega) a' nd' dp' tr' i7
    have hw : IntKind.u64.wrap (j : Int) = (j : Int) := u_in (by omega) (by omega)
    (repeat ((conv => whnf); (first | with_reducible refine exE (α := Int) _ (by assumption) ?_ | refine exR ?_ | refine gO [(1000, 1000)] (enters_of Tryz.func130 rfl rfl) hf ?_ | refine tF ?_)))
    exact ⟨eN, rS, fiO⟩
set_option maxHeartbeats 1000000 in
theorem shr_fn (a : List UInt8) (nd : Nat) (dp : Int) (ng tr : Bool) (k : Nat) (hok : (Dc.mk a nd dp ng tr).Ok) (hn : 1 ≤ nd) (h1 : 1 ≤ k) (hb : -900000 ≤ dp - k) (hl : dp ≤ 900000) (a' : List UInt8) (nd' : Nat) (dp' : Int) (tr' : Bool) (hr : shR ⟨a, nd, dp, ng, tr⟩ k = ⟨a', nd', dp', ng, tr'⟩) :
    FnO Tryz.prog 125 [.ref 1000 0, intT (-(k : Int))] [(1000, decO a nd dp ng tr)] (.tup []) [(1000, decO a' nd' dp' ng tr')] := by
  have hz : (((nd : Nat) : Int) == 0) = false := by rw [beq_eq_false_iff_ne]; omega
  have ha := hok.len
  dsimp only at ha
  have hk0 : (k : Int) ≤ 1800000 := by omega
  refine FnO.of0 (n := 37) [] fax_ok Tryz.func125 rfl rfl rfl (by rfl) (by rfl) (by kernel_rfl) fun Γ hA hbA hbO => ?_
  (repeat ((conv => whnf); (first | refine exR ?_ | refine tT ?_ | refine tF ?_ | refine lL ?_)))
  refine ev_loop [] fax_ok hA (by kernel_rfl) (fun s : Dc × Nat => s.1.Ok ∧ 1 ≤ s.1.nd ∧ 1 ≤ s.2 ∧ -900000 ≤ s.1.dp - s.2 ∧ s.1.dp ≤ 900000 ∧ s.1.ng = ng ∧ shR s.1 s.2 = ⟨a', nd', dp', ng, tr'⟩) (fun s => [(0, .ref 1000 0), (1, intT (-(s.2 : Int)))]) (fun s => [(1000, decO s.1.a s.1.nd s.1.dp ng s.1.tr)]) (fun s => s.2) (⟨a, nd, dp, ng, tr⟩, k) ⟨hok, hn, h1, hb, hl, rfl, hr⟩ fiE fiO ?_
  rintro ⟨⟨b, m, p, g, t⟩, j⟩ ⟨i1, i2, i3, i4, i5, i6, i7⟩ - hbO2
  dsimp only at i2 i3 i4 i5 i6 i7 ⊢
  subst i6
  have ha2 := i1.len
  dsimp only at ha2
  rw [shR] at i7
  clear hok hn h1 hb hl hr hz
  by_cases hj : 60 < j
  · rw [if_neg (by omega)] at i7
    obtain ⟨b1, m1, p1, t1, e⟩ := dc_right (a := b) (nd := m) (dp := p) (ng := g) (tr := t) 60
    obtain ⟨k1, k2, k3, -⟩ := right_ok (k := 60) i1 i2 (by decide)
    obtain ⟨-, -, k4, k5, -⟩ := right_r (k := 60) i1 i2 (by decide)
    have hf := right_fn b m p g t 60 i1 i2 (by decide) (by decide) (by omega) (by omega) b1 m1 p1 t1 e
    rw [e] at i7 k1 k2 k3
    dsimp only at k2 k3 k4 k5
    have hw : IntKind.i64.wrap (-(j : Int) + 60) = -((j - 60 : Nat) : Int) := by rw [show -(j : Int) + 60 = -((j - 60 : Nat) : Int) by omega]; exact wrap_in (by omega) (by omega)
    (repeat ((conv => whnf); (first | with_reducible refine exE (α := Int) _ (by assumption) ?_ | refine exR ?_ | refine gO [(1000, 1000)] (enters_of Tryz.func131 rfl rfl) hf ?_ | refine tT ?_)))
    exact ⟨(⟨b1, m1, p1, g, t1⟩, j - 60), ⟨k1, k2, by dsimp only; omega, by dsimp only; omega, by dsimp only; omega, rfl, i7⟩, by dsimp only; omega, fiE, fiO⟩
  · rw [if_pos (by omega)] at i7
    have hf := right_fn b m p g t j i1 i2 i3 (by omega) (by omega) (by omega) a' nd' dp' tr' i7
    have hw0 : IntKind.i64.wrap (0 - -(j : Int)) = (j : Int) := by rw [show (0 : Int) - -(j : Int) = (j : Int) by omega]; exact wrap_in (by omega) (by omega)
    have hw : IntKind.u64.wrap (j : Int) = (j : Int) := u_in (by omega) (by omega)
    (repeat ((conv => whnf); (first | with_reducible refine exE (α := Int) _ (by assumption) ?_ | refine exR ?_ | refine gO [(1000, 1000)] (enters_of Tryz.func131 rfl rfl) hf ?_ | refine tF ?_)))
    exact ⟨eN, rS, fiO⟩
end Go.Proofs.YtngklbnodknadaaGreatDoor
end
