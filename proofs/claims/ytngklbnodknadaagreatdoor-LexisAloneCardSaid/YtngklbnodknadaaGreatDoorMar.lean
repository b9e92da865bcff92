/-
  Pk, Dx, St, Pm, Pn, Po, in one.
-/
import Derived.Test.YtngklbnodknadaaGreatDoorMal
import Derived.Test.YtngklbnodknadaaGreatDoorMaq
import Derived.Test.YtngklbnodknadaaGreatDoorMan
import Derived.Test.YtngklbnodknadaaGreatDoorMao
section
namespace Go.Proofs.YtngklbnodknadaaGreatDoor
open Go.RowKit

def f10L : List D := f10W.map fun n => .v (.float .f64 n)
theorem f10_rep (S : Sm) : RepLv S 1 f10L f10V := by
  unfold f10L f10V
  generalize f10W = l
  induction l with
  | nil => exact .nil
  | cons i l ih => exact .cons (xs := [_]) (.cons (.v rfl) rfl .nil) rfl ih
theorem t_f10 {o : Oper} {σ : Nat → T} {t : TypeId} {kk : Nat} (ho : o.op = .load t (.global 11)) (ht : aggOf? Tryz.prog t = some (false, kk)) : Tri Tryz.prog o σ [] (.d (.sl 1 f10L)) [] := by
  have hp : (11, 23, f10V) ∈ stabs := by
    unfold stabs
    exact List.mem_cons_of_mem _ (List.mem_cons_of_mem _ List.mem_cons_self)
  have hl : f10L.length = ((11, 23, f10V) : Nat × Nat × List Value).2.1 := rfl
  have hr : ∀ S, RepLv S 1 f10L ((11, 23, f10V) : Nat × Nat × List Value).2.2 := f10_rep
  exact t_stab _ ho ht hp hr hl
theorem tab_info : (8, (· = infoV)) ∈ tabs := by unfold tabs; simp
section
variable {P : Program} {o : Oper} {σ : Nat → T}
theorem t_gfield {n s f off : Nat} {cs : List Value} {ds : List D} (ho : o.op = .fieldAddr s (.global n) f) (hf : fieldOff? P s f = some off) (hp : (n, (· = cs)) ∈ tabs) (hds : ∀ S, RepDs S ds cs) : Tri P o σ [] (.pi (ds.drop off)) [] := by
  intro Γ g objs a w Q hr _ hw
  obtain ⟨cs', t', fr, h0, h2⟩ := hw.fr.tabs.one _ hp
  have h0 : cs' = cs := h0
  subst h0
  obtain ⟨k1, k2⟩ := hw.frzB (b0 := n) (.inl ⟨_, hp, rfl⟩)
  have hrun : (execOp a.eval o).run P w = .ok (.value (.pointer (some ⟨n, 0 + off, none⟩))) w := by
    have eg : a.eval (.global n) = .pointer (some ⟨n, 0, none⟩) := rfl
    unfold fieldOff? at hf
    split at hf
    · next fs hu =>
      split at hf
      · next fl hfl =>
        split at hf
        · next inf hinf =>
          split at hf
          · cases hf
          · next hz =>
            cases hf
            unfold execOp
            rw [ho]
            simp [Instr.fieldAt, eg, run_underlying hu, hfl, Instr.sureAddr, fieldPlace, sizeOf, typeInfo, hinf, hz, add_lit']
        · cases hf
      · cases hf
    · cases hf
  unfold Oper.wp
  rw [hrun]
  refine ⟨_, _, rfl, k1, RepT.pi ((hds _).drop off) fun q hq => ?_, k2⟩
  show frzS g.S w _ n (0 + off + q) = _
  unfold frzS
  rw [if_pos rfl, List.getElem?_drop, Nat.zero_add]
  simp [World.cell?, h2]
end
theorem u70_int : Tryz.prog.underlying 70 = some (.int .u64) := by kernel_rfl
theorem u65_flt : Tryz.prog.underlying 65 = some (.float .f64) := by kernel_rfl
theorem inf_one : ∀ S, RepDs S infoD infoV := fun _ => .cons (.v rfl) rfl (.cons (.v rfl) rfl (.cons (.v rfl) rfl .nil))
theorem exF {α : Type} {x : Option α} {K : α → Prop} (r : α) (h : x = some r) (k : K r) : ∃ r, x = some r ∧ K r := ⟨r, h, k⟩
set_option maxRecDepth 100000 in
set_option maxHeartbeats 8000000 in
theorem exact_fn (m : Nat) (hm : m < 18446744073709551616) (e : Int) (he : -1000000000000000000 ≤ e ∧ e ≤ 1000000000000000000) : ∃ (n : Nat) (ok : Bool), FnD Tryz.prog 102 [u64T m, intT e, boolT false] (.tup [f64T n, boolT ok]) ∧ (m = 15 → e = -1 → n = 4609434218613702656 ∧ ok = true) := by
  have hfo : fieldOff? Tryz.prog 169 0 = some 0 := fo169_0
  have ht : aggOf? Tryz.prog 210 = some (false, 1) := ag210
  have hsh : (m : Int).fdiv (2 ^ min (52 : Int).toNat IntKind.u64.bits) = ((m / 4503599627370496 : Nat) : Int) := fd_nat (n := m) (k := 52) (by decide)
  by_cases h0 : m / 4503599627370496 = 0
  · have hz : (((m / 4503599627370496 : Nat) : Int) != 0) = false := by rw [h0]; rfl
    generalize m / 4503599627370496 = q at hsh hz
    obtain ⟨f, hf, hfm⟩ : ∃ f, FloatKind.f64.nearest (m : Int) = f ∧ notNaN f := ⟨_, rfl, nearest_fin _ _ _⟩
    have hcv : ∀ {o : Oper} {σ : Nat → T} {x : Operand}, o.op = .convert 70 65 x → opT σ x = u64T m → Tri Tryz.prog o σ [] (f64T f) [] := fun h1 h2 => by
      have := t_i2f h1 u70_int u65_flt h2
      rwa [hf] at this
    by_cases e0 : e = 0
    · subst e0
      refine ⟨f, true, ?_, fun _ h => absurd h (by decide)⟩
      refine FnD.ofT (n := 64) [] fax_ok Tryz.func102 rfl rfl rfl (by rfl) (by kernel_rfl) (by intro _; rfl) fun Γ hA hbA => ?_
      skip
      refine gen_nil (t_gfield rfl hfo tab_info inf_one) ?_
      (repeat ((conv => whnf); (first | with_reducible refine exE (α := Int) _ (by assumption) ?_ | refine exR ?_ | refine tF ?_ | refine zQ ?_)))
      refine gen_nil (hcv rfl rfl) ?_
      (repeat ((conv => whnf); (first | refine exR ?_ | refine tT ?_ | refine tF ?_)))
      exact ⟨eN, rS, fiO⟩
    by_cases e1 : 0 < e
    · by_cases e2 : e ≤ 37
      · by_cases e3 : 22 < e
        · obtain ⟨j, rfl⟩ : ∃ j : Nat, e = (j : Int) + 22 := ⟨(e - 22).toNat, by omega⟩
          have hw : IntKind.i64.wrap ((j : Int) + 22 - 22) = (j : Int) := by rw [show (j : Int) + 22 - 22 = (j : Int) by omega]; exact wrap_in (by omega) (by omega)
          obtain ⟨w, hg, -, hn⟩ := f10_at (j := j) (by omega)
          obtain ⟨w2, hg2, -, hn2⟩ := f10_at (j := 22) (by omega)
          obtain ⟨r, hd, hr⟩ := mul_fin hfm hn
          obtain ⟨r2, hd2, -⟩ := mul_fin hr hn2
          have hg : f10L[j]? = some (.v (.float .f64 w)) := hg
          have hg2 : f10L[22]? = some (.v (.float .f64 w2)) := hg2
          have hd : FloatKind.f64.format.mul f w = some r := hd
          have hd2 : FloatKind.f64.format.mul r w2 = some r2 := hd2
          obtain ⟨c1, hc1⟩ : ∃ c, (FloatKind.f64.format.order r 4831355200913801216 == some .gt) = c := ⟨_, rfl⟩
          obtain ⟨c2, hc2⟩ : ∃ c, (FloatKind.f64.format.order r 14054727237768577024 == some .lt) = c := ⟨_, rfl⟩
          cases c1 with
          | true =>
            refine ⟨r, false, ?_, fun _ h => absurd h (by omega)⟩
            refine FnD.ofT (n := 64) [] fax_ok Tryz.func102 rfl rfl rfl (by rfl) (by kernel_rfl) (by intro _; rfl) fun Γ hA hbA => ?_
            skip
            refine gen_nil (t_gfield rfl hfo tab_info inf_one) ?_
            (repeat ((conv => whnf); (first | with_reducible refine exE (α := Int) _ (by assumption) ?_ | refine exR ?_ | refine tF ?_ | refine zQ ?_)))
            refine gen_nil (hcv rfl rfl) ?_
            (repeat ((conv => whnf); (first | refine exR ?_ | refine tT ?_ | refine tF ?_)))
            refine gen_nil (t_f10 rfl ht) ?_
            (repeat ((conv => whnf); (first | with_reducible refine exE (α := Int) _ (by assumption) ?_ | refine exI _ rfl (by assumption) ?_)))
            refine exF r hd ?_
            (repeat ((conv => whnf); (first | refine exR ?_ | refine tT ?_ | refine uF ?_)))
            exact ⟨eN, rS, fiO⟩
          | false =>
            cases c2 with
            | true =>
              refine ⟨r, false, ?_, fun _ h => absurd h (by omega)⟩
              refine FnD.ofT (n := 64) [] fax_ok Tryz.func102 rfl rfl rfl (by rfl) (by kernel_rfl) (by intro _; rfl) fun Γ hA hbA => ?_
              skip
              refine gen_nil (t_gfield rfl hfo tab_info inf_one) ?_
              (repeat ((conv => whnf); (first | with_reducible refine exE (α := Int) _ (by assumption) ?_ | refine exR ?_ | refine tF ?_ | refine zQ ?_)))
              refine gen_nil (hcv rfl rfl) ?_
              (repeat ((conv => whnf); (first | refine exR ?_ | refine tT ?_ | refine tF ?_)))
              refine gen_nil (t_f10 rfl ht) ?_
              (repeat ((conv => whnf); (first | with_reducible refine exE (α := Int) _ (by assumption) ?_ | refine exI _ rfl (by assumption) ?_)))
              refine exF r hd ?_
              (repeat ((conv => whnf); (first | refine exR ?_ | refine tT ?_ | refine tF ?_ | refine uT ?_)))
              exact ⟨eN, rS, fiO⟩
            | false =>
              refine ⟨r2, true, ?_, fun _ h => absurd h (by omega)⟩
              refine FnD.ofT (n := 64) [] fax_ok Tryz.func102 rfl rfl rfl (by rfl) (by kernel_rfl) (by intro _; rfl) fun Γ hA hbA => ?_
              skip
              refine gen_nil (t_gfield rfl hfo tab_info inf_one) ?_
              (repeat ((conv => whnf); (first | with_reducible refine exE (α := Int) _ (by assumption) ?_ | refine exR ?_ | refine tF ?_ | refine zQ ?_)))
              refine gen_nil (hcv rfl rfl) ?_
              (repeat ((conv => whnf); (first | refine exR ?_ | refine tT ?_ | refine tF ?_)))
              refine gen_nil (t_f10 rfl ht) ?_
              (repeat ((conv => whnf); (first | with_reducible refine exE (α := Int) _ (by assumption) ?_ | refine exI _ rfl (by assumption) ?_)))
              refine exF r hd ?_
              (repeat ((conv => whnf); (first | refine exR ?_ | refine tF ?_ | refine uT ?_)))
              refine gen_nil (t_f10 rfl ht) ?_
              (repeat ((conv => whnf); refine exI _ rfl (by assumption) ?_))
              refine exF r2 hd2 ?_
              skip
              exact ⟨eN, rS, fiO⟩
        · obtain ⟨j, rfl⟩ : ∃ j : Nat, e = (j : Int) := ⟨e.toNat, by omega⟩
          obtain ⟨w2, hg2, -, hn2⟩ := f10_at (j := j) (by omega)
          obtain ⟨r2, hd2, -⟩ := mul_fin hfm hn2
          have hg2 : f10L[j]? = some (.v (.float .f64 w2)) := hg2
          have hd2 : FloatKind.f64.format.mul f w2 = some r2 := hd2
          obtain ⟨c1, hc1⟩ : ∃ c, (FloatKind.f64.format.order f 4831355200913801216 == some .gt) = c := ⟨_, rfl⟩
          obtain ⟨c2, hc2⟩ : ∃ c, (FloatKind.f64.format.order f 14054727237768577024 == some .lt) = c := ⟨_, rfl⟩
          cases c1 with
          | true =>
            refine ⟨f, false, ?_, fun _ h => absurd h (by omega)⟩
            refine FnD.ofT (n := 64) [] fax_ok Tryz.func102 rfl rfl rfl (by rfl) (by kernel_rfl) (by intro _; rfl) fun Γ hA hbA => ?_
            skip
            refine gen_nil (t_gfield rfl hfo tab_info inf_one) ?_
            (repeat ((conv => whnf); (first | with_reducible refine exE (α := Int) _ (by assumption) ?_ | refine exR ?_ | refine tF ?_ | refine zQ ?_)))
            refine gen_nil (hcv rfl rfl) ?_
            (repeat ((conv => whnf); (first | refine exR ?_ | refine tT ?_ | refine tF ?_ | refine uF ?_)))
            exact ⟨eN, rS, fiO⟩
          | false =>
            cases c2 with
            | true =>
              refine ⟨f, false, ?_, fun _ h => absurd h (by omega)⟩
              refine FnD.ofT (n := 64) [] fax_ok Tryz.func102 rfl rfl rfl (by rfl) (by kernel_rfl) (by intro _; rfl) fun Γ hA hbA => ?_
              skip
              refine gen_nil (t_gfield rfl hfo tab_info inf_one) ?_
              (repeat ((conv => whnf); (first | with_reducible refine exE (α := Int) _ (by assumption) ?_ | refine exR ?_ | refine tF ?_ | refine zQ ?_)))
              refine gen_nil (hcv rfl rfl) ?_
              (repeat ((conv => whnf); (first | refine exR ?_ | refine tT ?_ | refine tF ?_ | refine uT ?_)))
              exact ⟨eN, rS, fiO⟩
            | false =>
              refine ⟨r2, true, ?_, fun _ h => absurd h (by omega)⟩
              refine FnD.ofT (n := 64) [] fax_ok Tryz.func102 rfl rfl rfl (by rfl) (by kernel_rfl) (by intro _; rfl) fun Γ hA hbA => ?_
              skip
              refine gen_nil (t_gfield rfl hfo tab_info inf_one) ?_
              (repeat ((conv => whnf); (first | with_reducible refine exE (α := Int) _ (by assumption) ?_ | refine exR ?_ | refine tF ?_ | refine zQ ?_)))
              refine gen_nil (hcv rfl rfl) ?_
              (repeat ((conv => whnf); (first | refine exR ?_ | refine tT ?_ | refine tF ?_ | refine uT ?_)))
              refine gen_nil (t_f10 rfl ht) ?_
              (repeat ((conv => whnf); refine exI _ rfl (by assumption) ?_))
              refine exF r2 hd2 ?_
              skip
              exact ⟨eN, rS, fiO⟩
      · refine ⟨f, false, ?_, fun _ h => absurd h (by omega)⟩
        refine FnD.ofT (n := 64) [] fax_ok Tryz.func102 rfl rfl rfl (by rfl) (by kernel_rfl) (by intro _; rfl) fun Γ hA hbA => ?_
        skip
        refine gen_nil (t_gfield rfl hfo tab_info inf_one) ?_
        (repeat ((conv => whnf); (first | with_reducible refine exE (α := Int) _ (by assumption) ?_ | refine exR ?_ | refine tF ?_ | refine zQ ?_)))
        refine gen_nil (hcv rfl rfl) ?_
        (repeat ((conv => whnf); (first | refine exR ?_ | refine tT ?_ | refine tF ?_)))
        exact ⟨eN, rS, fiO⟩
    · by_cases e2 : -22 ≤ e
      · obtain ⟨j, rfl⟩ : ∃ j : Nat, e = -(j : Int) := ⟨(-e).toNat, by omega⟩
        have hw : IntKind.i64.wrap (0 - -(j : Int)) = (j : Int) := by rw [show (0 : Int) - -(j : Int) = (j : Int) by omega]; exact wrap_in (by omega) (by omega)
        obtain ⟨w, hg, hwj, hn⟩ := f10_at (j := j) (by omega)
        obtain ⟨r, hd⟩ := div_fin hfm hn
        have hg : f10L[j]? = some (.v (.float .f64 w)) := hg
        have hd2 : FloatKind.f64.format.div f w = some r := hd
        refine ⟨r, true, ?_, fun h1 h2 => ⟨?_, rfl⟩⟩
        · refine FnD.ofT (n := 64) [] fax_ok Tryz.func102 rfl rfl rfl (by rfl) (by kernel_rfl) (by intro _; rfl) fun Γ hA hbA => ?_
          skip
          refine gen_nil (t_gfield rfl hfo tab_info inf_one) ?_
          (repeat ((conv => whnf); (first | with_reducible refine exE (α := Int) _ (by assumption) ?_ | refine exR ?_ | refine tF ?_ | refine zQ ?_)))
          refine gen_nil (hcv rfl rfl) ?_
          (repeat ((conv => whnf); (first | refine exR ?_ | refine tT ?_ | refine tF ?_)))
          refine gen_nil (t_f10 rfl ht) ?_
          (repeat ((conv => whnf); (first | with_reducible refine exE (α := Int) _ (by assumption) ?_ | refine exI _ rfl (by assumption) ?_)))
          refine exF r hd2 ?_
          skip
          exact ⟨eN, rS, fiO⟩
        · have hj1 : j = 1 := by omega
          subst h1 hj1 hf
          subst hwj
          have : Ieee.double.div (FloatKind.f64.nearest (((15 : Nat) : Int))) (f10W.getD 1 0) = some 4609434218613702656 := by decide +kernel
          rw [this] at hd
          exact (Option.some.inj hd).symm
      · refine ⟨f, false, ?_, fun _ h => absurd h (by omega)⟩
        refine FnD.ofT (n := 64) [] fax_ok Tryz.func102 rfl rfl rfl (by rfl) (by kernel_rfl) (by intro _; rfl) fun Γ hA hbA => ?_
        skip
        refine gen_nil (t_gfield rfl hfo tab_info inf_one) ?_
        (repeat ((conv => whnf); (first | with_reducible refine exE (α := Int) _ (by assumption) ?_ | refine exR ?_ | refine tF ?_ | refine zQ ?_)))
        refine gen_nil (hcv rfl rfl) ?_
        (repeat ((conv => whnf); (first | refine exR ?_ | refine tT ?_ | refine tF ?_)))
        exact ⟨eN, rS, fiO⟩
  · have hz : (((m / 4503599627370496 : Nat) : Int) != 0) = true := bne_iff_ne.2 (by omega)
    have h15 : m ≠ 15 := fun h => h0 (by rw [h])
    generalize m / 4503599627370496 = q at hsh hz
    refine ⟨0, false, ?_, fun h => absurd h h15⟩
    refine FnD.ofT (n := 64) [] fax_ok Tryz.func102 rfl rfl rfl (by rfl) (by kernel_rfl) (by intro _; rfl) fun Γ hA hbA => ?_
    skip
    refine gen_nil (t_gfield rfl hfo tab_info inf_one) ?_
    (repeat ((conv => whnf); (first | with_reducible refine exE (α := Int) _ (by assumption) ?_ | refine exR ?_ | refine tT ?_ | refine zQ ?_)))
    exact ⟨eN, rS, fiO⟩
end Go.Proofs.YtngklbnodknadaaGreatDoor
end

section
namespace Go.Proofs.YtngklbnodknadaaGreatDoor

def stS (d : Dc) (c : UInt8) : Dc :=
  if c = 46 then ⟨d.a, d.nd, (d.nd : Int), d.ng, d.tr⟩
  else if c = 48 ∧ d.nd = 0 then ⟨d.a, d.nd, d.dp - 1, d.ng, d.tr⟩
  else if d.nd < 800 then ⟨d.a.set d.nd c, d.nd + 1, d.dp, d.ng, d.tr⟩
  else ⟨d.a, d.nd, d.dp, d.ng, if c = 48 then d.tr else true⟩
theorem stS_dot (a : List UInt8) (nd : Nat) (p : Int) (g t : Bool) : stS ⟨a, nd, p, g, t⟩ 46 = ⟨a, nd, (nd : Int), g, t⟩ := by unfold stS; rw [if_pos rfl]
theorem stS_zero {c : UInt8} {a : List UInt8} {nd : Nat} {p : Int} {g t : Bool} (h : c ≠ 46) (h0 : c = 48 ∧ nd = 0) : stS ⟨a, nd, p, g, t⟩ c = ⟨a, nd, p - 1, g, t⟩ := by unfold stS; rw [if_neg h, if_pos h0]
theorem stS_in {c : UInt8} {a : List UInt8} {nd : Nat} {p : Int} {g t : Bool} (h : c ≠ 46) (h0 : ¬ (c = 48 ∧ nd = 0)) (h1 : nd < 800) : stS ⟨a, nd, p, g, t⟩ c = ⟨a.set nd c, nd + 1, p, g, t⟩ := by unfold stS; rw [if_neg h, if_neg h0, if_pos h1]
theorem stS_out {c : UInt8} {a : List UInt8} {nd : Nat} {p : Int} {g t : Bool} (h : c ≠ 46) (h0 : ¬ (c = 48 ∧ nd = 0)) (h1 : ¬ nd < 800) : stS ⟨a, nd, p, g, t⟩ c = ⟨a, nd, p, g, if c = 48 then t else true⟩ := by unfold stS; rw [if_neg h, if_neg h0, if_neg h1]
@[irreducible] def z800 : List UInt8 := List.replicate 800 0
theorem z800_len : z800.length = 800 := by unfold z800; exact List.length_replicate
def st0 : Dc := ⟨z800, 0, 0, false, false⟩
def stM (s : List UInt8) : Dc := s.foldl stS st0
structure StOk (i : Nat) (d : Dc) : Prop where
  ok : d.Ok
  ng : d.ng = false
  lo : -((i + 800 : Nat) : Int) ≤ d.dp
  hi : d.dp ≤ ((i + 800 : Nat) : Int)
theorem st_step {s : List UInt8} {k i : Nat} {d : Dc} {c : UInt8} (hs : NumS s k) (hc : s[i]? = some c) (h : StOk i d) : StOk (i + 1) (stS d c) := by
  obtain ⟨h0, hn, h5, h6⟩ := h
  obtain ⟨h1, h2, h3, h4⟩ := h0
  unfold stS
  by_cases hk : i = k
  · subst hk
    have : c = 46 := by have := hs.dot; rw [hc] at this; exact Option.some.inj this
    rw [if_pos this]
    exact ⟨⟨h1, h2, h3, h4⟩, hn, by dsimp only; omega, by dsimp only; omega⟩
  · have hd := hs.dg i c hc hk
    have h46 : c ≠ 46 := by rintro rfl; revert hd; unfold isDg; decide
    rw [if_neg h46]
    split
    · exact ⟨⟨h1, h2, h3, h4⟩, hn, by dsimp only; omega, by dsimp only; omega⟩
    · next h48 =>
      split
      · next h8 =>
        refine ⟨⟨by simp [h1], by dsimp only; omega, fun x hx => ?_, fun _ => ?_⟩, hn, by dsimp only; omega, by dsimp only; omega⟩
        · have hx : x ∈ (d.a.set d.nd c).take (d.nd + 1) := hx
          rw [List.take_add_one, List.take_set_of_le (Nat.le_refl _), List.getElem?_set_self (by omega)] at hx
          simp only [Option.toList_some, List.mem_append, List.mem_singleton] at hx
          rcases hx with hx | rfl
          · exact h3 x hx
          · exact hd
        · show 1 ≤ dig ((d.a.set d.nd c).getD 0 0)
          rw [List.getD_eq_getElem?_getD]
          rcases Nat.eq_zero_or_pos d.nd with q | q
          · rw [q, List.getElem?_set_self (by omega), Option.getD_some]
            have : c ≠ 48 := fun e => h48 ⟨e, q⟩
            have : c.toNat ≠ 48 := fun e => this (UInt8.toNat_inj.1 (by rw [e]; rfl))
            unfold isDg at hd
            unfold dig
            omega
          · rw [List.getElem?_set_ne (by omega), ← List.getD_eq_getElem?_getD]
            exact h4 q
      · exact ⟨⟨h1, h2, h3, h4⟩, hn, by dsimp only; omega, by dsimp only; omega⟩
theorem st_zero : StOk 0 st0 := ⟨⟨z800_len, by decide, fun x hx => (by
    have hx : x ∈ List.take 0 st0.a := hx
    rw [List.take_zero] at hx
    cases hx), fun h => absurd h (by decide)⟩, rfl, by decide, by decide⟩
theorem st_take {s : List UInt8} {i : Nat} {c : UInt8} (hc : s[i]? = some c) : (s.take (i + 1)).foldl stS st0 = stS ((s.take i).foldl stS st0) c := by
  rw [List.take_add_one, hc, Option.toList_some, List.foldl_append]
  rfl
theorem st_ok {s : List UInt8} {k : Nat} (hs : NumS s k) : ∀ i, i ≤ s.length → StOk i ((s.take i).foldl stS st0)
  | 0, _ => st_zero
  | i + 1, h => by
    have hc : s[i]? = some s[i] := List.getElem?_eq_getElem (by omega)
    rw [st_take hc]
    exact st_step hs hc (st_ok hs i (by omega))
end Go.Proofs.YtngklbnodknadaaGreatDoor
end

section
namespace Go.Proofs.YtngklbnodknadaaGreatDoor
open Go.RowKit

set_option maxHeartbeats 8000000 in
set_option maxRecDepth 100000 in
theorem st_fn (s : List UInt8) (k : Nat) (hs : NumS s k) (hl : s.length ≤ 9223372036854774000) (a' : List UInt8) (nd' : Nat) (dp' : Int) (tr' : Bool) (hr : stM s = ⟨a', nd', dp', false, tr'⟩) :
    FnO Tryz.prog 98 [.ref 1000 0, strT s] [(1000, decO z800 0 0 false false)] (boolT true) [(1000, decO a' nd' dp' false tr')] := by
  have h1 := hs.one
  have h2 := hs.two
  obtain ⟨c0, g0⟩ : ∃ c, s[0]? = some c := ⟨s[0], List.getElem?_eq_getElem (by omega)⟩
  have d0 := hs.dg 0 c0 g0 (by omega)
  have hz8 := z800_len
  unfold isDg at d0
  have hend : (s.take s.length).foldl stS st0 = ⟨a', nd', dp', false, tr'⟩ := by rw [List.take_length]; exact hr
  have hok := st_ok hs
  refine FnO.of1 (n := 224) [] fax_ok Tryz.func98 rfl rfl rfl (by rfl) (by rfl) (by kernel_rfl) fun Γ hA hbA hbO => ?_
  (repeat ((conv => whnf); (first | refine exR ?_ | refine tF ?_ | refine lL ?_ | refine exB _ rfl (by assumption) ?_)))
  clear hr g0 d0
  refine ev_loopX [] fax_ok hA (by kernel_rfl) (fun x : Nat × Dc => x.1 ≤ s.length ∧ (s.take x.1).foldl stS st0 = x.2) (fun x => [(0, .ref 1000 0), (1, strT s), (5, intT x.1), (6, boolT (decide (k < x.1))), (7, boolT (decide (1 ≤ x.1)))]) (fun x => [(1000, decO x.2.a x.2.nd x.2.dp false x.2.tr)]) (fun x => s.length - x.1) 1 (fun x => x.1 = s.length) (fun x => [(0, .ref 1000 0), (1, strT s), (5, intT x.1), (6, boolT true), (7, boolT true)]) (fun x => [(1000, decO x.2.a x.2.nd x.2.dp false x.2.tr)]) (0, st0) ⟨Nat.zero_le _, rfl⟩ (by dsimp only; rw [decide_eq_false (by omega)]; exact fiE) fiO ?_ ?_
  · rintro ⟨i, ⟨l, m, p, g, t⟩⟩ ⟨hi, he⟩ - hbO2
    dsimp only at hi he ⊢
    have hd := hok i hi
    rw [he] at hd
    obtain rfl : g = false := hd.ng
    have q1 := hd.lo
    have q2 := hd.hi
    have q3 := hd.ok.nd
    have q4 := hd.ok.len
    dsimp only at q1 q2 q3 q4
    by_cases hil : i < s.length
    · obtain ⟨c, hg⟩ := get_ex hil
      have hn := st_take hg
      rw [he] at hn
      have k2 : decide (1 ≤ i + 1) = true := decide_eq_true (by omega)
      by_cases hik : i = k
      · subst hik
        have hc : c = 46 := by have := hs.dot; rw [hg] at this; exact Option.some.inj this
        subst hc
        have k1 : decide (i < i + 1) = true := decide_eq_true (by omega)
        have k3 : decide (i < i) = false := decide_eq_false (by omega)
        have k4 : decide (1 ≤ i) = true := decide_eq_true (by omega)
        rw [k3, k4]
        rw [stS_dot] at hn
        clear hok hend hd
        (repeat ((conv => whnf); (first | with_reducible refine exE _ (w_inc (by omega)) ?_ | refine exR ?_ | refine tT ?_ | refine tF ?_ | refine lL ?_ | refine exB _ rfl (by assumption) ?_)))
        exact ⟨(i + 1, ⟨l, m, m, false, t⟩), ⟨hil, hn⟩, by dsimp only; omega, (by dsimp only; rw [k1, k2]; exact fiE), fiO⟩
      · have hdc := hs.dg i c hg hik
        unfold isDg at hdc
        have h46 : c ≠ 46 := by rintro rfl; revert hdc; decide
        have k1 : decide (k < i + 1) = decide (k < i) := by
          by_cases q : k < i
          · rw [decide_eq_true q, decide_eq_true (by omega)]
          · rw [decide_eq_false q, decide_eq_false (by omega)]
        generalize decide (k < i) = dot at *
        generalize decide (1 ≤ i) = dg0 at *
        clear hok hend hd
        have hz : ((c.toNat : Int) == 48) = decide (c = 48) := b48
        by_cases h0 : c = 48 ∧ m = 0
        · rw [stS_zero h46 h0] at hn
          rw [decide_eq_true h0.1] at hz
          have hm0 : (((m : Nat) : Int) == 0) = true := by rw [beq_iff_eq]; omega
          have hw : IntKind.i64.wrap (p - 1) = p - 1 := wrap_in (by omega) (by omega)
          (repeat ((conv => whnf); (first | with_reducible refine exE (α := Int) _ (by assumption) ?_ | with_reducible refine exE _ (w_inc (by omega)) ?_ | refine exR ?_ | refine tT ?_ | refine tF ?_ | refine lL ?_ | refine exB _ rfl (by assumption) ?_)))
          exact ⟨(i + 1, ⟨l, m, p - 1, false, t⟩), ⟨hil, hn⟩, by dsimp only; omega, (by dsimp only; rw [k1, k2]; exact fiE), fiO⟩
        have hm0 : c = 48 → (((m : Nat) : Int) == 0) = false := fun e => by rw [beq_eq_false_iff_ne]; intro q; exact h0 ⟨e, by omega⟩
        by_cases h8 : m < 800
        · rw [stS_in h46 h0 h8] at hn
          have hll : m < l.length := by omega
          have hw : IntKind.i64.wrap ((m : Int) + 1) = ((m + 1 : Nat) : Int) := i_nat (by omega) (by omega)
          by_cases hc : c = 48
          · rw [decide_eq_true hc] at hz
            have hm0 := hm0 hc
            (repeat ((conv => whnf); (first | refine exR ?_ | refine tT ?_ | refine tF ?_ | refine lL ?_ | refine exB _ rfl (by assumption) ?_ | refine exA _ rfl (by omega) ?_)))
            refine xS8 c rfl hll ?_
            (repeat ((conv => whnf); (first | with_reducible refine exE (α := Int) _ (by assumption) ?_ | with_reducible refine exE _ (w_inc (by omega)) ?_ | refine oB ?_ | refine lL ?_)))
            exact ⟨(i + 1, ⟨l.set m c, m + 1, p, false, t⟩), ⟨hil, hn⟩, by dsimp only; omega, (by dsimp only; rw [k1, k2]; exact fiE), fiO⟩
          · rw [decide_eq_false hc] at hz
            (repeat ((conv => whnf); (first | refine exR ?_ | refine tT ?_ | refine tF ?_ | refine lL ?_ | refine exB _ rfl (by assumption) ?_ | refine exA _ rfl (by omega) ?_)))
            refine xS8 c rfl hll ?_
            (repeat ((conv => whnf); (first | with_reducible refine exE (α := Int) _ (by assumption) ?_ | with_reducible refine exE _ (w_inc (by omega)) ?_ | refine oB ?_ | refine lL ?_)))
            exact ⟨(i + 1, ⟨l.set m c, m + 1, p, false, t⟩), ⟨hil, hn⟩, by dsimp only; omega, (by dsimp only; rw [k1, k2]; exact fiE), fiO⟩
        · rw [stS_out h46 h0 h8] at hn
          by_cases hc : c = 48
          · rw [decide_eq_true hc] at hz
            rw [if_pos hc] at hn
            have hm0 := hm0 hc
            have hne : ((c.toNat : Int) != 48) = false := by rw [hc]; rfl
            (repeat ((conv => whnf); (first | with_reducible refine exE _ (w_inc (by omega)) ?_ | refine exR ?_ | refine tT ?_ | refine tF ?_ | refine lL ?_ | refine exB _ rfl (by assumption) ?_)))
            exact ⟨(i + 1, ⟨l, m, p, false, t⟩), ⟨hil, hn⟩, by dsimp only; omega, (by dsimp only; rw [k1, k2]; exact fiE), fiO⟩
          · rw [decide_eq_false hc] at hz
            rw [if_neg hc] at hn
            have hne : ((c.toNat : Int) != 48) = true := by rw [bne, hz]; rfl
            (repeat ((conv => whnf); (first | with_reducible refine exE _ (w_inc (by omega)) ?_ | refine exR ?_ | refine tT ?_ | refine tF ?_ | refine lL ?_ | refine exB _ rfl (by assumption) ?_)))
            exact ⟨(i + 1, ⟨l, m, p, false, true⟩), ⟨hil, hn⟩, by dsimp only; omega, (by dsimp only; rw [k1, k2]; exact fiE), fiO⟩
    · obtain rfl : i = s.length := by omega
      have k3 : decide (k < s.length) = true := decide_eq_true (by omega)
      have k4 : decide (1 ≤ s.length) = true := decide_eq_true (by omega)
      clear hok hend hd hs
      (repeat ((conv => whnf); (first | refine exR ?_ | refine tF ?_ | refine And.intro rfl ?_)))
      exact ⟨(s.length, ⟨l, m, p, false, t⟩), ⟨hi, he⟩, rfl, (by rw [k3, k4]; exact fiE), fiO⟩
  · rintro ⟨i, ⟨l, m, p, g, t⟩⟩ ⟨-, he⟩ hi
    dsimp only at hi he ⊢
    subst hi
    rw [hend] at he
    injection he with e1 e2 e3 e4 e5
    subst e1 e2 e3 e5
    clear hok hend hs
    (repeat ((conv => whnf); (first | refine exR ?_ | refine tF ?_)))
    exact ⟨eN, rS, fiO⟩
end Go.Proofs.YtngklbnodknadaaGreatDoor
end

section
namespace Go.Proofs.YtngklbnodknadaaGreatDoor
open Go.RowKit

set_option maxHeartbeats 2000000 in
theorem special_fn (s : List UInt8) (k : Nat) (hs : NumS s k) (hl : s.length ≤ 9223372036854774000) : FnD Tryz.prog 91 [strT s] (.tup [f64T 0, intT 0, boolT false]) := by
  have h1 := hs.one
  have h2 := hs.two
  obtain ⟨c0, g0⟩ := get_ex (l := s) (i := 0) (by omega)
  have d0 := hs.dg 0 c0 g0 (by omega)
  unfold isDg at d0
  refine FnD.ofT (n := 50) [] fax_ok Tryz.func91 rfl rfl rfl (by rfl) (by kernel_rfl) (by intro _; rfl) fun Γ hA hbA => ?_
  (repeat ((conv => whnf); (first | refine exR ?_ | refine tF ?_ | refine exB _ rfl (by assumption) ?_)))
  exact ⟨eN, rS, fiO⟩
theorem b2u_f : FnD Tryz.prog 100 [boolT false] (.d (.v (.int .u64 0))) := b2u_fn false
theorem fb_glob {pre post : Ob} {res : T} (h : FnO Tryz.prog 99 [.ref 1000 0, .pi infoD] pre res post) : FnO Tryz.prog 99 [.ref 1000 0, .pr (isGl 8)] pre res post :=
  FnO.glob tab_info h fun g vs hS hr => by
    cases hr with
    | cons r1 hr =>
      cases hr with
      | cons r2 hr =>
        cases hr
        refine .cons r1 (.cons ?_ .nil)
        cases r2 with
        | pr _ hp =>
          rw [isGl_spec hp]
          refine RepT.pi (inf_one _) fun q hq => ?_
          rw [Nat.zero_add]
          exact hS q hq
theorem z177 : zeroOf? Tryz.prog 177 = some (bytV z800 ++ [.int .i64 0, .int .i64 0, .bool false, .bool false]) := by
  unfold z800
  kernel_rfl
theorem t_dec {o : Oper} {σ : Nat → T} {c : Nat} (ho : o.op = .alloc 177) : Tri Tryz.prog o σ [(c, .vac)] (.ref c 0) [(c, decO z800 0 0 false false)] := t_alloc_barr (l := z800) (vs := [.int .i64 0, .int .i64 0, .bool false, .bool false]) ho z177
theorem t_opt {o : Oper} {σ : Nat → T} {t : TypeId} {kk : Nat} (ho : o.op = .load t (.global 7)) (ht : aggOf? Tryz.prog t = some (false, kk)) : Tri Tryz.prog o σ [] (boolT true) [] := t_gload ho ht (by unfold tabs; simp) rfl
theorem pow19 : (10 : Nat) ^ 19 = 10000000000000000000 := by decide
end Go.Proofs.YtngklbnodknadaaGreatDoor
end

section
namespace Go.Proofs.YtngklbnodknadaaGreatDoor
open Go.RowKit

theorem sc1_ng : ∀ (f : Nat) (d : Dc) (e : Int), (sc1 f d e).1.ng = d.ng
  | 0, _, _ => rfl
  | f + 1, d, e => by
    rw [sc1]
    split
    · rw [sc1_ng f, rightD_ng]
    · rfl
theorem sc2_ng : ∀ (f : Nat) (d : Dc) (e : Int), (sc2 f d e).1.ng = d.ng
  | 0, _, _ => rfl
  | f + 1, d, e => by
    rw [sc2]
    split
    · rw [sc2_ng f, leftD_ng]
    · rfl
theorem sc3_ng (d : Dc) (e : Int) : (sc3 d e).1.ng = d.ng := by
  unfold sc3
  split
  · exact shR_ng _ _
  · rfl
theorem fbM_ng (d : Dc) : (fbM d).2.ng = d.ng := by
  unfold fbM
  split
  · rfl
  · split
    · rfl
    · split
      · rfl
      · unfold fbRun
        split
        · show (sc3 _ _).1.ng = _
          rw [sc3_ng]
          unfold fbS
          rw [sc2_ng, sc1_ng]
        · show (shL _ _).ng = _
          rw [shL_ng, sc3_ng]
          unfold fbS
          rw [sc2_ng, sc1_ng]
set_option maxRecDepth 100000 in
set_option maxHeartbeats 20000000 in
theorem atof_ex (s : List UInt8) (k : Nat) (hs : NumS s k) (hl : s.length ≤ 900000000) : ∃ (n : Nat) (x : Bool), FnD Tryz.prog 77 [strT s] (.tup [f64T n, intT s.length, erT x]) ∧ (rfM s = ⟨15, 2, 2, 1, true, true, false⟩ → n = 4609434218613702656 ∧ x = false) := by
  have hsp := special_fn s k hs (by omega)
  have hrf := rf_fn s k hs (by omega)
  have hok := rf_ok hs s.length (Nat.le_refl _)
  rw [List.take_length] at hok
  have hok : RfOk k s.length (rfM s) := hok
  obtain ⟨z1, z2, z3, z4, z5, z6, -, -⟩ := hok
  have z19 : 10 ^ (rfM s).nm ≤ 10 ^ 19 := Nat.pow_le_pow_right (by decide) z1
  rw [pow19] at z19
  have hd : (rfM s).mant < 10000000000000000000 := by omega
  have hp1 : -1000000000 ≤ rfE (rfM s) ∧ rfE (rfM s) ≤ 1000000000 := by
    unfold rfE
    split <;> omega
  have h15 : rfM s = ⟨15, 2, 2, 1, true, true, false⟩ → (rfM s).mant = 15 ∧ rfE (rfM s) = -1 ∧ (rfM s).tr = false := fun h => by
    rw [h]; exact ⟨rfl, by decide, rfl⟩
  clear z1 z2 z3 z4 z5 z6 z19
  generalize hE : rfE (rfM s) = p at hrf hp1 h15
  generalize hM : (rfM s).mant = d at hrf hd h15
  generalize hT : (rfM s).tr = tr at hrf h15
  have hsg : IntKind.u64.wrap (0 * 2 ^ min (63 : Int).toNat IntKind.u64.bits) = 0 := by decide
  by_cases hd0 : d = 0
  · have hz : (((d : Nat) : Int) == 0) = true := by rw [beq_iff_eq]; omega
    have : ∃ n : Nat, FnD Tryz.prog 77 [strT s] (.tup [f64T n, intT s.length, erT false]) := ⟨_, by
      refine FnD.ofT (n := 143) [5023] fax_ok Tryz.func77 rfl rfl rfl (by rfl) (by kernel_rfl) (by intro _; rfl) fun Γ hA hbA => ?_
      (repeat ((conv => whnf); (first | refine exR ?_ | refine gd (enters_of Tryz.func91 rfl rfl) hsp ?_ | refine gd (enters_of Tryz.func92 rfl rfl) hrf ?_ | refine tF ?_)))
      refine gen_nil (t_opt rfl ag4) ?_
      (repeat ((conv => whnf); (first | with_reducible refine exE (α := Int) _ (by assumption) ?_ | refine exR ?_ | refine gd (enters_of Tryz.func100 rfl rfl) b2u_f ?_ | refine tT ?_ | refine zQ ?_)))
      refine gen_nil (t_frombits rfl rfl) ?_
      skip
      exact ⟨eN, rS, fiO⟩
      ⟩
    obtain ⟨n, hn⟩ := this
    exact ⟨n, false, hn, fun h => absurd (h15 h).1 (by omega)⟩
  have hz : (((d : Nat) : Int) == 0) = false := by rw [beq_eq_false_iff_ne]; omega
  by_cases hp2 : 310 < p
  · have : ∃ n : Nat, FnD Tryz.prog 77 [strT s] (.tup [f64T n, intT s.length, erT true]) := ⟨_, by
      refine FnD.ofT (n := 143) [5023] fax_ok Tryz.func77 rfl rfl rfl (by rfl) (by kernel_rfl) (by intro _; rfl) fun Γ hA hbA => ?_
      (repeat ((conv => whnf); (first | refine exR ?_ | refine gd (enters_of Tryz.func91 rfl rfl) hsp ?_ | refine gd (enters_of Tryz.func92 rfl rfl) hrf ?_ | refine tF ?_)))
      refine gen_nil (t_opt rfl ag4) ?_
      (repeat ((conv => whnf); (first | with_reducible refine exE (α := Int) _ (by assumption) ?_ | refine exR ?_ | refine gd (enters_of Tryz.func100 rfl rfl) b2u_f ?_ | refine tT ?_ | refine tF ?_ | refine zQ ?_)))
      refine gen_nil (t_frombits rfl rfl) ?_
      skip
      refine gen_nil (t_mki rfl rfl un_err (fun _ h => by cases h)) ?_
      skip
      exact ⟨eN, rS, fiO⟩
      ⟩
    obtain ⟨n, hn⟩ := this
    exact ⟨n, true, hn, fun h => absurd (h15 h).2.1 (by omega)⟩
  by_cases hp3 : p < -345
  · have : ∃ n : Nat, FnD Tryz.prog 77 [strT s] (.tup [f64T n, intT s.length, erT false]) := ⟨_, by
      refine FnD.ofT (n := 143) [5023] fax_ok Tryz.func77 rfl rfl rfl (by rfl) (by kernel_rfl) (by intro _; rfl) fun Γ hA hbA => ?_
      (repeat ((conv => whnf); (first | refine exR ?_ | refine gd (enters_of Tryz.func91 rfl rfl) hsp ?_ | refine gd (enters_of Tryz.func92 rfl rfl) hrf ?_ | refine tF ?_)))
      refine gen_nil (t_opt rfl ag4) ?_
      (repeat ((conv => whnf); (first | with_reducible refine exE (α := Int) _ (by assumption) ?_ | refine exR ?_ | refine gd (enters_of Tryz.func100 rfl rfl) b2u_f ?_ | refine tT ?_ | refine tF ?_ | refine zQ ?_)))
      refine gen_nil (t_frombits rfl rfl) ?_
      skip
      exact ⟨eN, rS, fiO⟩
      ⟩
    obtain ⟨n, hn⟩ := this
    exact ⟨n, false, hn, fun h => absurd (h15 h).2.1 (by omega)⟩
  obtain ⟨n1, x1, hpf⟩ := pf64_ex d p 0 (by omega) (by omega) (by omega)
  obtain ⟨n0, ok, hex, hx15⟩ := exact_fn d (by omega) p (by omega)
  cases tr with
  | false =>
    cases ok with
    | true =>
      refine ⟨n0, false, ?_, fun h => ⟨(hx15 (h15 h).1 (h15 h).2.1).1, rfl⟩⟩
      refine FnD.ofT (n := 143) [5023] fax_ok Tryz.func77 rfl rfl rfl (by rfl) (by kernel_rfl) (by intro _; rfl) fun Γ hA hbA => ?_
      (repeat ((conv => whnf); (first | refine exR ?_ | refine gd (enters_of Tryz.func91 rfl rfl) hsp ?_ | refine gd (enters_of Tryz.func92 rfl rfl) hrf ?_ | refine tF ?_)))
      refine gen_nil (t_opt rfl ag4) ?_
      (repeat ((conv => whnf); (first | with_reducible refine exE (α := Int) _ (by assumption) ?_ | refine exR ?_ | refine gd (enters_of Tryz.func100 rfl rfl) b2u_f ?_ | refine gd (enters_of Tryz.func102 rfl rfl) hex ?_ | refine tT ?_ | refine tF ?_ | refine zQ ?_)))
      exact ⟨eN, rS, fiO⟩
    | false =>
      have hno : rfM s = ⟨15, 2, 2, 1, true, true, false⟩ → False := fun h => by
        have := (hx15 (h15 h).1 (h15 h).2.1).2
        cases this
      cases x1 with
      | true =>
        refine ⟨n1, true, ?_, fun h => (hno h).elim⟩
        refine FnD.ofT (n := 143) [5023] fax_ok Tryz.func77 rfl rfl rfl (by rfl) (by kernel_rfl) (by intro _; rfl) fun Γ hA hbA => ?_
        (repeat ((conv => whnf); (first | refine exR ?_ | refine gd (enters_of Tryz.func91 rfl rfl) hsp ?_ | refine gd (enters_of Tryz.func92 rfl rfl) hrf ?_ | refine tF ?_)))
        refine gen_nil (t_opt rfl ag4) ?_
        (repeat ((conv => whnf); (first | with_reducible refine exE (α := Int) _ (by assumption) ?_ | refine exR ?_ | refine gd (enters_of Tryz.func100 rfl rfl) b2u_f ?_ | refine gd (enters_of Tryz.func102 rfl rfl) hex ?_ | refine gd (enters_of Tryz.func103 rfl rfl) hpf ?_ | refine tT ?_ | refine tF ?_ | refine zQ ?_)))
        exact ⟨eN, rS, fiO⟩
      | false =>
        refine ⟨n1, false, ?_, fun h => (hno h).elim⟩
        refine FnD.ofT (n := 143) [5023] fax_ok Tryz.func77 rfl rfl rfl (by rfl) (by kernel_rfl) (by intro _; rfl) fun Γ hA hbA => ?_
        (repeat ((conv => whnf); (first | refine exR ?_ | refine gd (enters_of Tryz.func91 rfl rfl) hsp ?_ | refine gd (enters_of Tryz.func92 rfl rfl) hrf ?_ | refine tF ?_)))
        refine gen_nil (t_opt rfl ag4) ?_
        (repeat ((conv => whnf); (first | with_reducible refine exE (α := Int) _ (by assumption) ?_ | refine exR ?_ | refine gd (enters_of Tryz.func100 rfl rfl) b2u_f ?_ | refine gd (enters_of Tryz.func102 rfl rfl) hex ?_ | refine gd (enters_of Tryz.func103 rfl rfl) hpf ?_ | refine tT ?_ | refine tF ?_ | refine zQ ?_)))
        exact ⟨eN, rS, fiO⟩
  | true =>
    have hno : rfM s = ⟨15, 2, 2, 1, true, true, false⟩ → False := fun h => by
      have := (h15 h).2.2
      cases this
    have hw1 : IntKind.u64.wrap ((d : Int) + 1) = ((d + 1 : Nat) : Int) := u_nat (by omega) (by omega)
    obtain ⟨n2, x2, hpf2⟩ := pf64_ex (d + 1) p 0 (by omega) (by omega) (by omega)
    obtain ⟨c, hc⟩ : ∃ c, (FloatKind.f64.format.order n1 n2 == some .eq) = c := ⟨_, rfl⟩
    have hst := st_ok hs s.length (Nat.le_refl _)
    rw [List.take_length] at hst
    have hset := st_fn s k hs (by omega)
    unfold stM at hset
    generalize s.foldl stS st0 = D1 at hst hset
    obtain ⟨l, m, q, g, t⟩ := D1
    obtain rfl : g = false := hst.ng
    have hset := hset _ _ _ _ rfl
    rw [show strT s = strT (s.take s.length) by rw [List.take_length]] at hset
    have hfb := fb_fn l m q t hst.ok
    have hbn := fbM_ng ⟨l, m, q, false, t⟩
    generalize fbM ⟨l, m, q, false, t⟩ = B at hfb hbn
    obtain ⟨⟨b, o⟩, ⟨l2, m2, q2, g2, t2⟩⟩ := B
    obtain rfl : g2 = false := hbn
    have hfb := fb_glob (hfb _ _ _ _ _ _ rfl)
    cases c with
    | true =>
      cases x1 with
      | true =>
        cases x2 with
        | true =>
          refine ⟨n1, true, ?_, fun h => (hno h).elim⟩
          refine FnD.ofT (n := 143) [5023] fax_ok Tryz.func77 rfl rfl rfl (by rfl) (by kernel_rfl) (by intro _; rfl) fun Γ hA hbA => ?_
          (repeat ((conv => whnf); (first | refine exR ?_ | refine gd (enters_of Tryz.func91 rfl rfl) hsp ?_ | refine gd (enters_of Tryz.func92 rfl rfl) hrf ?_ | refine tF ?_)))
          refine gen_nil (t_opt rfl ag4) ?_
          (repeat ((conv => whnf); (first | with_reducible refine exE (α := Int) _ (by assumption) ?_ | refine exR ?_ | refine gd (enters_of Tryz.func100 rfl rfl) b2u_f ?_ | refine gd (enters_of Tryz.func103 rfl rfl) hpf ?_ | refine gd (enters_of Tryz.func103 rfl rfl) hpf2 ?_ | refine tT ?_ | refine tF ?_ | refine zQ ?_)))
          exact ⟨eN, rS, fiO⟩
        | false =>
          refine ⟨n1, true, ?_, fun h => (hno h).elim⟩
          refine FnD.ofT (n := 143) [5023] fax_ok Tryz.func77 rfl rfl rfl (by rfl) (by kernel_rfl) (by intro _; rfl) fun Γ hA hbA => ?_
          (repeat ((conv => whnf); (first | refine exR ?_ | refine gd (enters_of Tryz.func91 rfl rfl) hsp ?_ | refine gd (enters_of Tryz.func92 rfl rfl) hrf ?_ | refine tF ?_)))
          refine gen_nil (t_opt rfl ag4) ?_
          (repeat ((conv => whnf); (first | with_reducible refine exE (α := Int) _ (by assumption) ?_ | refine exR ?_ | refine gd (enters_of Tryz.func100 rfl rfl) b2u_f ?_ | refine gd (enters_of Tryz.func103 rfl rfl) hpf ?_ | refine gd (enters_of Tryz.func103 rfl rfl) hpf2 ?_ | refine tT ?_ | refine tF ?_ | refine zQ ?_)))
          exact ⟨eN, rS, fiO⟩
      | false =>
        cases x2 with
        | true =>
          refine ⟨n1, false, ?_, fun h => (hno h).elim⟩
          refine FnD.ofT (n := 143) [5023] fax_ok Tryz.func77 rfl rfl rfl (by rfl) (by kernel_rfl) (by intro _; rfl) fun Γ hA hbA => ?_
          (repeat ((conv => whnf); (first | refine exR ?_ | refine gd (enters_of Tryz.func91 rfl rfl) hsp ?_ | refine gd (enters_of Tryz.func92 rfl rfl) hrf ?_ | refine tF ?_)))
          refine gen_nil (t_opt rfl ag4) ?_
          (repeat ((conv => whnf); (first | with_reducible refine exE (α := Int) _ (by assumption) ?_ | refine exR ?_ | refine gd (enters_of Tryz.func100 rfl rfl) b2u_f ?_ | refine gd (enters_of Tryz.func103 rfl rfl) hpf ?_ | refine gd (enters_of Tryz.func103 rfl rfl) hpf2 ?_ | refine tT ?_ | refine tF ?_ | refine zQ ?_)))
          exact ⟨eN, rS, fiO⟩
        | false =>
          refine ⟨n1, false, ?_, fun h => (hno h).elim⟩
          refine FnD.ofT (n := 143) [5023] fax_ok Tryz.func77 rfl rfl rfl (by rfl) (by kernel_rfl) (by intro _; rfl) fun Γ hA hbA => ?_
          (repeat ((conv => whnf); (first | refine exR ?_ | refine gd (enters_of Tryz.func91 rfl rfl) hsp ?_ | refine gd (enters_of Tryz.func92 rfl rfl) hrf ?_ | refine tF ?_)))
          refine gen_nil (t_opt rfl ag4) ?_
          (repeat ((conv => whnf); (first | with_reducible refine exE (α := Int) _ (by assumption) ?_ | refine exR ?_ | refine gd (enters_of Tryz.func100 rfl rfl) b2u_f ?_ | refine gd (enters_of Tryz.func103 rfl rfl) hpf ?_ | refine gd (enters_of Tryz.func103 rfl rfl) hpf2 ?_ | refine tT ?_ | refine tF ?_ | refine zQ ?_)))
          exact ⟨eN, rS, fiO⟩
    | false =>
      cases x1 with
      | true =>
        cases x2 with
        | true =>
          cases o with
          | true =>
            refine ⟨b.toNat, true, ?_, fun h => (hno h).elim⟩
            refine FnD.ofT (n := 143) [5023] fax_ok Tryz.func77 rfl rfl rfl (by rfl) (by kernel_rfl) (by intro _; rfl) fun Γ hA hbA => ?_
            (repeat ((conv => whnf); (first | refine exR ?_ | refine gd (enters_of Tryz.func91 rfl rfl) hsp ?_ | refine gd (enters_of Tryz.func92 rfl rfl) hrf ?_ | refine tF ?_)))
            refine gen_nil (t_opt rfl ag4) ?_
            (repeat ((conv => whnf); (first | with_reducible refine exE (α := Int) _ (by assumption) ?_ | refine exR ?_ | refine gd (enters_of Tryz.func100 rfl rfl) b2u_f ?_ | refine gd (enters_of Tryz.func103 rfl rfl) hpf ?_ | refine gd (enters_of Tryz.func103 rfl rfl) hpf2 ?_ | refine tT ?_ | refine tF ?_ | refine zQ ?_)))
            refine gen_one (t_dec (c := 23) rfl) rfl ?_
            (repeat ((conv => whnf); (first | refine exR ?_ | refine gO [(1000, 23)] (enters_of Tryz.func98 rfl rfl) hset ?_ | refine gO [(1000, 23)] (enters_of Tryz.func99 rfl rfl) hfb ?_ | refine tF ?_ | refine nA _ rfl ?_)))
            refine gen_nil (t_frombits rfl rfl) ?_
            (repeat ((conv => whnf); refine tT ?_))
            refine gen_nil (t_mki rfl rfl un_err (fun _ h => by cases h)) ?_
            skip
            exact ⟨eN, rS, fiO⟩
          | false =>
            refine ⟨b.toNat, false, ?_, fun h => (hno h).elim⟩
            refine FnD.ofT (n := 143) [5023] fax_ok Tryz.func77 rfl rfl rfl (by rfl) (by kernel_rfl) (by intro _; rfl) fun Γ hA hbA => ?_
            (repeat ((conv => whnf); (first | refine exR ?_ | refine gd (enters_of Tryz.func91 rfl rfl) hsp ?_ | refine gd (enters_of Tryz.func92 rfl rfl) hrf ?_ | refine tF ?_)))
            refine gen_nil (t_opt rfl ag4) ?_
            (repeat ((conv => whnf); (first | with_reducible refine exE (α := Int) _ (by assumption) ?_ | refine exR ?_ | refine gd (enters_of Tryz.func100 rfl rfl) b2u_f ?_ | refine gd (enters_of Tryz.func103 rfl rfl) hpf ?_ | refine gd (enters_of Tryz.func103 rfl rfl) hpf2 ?_ | refine tT ?_ | refine tF ?_ | refine zQ ?_)))
            refine gen_one (t_dec (c := 23) rfl) rfl ?_
            (repeat ((conv => whnf); (first | refine exR ?_ | refine gO [(1000, 23)] (enters_of Tryz.func98 rfl rfl) hset ?_ | refine gO [(1000, 23)] (enters_of Tryz.func99 rfl rfl) hfb ?_ | refine tF ?_ | refine nA _ rfl ?_)))
            refine gen_nil (t_frombits rfl rfl) ?_
            (repeat ((conv => whnf); refine tF ?_))
            exact ⟨eN, rS, fiO⟩
        | false =>
          cases o with
          | true =>
            refine ⟨b.toNat, true, ?_, fun h => (hno h).elim⟩
            refine FnD.ofT (n := 143) [5023] fax_ok Tryz.func77 rfl rfl rfl (by rfl) (by kernel_rfl) (by intro _; rfl) fun Γ hA hbA => ?_
            (repeat ((conv => whnf); (first | refine exR ?_ | refine gd (enters_of Tryz.func91 rfl rfl) hsp ?_ | refine gd (enters_of Tryz.func92 rfl rfl) hrf ?_ | refine tF ?_)))
            refine gen_nil (t_opt rfl ag4) ?_
            (repeat ((conv => whnf); (first | with_reducible refine exE (α := Int) _ (by assumption) ?_ | refine exR ?_ | refine gd (enters_of Tryz.func100 rfl rfl) b2u_f ?_ | refine gd (enters_of Tryz.func103 rfl rfl) hpf ?_ | refine gd (enters_of Tryz.func103 rfl rfl) hpf2 ?_ | refine tT ?_ | refine tF ?_ | refine zQ ?_)))
            refine gen_one (t_dec (c := 23) rfl) rfl ?_
            (repeat ((conv => whnf); (first | refine exR ?_ | refine gO [(1000, 23)] (enters_of Tryz.func98 rfl rfl) hset ?_ | refine gO [(1000, 23)] (enters_of Tryz.func99 rfl rfl) hfb ?_ | refine tF ?_ | refine nA _ rfl ?_)))
            refine gen_nil (t_frombits rfl rfl) ?_
            (repeat ((conv => whnf); refine tT ?_))
            refine gen_nil (t_mki rfl rfl un_err (fun _ h => by cases h)) ?_
            skip
            exact ⟨eN, rS, fiO⟩
          | false =>
            refine ⟨b.toNat, false, ?_, fun h => (hno h).elim⟩
            refine FnD.ofT (n := 143) [5023] fax_ok Tryz.func77 rfl rfl rfl (by rfl) (by kernel_rfl) (by intro _; rfl) fun Γ hA hbA => ?_
            (repeat ((conv => whnf); (first | refine exR ?_ | refine gd (enters_of Tryz.func91 rfl rfl) hsp ?_ | refine gd (enters_of Tryz.func92 rfl rfl) hrf ?_ | refine tF ?_)))
            refine gen_nil (t_opt rfl ag4) ?_
            (repeat ((conv => whnf); (first | with_reducible refine exE (α := Int) _ (by assumption) ?_ | refine exR ?_ | refine gd (enters_of Tryz.func100 rfl rfl) b2u_f ?_ | refine gd (enters_of Tryz.func103 rfl rfl) hpf ?_ | refine gd (enters_of Tryz.func103 rfl rfl) hpf2 ?_ | refine tT ?_ | refine tF ?_ | refine zQ ?_)))
            refine gen_one (t_dec (c := 23) rfl) rfl ?_
            (repeat ((conv => whnf); (first | refine exR ?_ | refine gO [(1000, 23)] (enters_of Tryz.func98 rfl rfl) hset ?_ | refine gO [(1000, 23)] (enters_of Tryz.func99 rfl rfl) hfb ?_ | refine tF ?_ | refine nA _ rfl ?_)))
            refine gen_nil (t_frombits rfl rfl) ?_
            (repeat ((conv => whnf); refine tF ?_))
            exact ⟨eN, rS, fiO⟩
      | false =>
        cases x2 with
        | true =>
          cases o with
          | true =>
            refine ⟨b.toNat, true, ?_, fun h => (hno h).elim⟩
            refine FnD.ofT (n := 143) [5023] fax_ok Tryz.func77 rfl rfl rfl (by rfl) (by kernel_rfl) (by intro _; rfl) fun Γ hA hbA => ?_
            (repeat ((conv => whnf); (first | refine exR ?_ | refine gd (enters_of Tryz.func91 rfl rfl) hsp ?_ | refine gd (enters_of Tryz.func92 rfl rfl) hrf ?_ | refine tF ?_)))
            refine gen_nil (t_opt rfl ag4) ?_
            (repeat ((conv => whnf); (first | with_reducible refine exE (α := Int) _ (by assumption) ?_ | refine exR ?_ | refine gd (enters_of Tryz.func100 rfl rfl) b2u_f ?_ | refine gd (enters_of Tryz.func103 rfl rfl) hpf ?_ | refine gd (enters_of Tryz.func103 rfl rfl) hpf2 ?_ | refine tT ?_ | refine tF ?_ | refine zQ ?_)))
            refine gen_one (t_dec (c := 23) rfl) rfl ?_
            (repeat ((conv => whnf); (first | refine exR ?_ | refine gO [(1000, 23)] (enters_of Tryz.func98 rfl rfl) hset ?_ | refine gO [(1000, 23)] (enters_of Tryz.func99 rfl rfl) hfb ?_ | refine tF ?_ | refine nA _ rfl ?_)))
            refine gen_nil (t_frombits rfl rfl) ?_
            (repeat ((conv => whnf); refine tT ?_))
            refine gen_nil (t_mki rfl rfl un_err (fun _ h => by cases h)) ?_
            skip
            exact ⟨eN, rS, fiO⟩
          | false =>
            refine ⟨b.toNat, false, ?_, fun h => (hno h).elim⟩
            refine FnD.ofT (n := 143) [5023] fax_ok Tryz.func77 rfl rfl rfl (by rfl) (by kernel_rfl) (by intro _; rfl) fun Γ hA hbA => ?_
            (repeat ((conv => whnf); (first | refine exR ?_ | refine gd (enters_of Tryz.func91 rfl rfl) hsp ?_ | refine gd (enters_of Tryz.func92 rfl rfl) hrf ?_ | refine tF ?_)))
            refine gen_nil (t_opt rfl ag4) ?_
            (repeat ((conv => whnf); (first | with_reducible refine exE (α := Int) _ (by assumption) ?_ | refine exR ?_ | refine gd (enters_of Tryz.func100 rfl rfl) b2u_f ?_ | refine gd (enters_of Tryz.func103 rfl rfl) hpf ?_ | refine gd (enters_of Tryz.func103 rfl rfl) hpf2 ?_ | refine tT ?_ | refine tF ?_ | refine zQ ?_)))
            refine gen_one (t_dec (c := 23) rfl) rfl ?_
            (repeat ((conv => whnf); (first | refine exR ?_ | refine gO [(1000, 23)] (enters_of Tryz.func98 rfl rfl) hset ?_ | refine gO [(1000, 23)] (enters_of Tryz.func99 rfl rfl) hfb ?_ | refine tF ?_ | refine nA _ rfl ?_)))
            refine gen_nil (t_frombits rfl rfl) ?_
            (repeat ((conv => whnf); refine tF ?_))
            exact ⟨eN, rS, fiO⟩
        | false =>
          cases o with
          | true =>
            refine ⟨b.toNat, true, ?_, fun h => (hno h).elim⟩
            refine FnD.ofT (n := 143) [5023] fax_ok Tryz.func77 rfl rfl rfl (by rfl) (by kernel_rfl) (by intro _; rfl) fun Γ hA hbA => ?_
            (repeat ((conv => whnf); (first | refine exR ?_ | refine gd (enters_of Tryz.func91 rfl rfl) hsp ?_ | refine gd (enters_of Tryz.func92 rfl rfl) hrf ?_ | refine tF ?_)))
            refine gen_nil (t_opt rfl ag4) ?_
            (repeat ((conv => whnf); (first | with_reducible refine exE (α := Int) _ (by assumption) ?_ | refine exR ?_ | refine gd (enters_of Tryz.func100 rfl rfl) b2u_f ?_ | refine gd (enters_of Tryz.func103 rfl rfl) hpf ?_ | refine gd (enters_of Tryz.func103 rfl rfl) hpf2 ?_ | refine tT ?_ | refine tF ?_ | refine zQ ?_)))
            refine gen_one (t_dec (c := 23) rfl) rfl ?_
            (repeat ((conv => whnf); (first | refine exR ?_ | refine gO [(1000, 23)] (enters_of Tryz.func98 rfl rfl) hset ?_ | refine gO [(1000, 23)] (enters_of Tryz.func99 rfl rfl) hfb ?_ | refine tF ?_ | refine nA _ rfl ?_)))
            refine gen_nil (t_frombits rfl rfl) ?_
            (repeat ((conv => whnf); refine tT ?_))
            refine gen_nil (t_mki rfl rfl un_err (fun _ h => by cases h)) ?_
            skip
            exact ⟨eN, rS, fiO⟩
          | false =>
            refine ⟨b.toNat, false, ?_, fun h => (hno h).elim⟩
            refine FnD.ofT (n := 143) [5023] fax_ok Tryz.func77 rfl rfl rfl (by rfl) (by kernel_rfl) (by intro _; rfl) fun Γ hA hbA => ?_
            (repeat ((conv => whnf); (first | refine exR ?_ | refine gd (enters_of Tryz.func91 rfl rfl) hsp ?_ | refine gd (enters_of Tryz.func92 rfl rfl) hrf ?_ | refine tF ?_)))
            refine gen_nil (t_opt rfl ag4) ?_
            (repeat ((conv => whnf); (first | with_reducible refine exE (α := Int) _ (by assumption) ?_ | refine exR ?_ | refine gd (enters_of Tryz.func100 rfl rfl) b2u_f ?_ | refine gd (enters_of Tryz.func103 rfl rfl) hpf ?_ | refine gd (enters_of Tryz.func103 rfl rfl) hpf2 ?_ | refine tT ?_ | refine tF ?_ | refine zQ ?_)))
            refine gen_one (t_dec (c := 23) rfl) rfl ?_
            (repeat ((conv => whnf); (first | refine exR ?_ | refine gO [(1000, 23)] (enters_of Tryz.func98 rfl rfl) hset ?_ | refine gO [(1000, 23)] (enters_of Tryz.func99 rfl rfl) hfb ?_ | refine tF ?_ | refine nA _ rfl ?_)))
            refine gen_nil (t_frombits rfl rfl) ?_
            (repeat ((conv => whnf); refine tF ?_))
            exact ⟨eN, rS, fiO⟩
end Go.Proofs.YtngklbnodknadaaGreatDoor
end

section
namespace Go.Proofs.YtngklbnodknadaaGreatDoor
open Go.RowKit

set_option maxHeartbeats 4000000 in
theorem pfi_ex (s : List UInt8) (k : Nat) (hs : NumS s k) (hl : s.length ≤ 900000000) : ∃ (n : Nat) (x : Bool), FnD Tryz.prog 48 [strT s, intT 64] (.tup [f64T n, erT x]) ∧ (rfM s = ⟨15, 2, 2, 1, true, true, false⟩ → n = 4609434218613702656 ∧ x = false) := by
  obtain ⟨n, x, h, h15⟩ := atof_ex s k hs hl
  refine ⟨n, x, ?_, h15⟩
  have hp : FnD Tryz.prog 61 [strT s, intT 64] (.tup [f64T n, intT s.length, erT x]) := by
    clear h15
    cases x with
    | true =>
      refine FnD.ofT (n := 27) [] fax_ok Tryz.func61 rfl rfl rfl (by rfl) (by kernel_rfl) (by intro _; rfl) fun Γ hA hbA => ?_
      (repeat ((conv => whnf); (first | refine exR ?_ | refine gd (enters_of Tryz.func77 rfl rfl) h ?_ | refine tF ?_)))
      exact ⟨eN, rS, fiO⟩
    | false =>
      refine FnD.ofT (n := 27) [] fax_ok Tryz.func61 rfl rfl rfl (by rfl) (by kernel_rfl) (by intro _; rfl) fun Γ hA hbA => ?_
      (repeat ((conv => whnf); (first | refine exR ?_ | refine gd (enters_of Tryz.func77 rfl rfl) h ?_ | refine tF ?_)))
      exact ⟨eN, rS, fiO⟩
  have hne : ((s.length : Int) != (s.length : Int)) = false := by simp
  clear h15 h
  cases x with
  | true =>
    refine FnD.ofT (n := 23) [] fax_ok Tryz.func48 rfl rfl rfl (by rfl) (by kernel_rfl) (by intro _; rfl) fun Γ hA hbA => ?_
    (repeat ((conv => whnf); (first | refine exR ?_ | refine gd (enters_of Tryz.func61 rfl rfl) hp ?_ | refine tF ?_)))
    exact ⟨eN, rS, fiO⟩
  | false =>
    refine FnD.ofT (n := 23) [] fax_ok Tryz.func48 rfl rfl rfl (by rfl) (by kernel_rfl) (by intro _; rfl) fun Γ hA hbA => ?_
    (repeat ((conv => whnf); (first | refine exR ?_ | refine gd (enters_of Tryz.func61 rfl rfl) hp ?_ | refine tF ?_)))
    exact ⟨eN, rS, fiO⟩
end Go.Proofs.YtngklbnodknadaaGreatDoor
end
