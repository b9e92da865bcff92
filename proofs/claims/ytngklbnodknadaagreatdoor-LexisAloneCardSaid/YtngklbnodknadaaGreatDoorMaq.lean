/-
  Fb, Pg, Pi, Pj, Fl, in one.
-/
import Derived.Test.YtngklbnodknadaaGreatDoorMal
import Derived.Test.YtngklbnodknadaaGreatDoorMap
import Derived.Test.YtngklbnodknadaaGreatDoorMao
import Ieee.Arith
section
namespace Go.Proofs.YtngklbnodknadaaGreatDoor
open Go.RowKit

def infoD : List D := [.v (.int .u64 52), .v (.int .u64 11), .v (.int .i64 (-1023))]
/-- Mantissa and exponent as a word. -/
def fbB (mant ex : Int) : Int :=
  IntKind.u64.wrap (BitVec.ofInt IntKind.u64.bits (IntKind.u64.wrap (BitVec.ofInt IntKind.u64.bits mant &&& BitVec.ofInt IntKind.u64.bits 4503599627370495).toNat) ||| BitVec.ofInt IntKind.u64.bits (IntKind.u64.wrap (IntKind.u64.wrap (IntKind.i64.wrap (BitVec.ofInt IntKind.i64.bits (ex + 1023) &&& BitVec.ofInt IntKind.i64.bits 2047).toNat) * 2 ^ min (52 : Int).toNat IntKind.u64.bits))).toNat
def denB (m : Int) : Bool := IntKind.u64.wrap (BitVec.ofInt IntKind.u64.bits m &&& BitVec.ofInt IntKind.u64.bits 4503599627370496).toNat == 0
def fbDen (m e : Int) : Int × Bool := (fbB m (if denB m = true then -1023 else e), false)
def fbEnd (m e : Int) : Int × Bool := if m = 9007199254740992 then (if 1023 ≤ e then (fbB 0 1024, true) else fbDen (m.fdiv (2 ^ min (1 : Int).toNat IntKind.u64.bits)) (e + 1)) else fbDen m e
def fbRun (d : Dc) (e : Int) : (Int × Bool) × Dc := if 1024 ≤ e then ((fbB 0 1024, true), d) else (fbEnd (riM (shL d 53).a (shL d 53).nd (shL d 53).dp (shL d 53).tr) e, shL d 53)
def fbS (d : Dc) : Dc × Int := sc2 4000 (sc1 700 d 0).1 (sc1 700 d 0).2
def fbM (d : Dc) : (Int × Bool) × Dc :=
  if d.nd = 0 then ((fbB 0 (-1023), false), d) else if 310 < d.dp then ((fbB 0 1024, true), d) else if d.dp < -330 then ((fbB 0 (-1023), false), d) else fbRun (sc3 (fbS d).1 (fbS d).2).1 (sc3 (fbS d).1 (fbS d).2).2
theorem fbEnd_leaf {mm e3 b : Int} {o : Bool} (h : fbEnd mm e3 = (b, o)) :
    ((mm == 9007199254740992) = true ∧ 1023 ≤ e3 ∧ fbB 0 1024 = b ∧ true = o) ∨
    ((mm == 9007199254740992) = true ∧ ¬ 1023 ≤ e3 ∧ (IntKind.u64.wrap (BitVec.ofInt IntKind.u64.bits (mm.fdiv (2 ^ min (1 : Int).toNat IntKind.u64.bits)) &&& BitVec.ofInt IntKind.u64.bits 4503599627370496).toNat == 0) = true ∧ fbB (mm.fdiv (2 ^ min (1 : Int).toNat IntKind.u64.bits)) (-1023) = b ∧ false = o) ∨
    ((mm == 9007199254740992) = true ∧ ¬ 1023 ≤ e3 ∧ (IntKind.u64.wrap (BitVec.ofInt IntKind.u64.bits (mm.fdiv (2 ^ min (1 : Int).toNat IntKind.u64.bits)) &&& BitVec.ofInt IntKind.u64.bits 4503599627370496).toNat == 0) = false ∧ fbB (mm.fdiv (2 ^ min (1 : Int).toNat IntKind.u64.bits)) (e3 + 1) = b ∧ false = o) ∨
    ((mm == 9007199254740992) = false ∧ (IntKind.u64.wrap (BitVec.ofInt IntKind.u64.bits mm &&& BitVec.ofInt IntKind.u64.bits 4503599627370496).toNat == 0) = true ∧ fbB mm (-1023) = b ∧ false = o) ∨
    ((mm == 9007199254740992) = false ∧ (IntKind.u64.wrap (BitVec.ofInt IntKind.u64.bits mm &&& BitVec.ofInt IntKind.u64.bits 4503599627370496).toNat == 0) = false ∧ fbB mm e3 = b ∧ false = o) := by
  unfold fbEnd at h
  by_cases h1 : mm = 9007199254740992
  · have e1 : (mm == 9007199254740992) = true := beq_iff_eq.2 h1
    rw [if_pos h1] at h
    by_cases h2 : 1023 ≤ e3
    · rw [if_pos h2] at h
      injection h with q1 q2
      exact .inl ⟨e1, h2, q1, q2⟩
    · rw [if_neg h2] at h
      unfold fbDen denB at h
      generalize hc : (IntKind.u64.wrap (BitVec.ofInt IntKind.u64.bits (mm.fdiv (2 ^ min (1 : Int).toNat IntKind.u64.bits)) &&& BitVec.ofInt IntKind.u64.bits 4503599627370496).toNat == 0) = c at h
      injection h with q1 q2
      cases c with
      | true => exact .inr (.inl ⟨e1, h2, rfl, by simpa using q1, q2⟩)
      | false => exact .inr (.inr (.inl ⟨e1, h2, rfl, by simpa using q1, q2⟩))
  · have e1 : (mm == 9007199254740992) = false := beq_eq_false_iff_ne.2 h1
    rw [if_neg h1] at h
    unfold fbDen denB at h
    generalize hc : (IntKind.u64.wrap (BitVec.ofInt IntKind.u64.bits mm &&& BitVec.ofInt IntKind.u64.bits 4503599627370496).toNat == 0) = c at h
    injection h with q1 q2
    cases c with
    | true => exact .inr (.inr (.inr (.inl ⟨e1, rfl, by simpa using q1, q2⟩)))
    | false => exact .inr (.inr (.inr (.inr ⟨e1, rfl, by simpa using q1, q2⟩)))
theorem powL_len : powL.length = 9 := rfl
theorem powL_get : ∀ {q : Nat}, q < 9 → powL[q]? = some (.v (.int .i64 ((pw q : Nat) : Int)))
  | 0, _ => rfl
  | 1, _ => rfl
  | 2, _ => rfl
  | 3, _ => rfl
  | 4, _ => rfl
  | 5, _ => rfl
  | 6, _ => rfl
  | 7, _ => rfl
  | 8, _ => rfl
  | n + 9, h => absurd h (by omega)
theorem t_pow {o : Oper} {σ : Nat → T} {t : TypeId} {kk : Nat} (ho : o.op = .load t (.global 10)) (ht : aggOf? Tryz.prog t = some (false, kk)) : Tri Tryz.prog o σ [] (.d (.sl 1 powL)) [] := by
  have hp : (10, 9, powV) ∈ stabs := by
    unfold stabs
    exact List.mem_cons_of_mem _ List.mem_cons_self
  have hl : powL.length = ((10, 9, powV) : Nat × Nat × List Value).2.1 := powL_len
  have hr : ∀ S, RepLv S 1 powL ((10, 9, powV) : Nat × Nat × List Value).2.2 := powL_rep
  exact t_stab _ ho ht hp hr hl
theorem dig5 {b : UInt8} (h : isDg b) : decide ((b.toNat : Int) < 53) = decide (dig b < 5) := by
  unfold isDg at h
  unfold dig
  by_cases q : (b.toNat : Int) < 53
  · rw [decide_eq_true q, decide_eq_true (by omega)]
  · rw [decide_eq_false q, decide_eq_false (by omega)]
theorem pwle (q : Nat) : (pw q : Int) ≤ 27 ∧ 1 ≤ (pw q : Int) := by have := pw_ok q; omega
set_option maxHeartbeats 40000000 in
set_option maxRecDepth 100000 in
theorem fb_fn (a : List UInt8) (nd : Nat) (dp : Int) (tr : Bool) (hok : (Dc.mk a nd dp false tr).Ok) (b : Int) (o : Bool) (a' : List UInt8) (nd' : Nat) (dp' : Int) (tr' : Bool) (hr : fbM ⟨a, nd, dp, false, tr⟩ = ((b, o), ⟨a', nd', dp', false, tr'⟩)) :
    FnO Tryz.prog 99 [.ref 1000 0, .pi infoD] [(1000, decO a nd dp false tr)] (.tup [.d (.v (.int .u64 b)), boolT o]) [(1000, decO a' nd' dp' false tr')] := by
  have c1 : IntKind.u64.wrap (1 * 2 ^ min (52 : Int).toNat IntKind.u64.bits) = 4503599627370496 := by decide
  have c2 : IntKind.u64.wrap (2 * 2 ^ min (52 : Int).toNat IntKind.u64.bits) = 9007199254740992 := by decide
  have c3 : IntKind.i64.wrap (1 * 2 ^ min (11 : Int).toNat IntKind.i64.bits) = 2048 := by decide
  have c4 : IntKind.i64.wrap (2048 - 1) = 2047 := by decide
  have c5 : IntKind.u64.wrap (4503599627370496 - 1) = 4503599627370495 := by decide
  have c6 : IntKind.u64.wrap (1 + 52) = 53 := by decide
  have c7 : IntKind.i64.wrap (-1023 + 1) = -1022 := by decide
  have c8 : IntKind.i64.wrap (2047 + -1023) = 1024 := by decide
  have c9 : IntKind.i64.wrap (-1023 - -1023) = -1023 + 1023 := by decide
  have c10 : IntKind.i64.wrap (1024 - -1023) = 1024 + 1023 := by decide
  have hn8 := hok.nd
  have ha := hok.len
  unfold fbM at hr
  dsimp only at hr hn8 ha
  by_cases hn : nd = 0
  · rw [if_pos hn] at hr
    injection hr with q1 q2
    injection q1 with q1 q3
    injection q2 with e1 e2 e3 e4 e5
    subst q1 q3 e1 e2 e3 e5
    have hz : (((nd : Nat) : Int) == 0) = true := by rw [beq_iff_eq]; omega
    refine FnO.ofT (n := 243) [] fax_ok Tryz.func99 rfl rfl rfl (by rfl) (by rfl) (by kernel_rfl) fun Γ hA hbA hbO => ?_
    (repeat ((conv => whnf); (first | refine exR ?_ | refine tT ?_ | refine lL ?_)))
    refine ev_jump [] fax_ok hA _ rfl (by kernel_rfl) ?_
    (repeat ((conv => whnf); (first | with_reducible refine exE (α := Int) _ (by assumption) ?_ | refine exR ?_ | refine tF ?_ | refine oB ?_ | refine lL ?_ | refine zQ ?_)))
    exact ⟨eN, rS, fiO⟩
  rw [if_neg hn] at hr
  have hz : (((nd : Nat) : Int) == 0) = false := by rw [beq_eq_false_iff_ne]; omega
  by_cases hd : 310 < dp
  · rw [if_pos hd] at hr
    injection hr with q1 q2
    injection q1 with q1 q3
    injection q2 with e1 e2 e3 e4 e5
    subst q1 q3 e1 e2 e3 e5
    refine FnO.ofT (n := 243) [] fax_ok Tryz.func99 rfl rfl rfl (by rfl) (by rfl) (by kernel_rfl) fun Γ hA hbA hbO => ?_
    (repeat ((conv => whnf); (first | refine exR ?_ | refine tT ?_ | refine tF ?_ | refine lL ?_)))
    refine ev_jump [] fax_ok hA _ rfl (by kernel_rfl) ?_
    (repeat ((conv => whnf); (first | with_reducible refine exE (α := Int) _ (by assumption) ?_ | refine exR ?_ | refine tF ?_ | refine oB ?_ | refine lL ?_ | refine zQ ?_)))
    exact ⟨eN, rS, fiO⟩
  rw [if_neg hd] at hr
  by_cases hl : dp < -330
  · rw [if_pos hl] at hr
    injection hr with q1 q2
    injection q1 with q1 q3
    injection q2 with e1 e2 e3 e4 e5
    subst q1 q3 e1 e2 e3 e5
    refine FnO.ofT (n := 243) [] fax_ok Tryz.func99 rfl rfl rfl (by rfl) (by rfl) (by kernel_rfl) fun Γ hA hbA hbO => ?_
    (repeat ((conv => whnf); (first | refine exR ?_ | refine tT ?_ | refine tF ?_ | refine lL ?_)))
    refine ev_jump [] fax_ok hA _ rfl (by kernel_rfl) ?_
    (repeat ((conv => whnf); (first | with_reducible refine exE (α := Int) _ (by assumption) ?_ | refine exR ?_ | refine tF ?_ | refine oB ?_ | refine lL ?_ | refine zQ ?_)))
    exact ⟨eN, rS, fiO⟩
  rw [if_neg hl] at hr
  unfold fbS at hr
  have hs0 : St1 ⟨a, nd, dp, false, tr⟩ ⟨a, nd, dp, false, tr⟩ 0 := by
    have := mu1_le (d := ⟨a, nd, dp, false, tr⟩) (by dsimp only; omega)
    exact ⟨hok, by dsimp only; omega, rfl, Int.le_refl _, by omega, by dsimp only; omega, by dsimp only; omega⟩
  have hm0 : mu1 ⟨a, nd, dp, false, tr⟩ < 700 := by
    have := mu1_le (d := ⟨a, nd, dp, false, tr⟩) (by dsimp only; omega)
    omega
  generalize hR1 : sc1 700 ⟨a, nd, dp, false, tr⟩ 0 = R1 at hr
  generalize hR2 : sc2 4000 R1.1 R1.2 = R2 at hr
  have ht : aggOf? Tryz.prog 158 = some (false, 1) := ag158
  refine FnO.ofT (n := 243) [] fax_ok Tryz.func99 rfl rfl rfl (by rfl) (by rfl) (by kernel_rfl) fun Γ hA hbA hbO => ?_
  (repeat ((conv => whnf); (first | refine exR ?_ | refine tF ?_ | refine lL ?_)))
  clear hok
  refine ev_loopX [] fax_ok hA (by kernel_rfl) (fun s : Nat × Dc × Int => St1 ⟨a, nd, dp, false, tr⟩ s.2.1 s.2.2 ∧ mu1 s.2.1 < s.1 ∧ sc1 s.1 s.2.1 s.2.2 = R1) (fun s => [(0, .ref 1000 0), (1, .pi infoD), (5, boolT false), (6, intT s.2.2)]) (fun s => [(1000, decO s.2.1.a s.2.1.nd s.2.1.dp false s.2.1.tr)]) (fun s => mu1 s.2.1) 0 (fun s => ¬ 0 < s.2.1.dp) (fun s => [(0, .ref 1000 0), (1, .pi infoD), (5, boolT false), (6, intT s.2.2)]) (fun s => [(1000, decO s.2.1.a s.2.1.nd s.2.1.dp false s.2.1.tr)]) (700, ⟨a, nd, dp, false, tr⟩, 0) ⟨hs0, hm0, hR1⟩ fiE fiO ?_ ?_
  · rintro ⟨f, ⟨l, m, p, g, t⟩, e⟩ ⟨hs, hm, hR⟩ - hbO2
    dsimp only at hm hR ⊢
    obtain rfl : g = false := hs.ng
    clear hR1 hs0 hm0
    have hs1 := hs.lo
    have hs2 := hs.hi
    have hs3 := hs.dp
    have hs4 := hs.dl
    have hs5 := hs.nd
    have hs6 := hs.ok
    have ha2 := hs.ok.len
    dsimp only at hs1 hs2 hs3 hs4 hs5 hs6 ha2
    by_cases hp : 0 < p
    · obtain ⟨f, rfl⟩ : ∃ f', f = f' + 1 := ⟨f - 1, by omega⟩
      rw [sc1, if_pos hp] at hR
      obtain ⟨n1, n2⟩ := hs.next hp
      dsimp only at hR n1 n2
      obtain ⟨q, rfl⟩ : ∃ q : Nat, p = (q : Int) := ⟨p.toNat, by omega⟩
      rw [Int.toNat_natCast] at hR n1 n2
      obtain ⟨l1, m1, p1, t1, er⟩ := dc_right (a := l) (nd := m) (dp := (q : Int)) (ng := false) (tr := t) (pw q)
      have hpw := pwle q
      have hf := shr_fn l m q false t (pw q) hs6 hs5 (by omega) (by omega) (by omega) l1 m1 p1 t1 ((shR_le (by omega)).trans er)
      rw [er] at hR n1 n2
      have hw1 : IntKind.i64.wrap (0 - ((pw q : Nat) : Int)) = -((pw q : Nat) : Int) := by rw [show (0 : Int) - ((pw q : Nat) : Int) = -((pw q : Nat) : Int) by omega]; exact wrap_in (by omega) (by omega)
      have hw2 : IntKind.i64.wrap (e + ((pw q : Nat) : Int)) = e + ((pw q : Nat) : Int) := wrap_in (by omega) (by omega)
      have hlen : powL.length = 9 := powL_len
      by_cases h9 : 9 ≤ q
      · have e27 : pw q = 27 := by unfold pw; rw [if_pos h9]
        rw [e27] at hf hw1 hw2 hR n1
        (repeat ((conv => whnf); (first | refine exR ?_ | refine tT ?_ | refine lL ?_)))
        refine gen_nil (t_pow rfl ht) ?_
        (repeat ((conv => whnf); (first | with_reducible refine exE _ (wrap_in (by omega) (by omega)) ?_ | refine exR ?_ | refine gO [(1000, 1000)] (enters_of Tryz.func125 rfl rfl) hf ?_ | refine tT ?_ | refine oB ?_)))
        exact ⟨(f, ⟨l1, m1, p1, false, t1⟩, e + 27), ⟨n1, by dsimp only; omega, hR⟩, n2, fiE, fiO⟩
      · have hg := powL_get (q := q) (by omega)
        generalize pw q = k at *
        (repeat ((conv => whnf); (first | refine exR ?_ | refine tT ?_ | refine lL ?_)))
        refine gen_nil (t_pow rfl ht) ?_
        (repeat ((conv => whnf); (first | refine exR ?_ | refine tF ?_ | refine oB ?_)))
        refine gen_nil (t_pow rfl ht) ?_
        (repeat ((conv => whnf); (first | with_reducible refine exE (α := Int) _ (by assumption) ?_ | refine gO [(1000, 1000)] (enters_of Tryz.func125 rfl rfl) hf ?_ | refine oB ?_ | refine lL ?_ | refine exI _ rfl (by assumption) ?_)))
        exact ⟨(f, ⟨l1, m1, p1, false, t1⟩, e + (k : Int)), ⟨n1, by dsimp only; omega, hR⟩, n2, fiE, fiO⟩
    · skip
      (repeat ((conv => whnf); (first | refine exR ?_ | refine tF ?_ | refine And.intro rfl ?_ | refine lL ?_)))
      exact ⟨(f, ⟨l, m, p, false, t⟩, e), ⟨hs, hm, hR⟩, hp, fiE, fiO⟩
  rintro ⟨f, ⟨l, m, p, g, t⟩, e⟩ ⟨hs, -, hR⟩ hp
  dsimp only at hR hp ⊢
  rw [sc1_end hp] at hR
  have hg : g = false := hs.ng
  subst hg
  subst hR
  have hs2 := hs.two hp
  have ha2 := hs.ok.len
  have hm2 : mu2 ⟨l, m, p, false, t⟩ < 4000 := by
    have hdl := hs.dl
    have := mu2_le (d := ⟨l, m, p, false, t⟩) hdl
    omega
  dsimp only at ha2 hR2
  clear hR1 hs0 hm0 hp hs ha hn hd hl hz hn8
  skip
  refine ev_loopX [] fax_ok hA (by kernel_rfl) (fun s : Nat × Dc × Int => St2 ⟨a, nd, dp, false, tr⟩ s.2.1 s.2.2 ∧ mu2 s.2.1 < s.1 ∧ sc2 s.1 s.2.1 s.2.2 = R2) (fun s => [(0, .ref 1000 0), (1, .pi infoD), (5, boolT false), (6, intT s.2.2)]) (fun s => [(1000, decO s.2.1.a s.2.1.nd s.2.1.dp false s.2.1.tr)]) (fun s => mu2 s.2.1) 2 (fun s => ¬ (s.2.1.dp < 0 ∨ s.2.1.dp = 0 ∧ dig (s.2.1.a.getD 0 0) < 5)) (fun s => [(0, .ref 1000 0), (1, .pi infoD), (5, boolT false), (6, intT s.2.2)]) (fun s => [(1000, decO s.2.1.a s.2.1.nd s.2.1.dp false s.2.1.tr)]) (4000, ⟨l, m, p, false, t⟩, e) ⟨hs2, hm2, hR2⟩ fiE fiO ?_ ?_
  · clear hs2 hm2 hR2 ha2
    rintro ⟨f, ⟨l, m, p, g, t⟩, e⟩ ⟨hs, hm, hR⟩ - hbO2
    dsimp only at hm hR ⊢
    obtain rfl : g = false := hs.ng
    have hs1 := hs.lo
    have hs2 := hs.hi
    have hs3 := hs.dp
    have hs4 := hs.dl
    have hs5 := hs.nd
    have hs6 := hs.ok
    have ha2 := hs.ok.len
    dsimp only at hs1 hs2 hs3 hs4 hs5 hs6 ha2
    obtain ⟨c, l0, -, g2, g3, g4⟩ := hs6.cons hs5
    dsimp only at g2
    have hg0 := dec_get (a := l) (i := 0) (by omega)
    have h53 := dig5 g3
    rw [g2] at g3 g4 h53
    by_cases hp : p < 0 ∨ p = 0 ∧ dig (l.getD 0 0) < 5
    · obtain ⟨f, rfl⟩ : ∃ f', f = f' + 1 := ⟨f - 1, by omega⟩
      rw [sc2, if_pos hp] at hR
      obtain ⟨n1, n2⟩ := hs.next hp
      dsimp only at hR n1 n2
      obtain ⟨q, rfl⟩ : ∃ q : Nat, p = -(q : Int) := ⟨(-p).toNat, by omega⟩
      rw [show (-(-(q : Int))).toNat = q by omega] at hR n1 n2
      obtain ⟨l1, m1, p1, t1, er⟩ := dc_left (a := l) (nd := m) (dp := -(q : Int)) (ng := false) (tr := t) (pw q)
      have hpw := pwle q
      have hf := shl_fn l m (-(q : Int)) false t (pw q) hs6 hs5 (by omega) (by omega) (by omega) l1 m1 p1 t1 ((shL_le (by omega)).trans er)
      rw [er] at hR n1 n2
      have hw0 : IntKind.i64.wrap (0 - -(q : Int)) = (q : Int) := by rw [show (0 : Int) - -(q : Int) = (q : Int) by omega]; exact wrap_in (by omega) (by omega)
      have hw2 : IntKind.i64.wrap (e - ((pw q : Nat) : Int)) = e - ((pw q : Nat) : Int) := wrap_in (by omega) (by omega)
      have hlen : powL.length = 9 := powL_len
      have hq0 : q = 0 → decide ((((l.getD 0 0).toNat : Nat) : Int) < 53) = true := fun h => by
        rcases hp with hp | hp
        · omega
        · rw [h53]; exact decide_eq_true hp.2
      generalize l.getD 0 0 = b0 at *
      by_cases h9 : 9 ≤ q
      · have e27 : pw q = 27 := by unfold pw; rw [if_pos h9]
        rw [e27] at hf hw2 hR n1
        (repeat ((conv => whnf); (first | with_reducible refine exE (α := Int) _ (by assumption) ?_ | refine exR ?_ | refine tT ?_ | refine uF ?_ | refine lL ?_)))
        refine gen_nil (t_pow rfl ht) ?_
        (repeat ((conv => whnf); (first | with_reducible refine exE _ (wrap_in (by omega) (by omega)) ?_ | refine exR ?_ | refine gO [(1000, 1000)] (enters_of Tryz.func125 rfl rfl) hf ?_ | refine tT ?_ | refine oB ?_)))
        exact ⟨(f, ⟨l1, m1, p1, false, t1⟩, e - 27), ⟨n1, by dsimp only; omega, hR⟩, n2, fiE, fiO⟩
      · have hg := powL_get (q := q) (by omega)
        generalize pw q = k at *
        by_cases hz0 : q = 0
        · have hq0 := hq0 hz0
          (repeat ((conv => whnf); (first | refine exR ?_ | refine tT ?_ | refine uT ?_ | refine lL ?_ | refine exA 0 rfl (by decide) ?_)))
          refine xB8 b0 hg0 ?_
          (repeat ((conv => whnf); (first | with_reducible refine exE (α := Int) _ (by assumption) ?_ | refine exR ?_ | refine tT ?_ | refine tF ?_ | refine uT ?_ | refine lL ?_)))
          refine gen_nil (t_pow rfl ht) ?_
          (repeat ((conv => whnf); (first | refine exR ?_ | refine tF ?_ | refine oB ?_)))
          refine gen_nil (t_pow rfl ht) ?_
          (repeat ((conv => whnf); (first | with_reducible refine exE (α := Int) _ (by assumption) ?_ | refine gO [(1000, 1000)] (enters_of Tryz.func125 rfl rfl) hf ?_ | refine oB ?_ | refine lL ?_ | refine exI _ rfl (by assumption) ?_)))
          exact ⟨(f, ⟨l1, m1, p1, false, t1⟩, e - (k : Int)), ⟨n1, by dsimp only; omega, hR⟩, n2, fiE, fiO⟩
        · skip
          (repeat ((conv => whnf); (first | with_reducible refine exE (α := Int) _ (by assumption) ?_ | refine exR ?_ | refine tT ?_ | refine uF ?_ | refine lL ?_)))
          refine gen_nil (t_pow rfl ht) ?_
          (repeat ((conv => whnf); (first | refine exR ?_ | refine tF ?_ | refine oB ?_)))
          refine gen_nil (t_pow rfl ht) ?_
          (repeat ((conv => whnf); (first | with_reducible refine exE (α := Int) _ (by assumption) ?_ | refine gO [(1000, 1000)] (enters_of Tryz.func125 rfl rfl) hf ?_ | refine oB ?_ | refine lL ?_ | refine exI _ rfl (by assumption) ?_)))
          exact ⟨(f, ⟨l1, m1, p1, false, t1⟩, e - (k : Int)), ⟨n1, by dsimp only; omega, hR⟩, n2, fiE, fiO⟩
    · by_cases hz0 : p = 0
      · have hq0 : decide ((((l.getD 0 0).toNat : Nat) : Int) < 53) = false := by rw [h53]; exact decide_eq_false fun h => hp (.inr ⟨hz0, h⟩)
        have hX : ¬ ((⟨l, m, p, false, t⟩ : Dc).dp < 0 ∨ (⟨l, m, p, false, t⟩ : Dc).dp = 0 ∧ dig ((⟨l, m, p, false, t⟩ : Dc).a.getD 0 0) < 5) := hp
        generalize l.getD 0 0 = b0 at hg0 hq0
        (repeat ((conv => whnf); (first | refine exR ?_ | refine tT ?_ | refine uT ?_ | refine lL ?_ | refine exA 0 rfl (by decide) ?_)))
        refine xB8 b0 hg0 ?_
        (repeat ((conv => whnf); (first | refine exR ?_ | refine tT ?_ | refine tF ?_ | refine uT ?_ | refine And.intro rfl ?_)))
        exact ⟨(f, ⟨l, m, p, false, t⟩, e), ⟨hs, hm, hR⟩, hX, fiE, fiO⟩
      · skip
        (repeat ((conv => whnf); (first | refine exR ?_ | refine tF ?_ | refine uT ?_ | refine And.intro rfl ?_ | refine lL ?_)))
        exact ⟨(f, ⟨l, m, p, false, t⟩, e), ⟨hs, hm, hR⟩, hp, fiE, fiO⟩
  clear hs2 hm2 hR2 ha2
  rintro ⟨f, ⟨l, m, p, g, t⟩, e⟩ ⟨hs, -, hR⟩ hp
  dsimp only at hR hp ⊢
  rw [sc2_end hp] at hR
  have hg : g = false := hs.ng
  subst hg
  subst hR
  have hs1 := hs.lo
  have hs3 := hs.hi
  have hs4 := hs.dp
  have hs5 := hs.dl
  have hs6 := hs.ok
  have hs7 := hs.nd
  dsimp only at hr hs1 hs3 hs4 hs5 hs7
  have hex : ∃ (l3 : List UInt8) (m3 : Nat) (p3 : Int) (t3 : Bool) (e3 : Int) (k : Nat), ((e - 1 < -1022 ∧ FnO Tryz.prog 125 [.ref 1000 0, intT (-(k : Int))] [(1000, decO l m p false t)] (.tup []) [(1000, decO l3 m3 p3 false t3)] ∧ e3 = -1022 ∧ (k : Int) = -1022 - (e - 1)) ∨ (¬ e - 1 < -1022 ∧ l3 = l ∧ m3 = m ∧ p3 = p ∧ t3 = t ∧ e3 = e - 1)) ∧ (Dc.mk l3 m3 p3 false t3).Ok ∧ 1 ≤ m3 ∧ -200000 ≤ p3 ∧ p3 ≤ 200000 ∧ -1022 ≤ e3 ∧ e3 ≤ 20000 ∧ fbRun ⟨l3, m3, p3, false, t3⟩ e3 = ((b, o), ⟨a', nd', dp', false, tr'⟩) := by
    unfold sc3 at hr
    by_cases h : e - 1 < -1022
    · rw [if_pos h] at hr
      obtain ⟨k, hk⟩ : ∃ k : Nat, (-1022 - (e - 1)).toNat = k := ⟨_, rfl⟩
      rw [hk] at hr
      obtain ⟨k1, k2, k3, k4⟩ := shR_ok (k := k) hs6 hs7 (by omega)
      have kn := shR_ng ⟨l, m, p, false, t⟩ k
      have hf := shr_fn l m p false t k hs6 hs7 (by omega) (by omega) (by omega)
      generalize shR ⟨l, m, p, false, t⟩ k = d3 at hr k1 k2 k3 k4 kn hf
      obtain ⟨l3, m3, p3, g3, t3⟩ := d3
      obtain rfl : g3 = false := kn
      dsimp only at hr k2 k3 k4
      exact ⟨l3, m3, p3, t3, -1022, k, .inl ⟨h, hf _ _ _ _ rfl, rfl, by omega⟩, k1, k2, by omega, by omega, by omega, by omega, hr⟩
    · rw [if_neg h] at hr
      exact ⟨l, m, p, t, e - 1, 0, .inr ⟨h, rfl, rfl, rfl, rfl, rfl⟩, hs6, hs7, by omega, by omega, by omega, by omega, hr⟩
  obtain ⟨l3, m3, p3, t3, e3, k, hcase, ok3, n3, b1, b2, b3, b4, hr3⟩ := hex
  clear hr hs6 hs7 hs4 hs5 hs hp
  have ha3 := ok3.len
  have hn3 := ok3.nd
  dsimp only at ha3 hn3
  unfold fbRun at hr3
  have hx3 : IntKind.i64.wrap (e3 - -1023) = e3 + 1023 := by rw [show e3 - -1023 = e3 + 1023 by omega]; exact wrap_in (by omega) (by omega)
  have hx4 : IntKind.i64.wrap (e3 + 1 - -1023) = e3 + 1 + 1023 := by rw [show e3 + 1 - -1023 = e3 + 1 + 1023 by omega]; exact wrap_in (by omega) (by omega)
  have hex : (1024 ≤ e3 ∧ fbB 0 1024 = b ∧ true = o ∧ l3 = a' ∧ m3 = nd' ∧ p3 = dp' ∧ t3 = tr') ∨ (¬ 1024 ≤ e3 ∧ ∃ mm : Int, FnO Tryz.prog 125 [.ref 1000 0, intT ((53 : Nat) : Int)] [(1000, decO l3 m3 p3 false t3)] (.tup []) [(1000, decO a' nd' dp' false tr')] ∧ FnO Tryz.prog 126 [.ref 1000 0] [(1000, decO a' nd' dp' false tr')] (.d (.v (.int .u64 mm))) [(1000, decO a' nd' dp' false tr')] ∧ fbEnd mm e3 = (b, o) ∧ a'.length = 800) := by
    by_cases ho : 1024 ≤ e3
    · rw [if_pos ho] at hr3
      injection hr3 with q1 q2
      injection q1 with q1 q3
      injection q2 with e1 e2 e4 e5 e6
      exact .inl ⟨ho, q1, q3, e1, e2, e4, e6⟩
    · rw [if_neg ho] at hr3
      obtain ⟨k1, k2, k3, k4⟩ := shL_ok (k := 53) ok3 n3 (by decide)
      have kn := shL_ng ⟨l3, m3, p3, false, t3⟩ 53
      have hf53 := shl_fn l3 m3 p3 false t3 53 ok3 n3 (by decide) (by omega) (by omega)
      generalize shL ⟨l3, m3, p3, false, t3⟩ 53 = d4 at hr3 k1 k2 k3 k4 kn hf53
      obtain ⟨l4, m4, p4, g4, t4⟩ := d4
      obtain rfl : g4 = false := kn
      have ha4 := k1.len
      have hn4 := k1.nd
      dsimp only at hr3 ha4 hn4
      injection hr3 with q1 q2
      injection q2 with e1 e2 e4 e5 e6
      subst e1 e2 e4 e6
      exact .inr ⟨ho, _, hf53 _ _ _ _ rfl, ri_fn l4 m4 p4 false t4 ha4 hn4 _ rfl, q1, ha4⟩
  clear hr3 ok3 n3 b1 b2 hn3
  cases hex with
  | inl hov =>
    obtain ⟨ho, q1, q3, e1, e2, e4, e6⟩ := hov
    subst q1 q3 e1 e2 e4 e6
    cases hcase with
    | inl hc =>
      have he3 := hc.2.2.1
      exact absurd he3 (by omega)
    | inr hc =>
      obtain ⟨h, hl3, hm3, hp3, ht3, he3⟩ := hc
      subst hl3 hm3 hp3 ht3
      have hw : IntKind.i64.wrap (e - 1) = e3 := by rw [he3]; exact wrap_in (by omega) (by omega)
      (repeat ((conv => whnf); (first | with_reducible refine exE (α := Int) _ (by assumption) ?_ | refine exR ?_ | refine tT ?_ | refine tF ?_ | refine oB ?_ | refine zQ ?_)))
      refine ev_jump [] fax_ok hA _ rfl (by kernel_rfl) ?_
      (repeat ((conv => whnf); (first | with_reducible refine exE (α := Int) _ (by assumption) ?_ | refine exR ?_ | refine tF ?_ | refine oB ?_ | refine lL ?_ | refine zQ ?_)))
      exact ⟨eN, rS, fiO⟩
  | inr hov =>
    obtain ⟨ho, mm, hf53, hri, hq, ha4⟩ := hov
    cases hcase with
    | inl hc =>
      obtain ⟨h, hfk, he3, hk⟩ := hc
      have hw0 : IntKind.i64.wrap (-1022 - (e - 1)) = (k : Int) := by rw [← hk]; exact wrap_in (by omega) (by omega)
      have hw1 : IntKind.i64.wrap (0 - (k : Int)) = -(k : Int) := by rw [show (0 : Int) - (k : Int) = -(k : Int) by omega]; exact wrap_in (by omega) (by omega)
      have hw2 : IntKind.i64.wrap (e - 1 + (k : Int)) = e3 := by rw [show e - 1 + (k : Int) = e3 by omega]; exact wrap_in (by omega) (by omega)
      (repeat ((conv => whnf); (first | with_reducible refine exE (α := Int) _ (by assumption) ?_ | with_reducible refine exE _ (wrap_in (by omega) (by omega)) ?_ | refine exR ?_ | refine gO [(1000, 1000)] (enters_of Tryz.func125 rfl rfl) hfk ?_ | refine gO [(1000, 1000)] (enters_of Tryz.func125 rfl rfl) hf53 ?_ | refine gO [(1000, 1000)] (enters_of Tryz.func126 rfl rfl) hri ?_ | refine tT ?_ | refine tF ?_ | refine oB ?_ | refine zQ ?_)))
      have hleaf := fbEnd_leaf hq
      clear hq
      rcases hleaf with ⟨v1, v2, q1, q2⟩ | ⟨v1, v2, v3, q1, q2⟩ | ⟨v1, v2, v3, q1, q2⟩ | ⟨v1, v3, q1, q2⟩ | ⟨v1, v3, q1, q2⟩
      all_goals
        subst q1 q2
        (repeat ((conv => whnf); (first | with_reducible refine exE (α := Int) _ (by assumption) ?_ | with_reducible refine exE _ (wrap_in (by omega) (by omega)) ?_ | refine exR ?_ | refine tT ?_ | refine tF ?_ | refine oB ?_ | refine zQ ?_)))
        refine ev_jump [] fax_ok hA _ rfl (by kernel_rfl) ?_
        (repeat ((conv => whnf); (first | with_reducible refine exE (α := Int) _ (by assumption) ?_ | with_reducible refine exE _ (wrap_in (by omega) (by omega)) ?_ | refine exR ?_ | refine tF ?_ | refine oB ?_ | refine lL ?_ | refine zQ ?_)))
        exact ⟨eN, rS, fiO⟩
    | inr hc =>
      obtain ⟨h, hl3, hm3, hp3, ht3, he3⟩ := hc
      subst hl3 hm3 hp3 ht3
      have hw : IntKind.i64.wrap (e - 1) = e3 := by rw [he3]; exact wrap_in (by omega) (by omega)
      (repeat ((conv => whnf); (first | with_reducible refine exE (α := Int) _ (by assumption) ?_ | with_reducible refine exE _ (wrap_in (by omega) (by omega)) ?_ | refine exR ?_ | refine gO [(1000, 1000)] (enters_of Tryz.func125 rfl rfl) hf53 ?_ | refine gO [(1000, 1000)] (enters_of Tryz.func126 rfl rfl) hri ?_ | refine tF ?_ | refine oB ?_ | refine zQ ?_)))
      have hleaf := fbEnd_leaf hq
      clear hq
      rcases hleaf with ⟨v1, v2, q1, q2⟩ | ⟨v1, v2, v3, q1, q2⟩ | ⟨v1, v2, v3, q1, q2⟩ | ⟨v1, v3, q1, q2⟩ | ⟨v1, v3, q1, q2⟩
      all_goals
        subst q1 q2
        (repeat ((conv => whnf); (first | with_reducible refine exE (α := Int) _ (by assumption) ?_ | with_reducible refine exE _ (wrap_in (by omega) (by omega)) ?_ | refine exR ?_ | refine tT ?_ | refine tF ?_ | refine oB ?_ | refine zQ ?_)))
        refine ev_jump [] fax_ok hA _ rfl (by kernel_rfl) ?_
        (repeat ((conv => whnf); (first | with_reducible refine exE (α := Int) _ (by assumption) ?_ | refine exR ?_ | refine tF ?_ | refine oB ?_ | refine lL ?_ | refine zQ ?_)))
        exact ⟨eN, rS, fiO⟩
end Go.Proofs.YtngklbnodknadaaGreatDoor
end

section
namespace Go.Proofs.YtngklbnodknadaaGreatDoor
open Go.RowKit

theorem fd32 (d : Nat) : (d : Int).fdiv (2 ^ min (32 : Int).toNat IntKind.u64.bits) = ((d / 4294967296 : Nat) : Int) := fd_nat (n := d) (k := 32) (by decide)
theorem fd16 (d : Nat) : (d : Int).fdiv (2 ^ min (16 : Int).toNat IntKind.u64.bits) = ((d / 65536 : Nat) : Int) := fd_nat (n := d) (k := 16) (by decide)
theorem fd8 (d : Nat) : (d : Int).fdiv (2 ^ min (8 : Int).toNat IntKind.u64.bits) = ((d / 256 : Nat) : Int) := fd_nat (n := d) (k := 8) (by decide)
set_option maxRecDepth 100000 in
set_option maxHeartbeats 4000000 in
theorem len_ex (d : Nat) (hd : d < 18446744073709551616) : ∃ r : Int, 0 ≤ r ∧ r ≤ 64 ∧ FnD Tryz.prog 117 [u64T d] (intT r) := by
  by_cases t0 : 4294967296 ≤ d
  · by_cases t1 : 65536 ≤ d / 4294967296
    · by_cases t2 : 256 ≤ (d / 4294967296) / 65536
      · have f1 := fd32 d
        generalize h1' : d / 4294967296 = x1 at f1
        have f2 := fd16 x1
        generalize h2' : x1 / 65536 = x2 at f2
        have f3 := fd8 x2
        generalize h3' : x2 / 256 = x3 at f3
        have hx : x3 < 256 := by omega
        obtain ⟨v, hg, hv⟩ := len8_ex hx
        have hu : IntKind.u8.wrap ((x3 : Nat) : Int) = ((x3 : Nat) : Int) := u8_nat rfl hx
        refine ⟨32 + 16 + 8 + (v.toNat : Int), by omega, by omega, ?_⟩
        refine FnD.of1 (n := 25) [] fax_ok Tryz.func117 rfl rfl rfl (by rfl) (by kernel_rfl) (by intro _; rfl) fun Γ hA hbA => ?_
        (repeat ((conv => whnf); (first | with_reducible refine exE (α := Int) _ (by assumption) ?_ | with_reducible refine exE _ (wrap_in (by omega) (by omega)) ?_ | refine exR ?_ | refine tT ?_ | refine exB _ rfl (by assumption) ?_ | refine zQ ?_)))
        exact ⟨eN, rS, fiO⟩
      · have f1 := fd32 d
        generalize h1' : d / 4294967296 = x1 at f1
        have f2 := fd16 x1
        generalize h2' : x1 / 65536 = x2 at f2
        have hx : x2 < 256 := by omega
        obtain ⟨v, hg, hv⟩ := len8_ex hx
        have hu : IntKind.u8.wrap ((x2 : Nat) : Int) = ((x2 : Nat) : Int) := u8_nat rfl hx
        refine ⟨32 + 16 + (v.toNat : Int), by omega, by omega, ?_⟩
        refine FnD.of1 (n := 25) [] fax_ok Tryz.func117 rfl rfl rfl (by rfl) (by kernel_rfl) (by intro _; rfl) fun Γ hA hbA => ?_
        (repeat ((conv => whnf); (first | with_reducible refine exE (α := Int) _ (by assumption) ?_ | with_reducible refine exE _ (wrap_in (by omega) (by omega)) ?_ | refine exR ?_ | refine tT ?_ | refine tF ?_ | refine exB _ rfl (by assumption) ?_ | refine zQ ?_)))
        exact ⟨eN, rS, fiO⟩
    · by_cases t2 : 256 ≤ d / 4294967296
      · have f1 := fd32 d
        generalize h1' : d / 4294967296 = x1 at f1
        have f3 := fd8 x1
        generalize h3' : x1 / 256 = x3 at f3
        have hx : x3 < 256 := by omega
        obtain ⟨v, hg, hv⟩ := len8_ex hx
        have hu : IntKind.u8.wrap ((x3 : Nat) : Int) = ((x3 : Nat) : Int) := u8_nat rfl hx
        refine ⟨32 + 8 + (v.toNat : Int), by omega, by omega, ?_⟩
        refine FnD.of1 (n := 25) [] fax_ok Tryz.func117 rfl rfl rfl (by rfl) (by kernel_rfl) (by intro _; rfl) fun Γ hA hbA => ?_
        (repeat ((conv => whnf); (first | with_reducible refine exE (α := Int) _ (by assumption) ?_ | with_reducible refine exE _ (wrap_in (by omega) (by omega)) ?_ | refine exR ?_ | refine tT ?_ | refine tF ?_ | refine exB _ rfl (by assumption) ?_ | refine zQ ?_)))
        exact ⟨eN, rS, fiO⟩
      · have f1 := fd32 d
        generalize h1' : d / 4294967296 = x1 at f1
        have hx : x1 < 256 := by omega
        obtain ⟨v, hg, hv⟩ := len8_ex hx
        have hu : IntKind.u8.wrap ((x1 : Nat) : Int) = ((x1 : Nat) : Int) := u8_nat rfl hx
        refine ⟨32 + (v.toNat : Int), by omega, by omega, ?_⟩
        refine FnD.of1 (n := 25) [] fax_ok Tryz.func117 rfl rfl rfl (by rfl) (by kernel_rfl) (by intro _; rfl) fun Γ hA hbA => ?_
        (repeat ((conv => whnf); (first | with_reducible refine exE (α := Int) _ (by assumption) ?_ | with_reducible refine exE _ (wrap_in (by omega) (by omega)) ?_ | refine exR ?_ | refine tT ?_ | refine tF ?_ | refine exB _ rfl (by assumption) ?_ | refine zQ ?_)))
        exact ⟨eN, rS, fiO⟩
  · by_cases t1 : 65536 ≤ d
    · by_cases t2 : 256 ≤ (d) / 65536
      · have f2 := fd16 d
        generalize h2' : d / 65536 = x2 at f2
        have f3 := fd8 x2
        generalize h3' : x2 / 256 = x3 at f3
        have hx : x3 < 256 := by omega
        obtain ⟨v, hg, hv⟩ := len8_ex hx
        have hu : IntKind.u8.wrap ((x3 : Nat) : Int) = ((x3 : Nat) : Int) := u8_nat rfl hx
        refine ⟨0 + 16 + 8 + (v.toNat : Int), by omega, by omega, ?_⟩
        refine FnD.of1 (n := 25) [] fax_ok Tryz.func117 rfl rfl rfl (by rfl) (by kernel_rfl) (by intro _; rfl) fun Γ hA hbA => ?_
        (repeat ((conv => whnf); (first | with_reducible refine exE (α := Int) _ (by assumption) ?_ | with_reducible refine exE _ (w_inc (by omega)) ?_ | with_reducible refine exE _ (wrap_in (by omega) (by omega)) ?_ | refine exR ?_ | refine tT ?_ | refine tF ?_ | refine exB _ rfl (by assumption) ?_ | refine zQ ?_)))
        exact ⟨eN, rS, fiO⟩
      · have f2 := fd16 d
        generalize h2' : d / 65536 = x2 at f2
        have hx : x2 < 256 := by omega
        obtain ⟨v, hg, hv⟩ := len8_ex hx
        have hu : IntKind.u8.wrap ((x2 : Nat) : Int) = ((x2 : Nat) : Int) := u8_nat rfl hx
        refine ⟨0 + 16 + (v.toNat : Int), by omega, by omega, ?_⟩
        refine FnD.of1 (n := 25) [] fax_ok Tryz.func117 rfl rfl rfl (by rfl) (by kernel_rfl) (by intro _; rfl) fun Γ hA hbA => ?_
        (repeat ((conv => whnf); (first | with_reducible refine exE (α := Int) _ (by assumption) ?_ | with_reducible refine exE _ (w_inc (by omega)) ?_ | with_reducible refine exE _ (wrap_in (by omega) (by omega)) ?_ | refine exR ?_ | refine tT ?_ | refine tF ?_ | refine exB _ rfl (by assumption) ?_ | refine zQ ?_)))
        exact ⟨eN, rS, fiO⟩
    · by_cases t2 : 256 ≤ d
      · have f3 := fd8 d
        generalize h3' : d / 256 = x3 at f3
        have hx : x3 < 256 := by omega
        obtain ⟨v, hg, hv⟩ := len8_ex hx
        have hu : IntKind.u8.wrap ((x3 : Nat) : Int) = ((x3 : Nat) : Int) := u8_nat rfl hx
        refine ⟨0 + 8 + (v.toNat : Int), by omega, by omega, ?_⟩
        refine FnD.of1 (n := 25) [] fax_ok Tryz.func117 rfl rfl rfl (by rfl) (by kernel_rfl) (by intro _; rfl) fun Γ hA hbA => ?_
        (repeat ((conv => whnf); (first | with_reducible refine exE (α := Int) _ (by assumption) ?_ | with_reducible refine exE _ (w_inc (by omega)) ?_ | with_reducible refine exE _ (wrap_in (by omega) (by omega)) ?_ | refine exR ?_ | refine tT ?_ | refine tF ?_ | refine exB _ rfl (by assumption) ?_ | refine zQ ?_)))
        exact ⟨eN, rS, fiO⟩
      · have hx : d < 256 := by omega
        obtain ⟨v, hg, hv⟩ := len8_ex hx
        have hu : IntKind.u8.wrap ((d : Nat) : Int) = ((d : Nat) : Int) := u8_nat rfl hx
        refine ⟨0 + (v.toNat : Int), by omega, by omega, ?_⟩
        refine FnD.of1 (n := 25) [] fax_ok Tryz.func117 rfl rfl rfl (by rfl) (by kernel_rfl) (by intro _; rfl) fun Γ hA hbA => ?_
        (repeat ((conv => whnf); (first | with_reducible refine exE (α := Int) _ (by assumption) ?_ | with_reducible refine exE _ (wrap_in (by omega) (by omega)) ?_ | refine exR ?_ | refine tF ?_ | refine exB _ rfl (by assumption) ?_)))
        exact ⟨eN, rS, fiO⟩
set_option maxRecDepth 100000 in
set_option maxHeartbeats 4000000 in
theorem pack_ex (m e : Int) : ∃ (n : Nat) (x : Bool), FnD Tryz.prog 127 [.d (.v (.int .u64 m)), intT e] (.tup [f64T n, erT x]) := by
  cases hc : (IntKind.u64.wrap (BitVec.ofInt IntKind.u64.bits m &&& BitVec.ofInt IntKind.u64.bits 4503599627370496).toNat == 0) with
  | true =>
    exact ⟨_, false, by
      refine FnD.ofT (n := 26) [] fax_ok Tryz.func127 rfl rfl rfl (by rfl) (by kernel_rfl) (by intro _; rfl) fun Γ hA hbA => ?_
      (repeat ((conv => whnf); (first | refine exR ?_ | refine tT ?_)))
      refine gen_nil (t_frombits rfl rfl) ?_
      skip
      exact ⟨eN, rS, fiO⟩
      ⟩
  | false =>
    by_cases h2 : 972 ≤ e
    · exact ⟨_, true, by
        refine FnD.ofT (n := 26) [] fax_ok Tryz.func127 rfl rfl rfl (by rfl) (by kernel_rfl) (by intro _; rfl) fun Γ hA hbA => ?_
        (repeat ((conv => whnf); (first | refine exR ?_ | refine tT ?_ | refine tF ?_)))
        refine gen_nil (t_frombits rfl rfl) ?_
        skip
        refine gen_nil (t_mki rfl rfl un_err (fun _ h => by cases h)) ?_
        skip
        exact ⟨eN, rS, fiO⟩
        ⟩
    · exact ⟨_, false, by
        refine FnD.ofT (n := 26) [] fax_ok Tryz.func127 rfl rfl rfl (by rfl) (by kernel_rfl) (by intro _; rfl) fun Γ hA hbA => ?_
        (repeat ((conv => whnf); (first | refine exR ?_ | refine tF ?_ | refine zQ ?_)))
        refine gen_nil (t_frombits rfl rfl) ?_
        skip
        exact ⟨eN, rS, fiO⟩
        ⟩
end Go.Proofs.YtngklbnodknadaaGreatDoor
end

section
namespace Go.Proofs.YtngklbnodknadaaGreatDoor
open Go.RowKit

theorem flat_drop {α β : Type} (f g : α → β) : ∀ (l : List α) (j : Nat), (l.flatMap fun x => [f x, g x]).drop (j * 2) = (l.drop j).flatMap fun x => [f x, g x]
  | l, 0 => by simp
  | [], j + 1 => by simp
  | a :: l, j + 1 => by
    rw [List.flatMap_cons, show (j + 1) * 2 = j * 2 + 2 by omega]
    exact flat_drop f g l j
theorem pow10_len : Go.Pinned.pow10Rows.length = 696 := by kernel_rfl
theorem pow10_at {j : Nat} (h : j < 696) : ∃ (hi lo : Int) (rest : List D), (pow10TabV.map D.v).drop (j * 2) = .v (.int .u64 hi) :: .v (.int .u64 lo) :: rest := by
  have hl := pow10_len
  unfold pow10TabV
  generalize Go.Pinned.pow10Rows = l at hl
  rw [← List.map_drop, flat_drop, List.drop_eq_getElem_cons (by omega), List.flatMap_cons]
  exact ⟨_, _, _, rfl⟩
theorem pow10_one : ∀ x ∈ pow10TabV, x.oneCell' = true := by
  intro x hx
  unfold pow10TabV at hx
  rw [List.mem_flatMap] at hx
  obtain ⟨y, -, hy⟩ := hx
  simp only [List.mem_cons, List.not_mem_nil, or_false] at hy
  rcases hy with rfl | rfl <;> rfl
theorem tab_pow10 : (12, (· = pow10TabV)) ∈ tabs := by unfold tabs; simp
theorem t_pow10 {o : Oper} {σ : Nat → T} {i : Operand} {kd : IntKind} {j : Nat} {hi lo : Int} {rest : List D} (ho : o.op = .indexAddr 215 (.global 12) i) (hi0 : opT σ i = .d (.v (.int kd j))) (hj : j < 696) (h : (pow10TabV.map D.v).drop (j * 2) = .v (.int .u64 hi) :: .v (.int .u64 lo) :: rest) : Tri Tryz.prog o σ [] (.pi (.v (.int .u64 hi) :: .v (.int .u64 lo) :: rest)) [] := by
  have := t_gindex (m := 696) (k := 2) (P := Tryz.prog) ho (by kernel_rfl) hi0 hj tab_pow10 (fun S => reps_one pow10_one)
  rwa [h] at this
set_option maxRecDepth 100000 in
set_option maxHeartbeats 4000000 in
theorem prescale_ex (e p lp : Int) (h1 : -345 ≤ p) (h2 : p ≤ 347) : ∃ hi lo s : Int, FnO Tryz.prog 119 [.ref 1000 0, intT e, intT p, intT lp] [(1000, .cells 199 [.d (.v (.int .u64 0)), .d (.v (.int .u64 0)), intT 0])] (.tup []) [(1000, .cells 199 [.d (.v (.int .u64 hi)), .d (.v (.int .u64 lo)), intT s])] := by
  obtain ⟨j, hj, hw⟩ : ∃ j : Nat, j < 696 ∧ IntKind.i64.wrap (p - -348) = (j : Int) := ⟨(p + 348).toNat, by omega, by rw [show p - -348 = ((p + 348).toNat : Int) by omega]; exact wrap_in (by omega) (by omega)⟩
  obtain ⟨hi, lo, rest, ha⟩ := pow10_at hj
  refine ⟨hi, lo, IntKind.i64.wrap (0 - IntKind.i64.wrap (IntKind.i64.wrap (e + lp) + 3)), ?_⟩
  refine FnO.of0 (n := 32) [] fax_ok Tryz.func119 rfl rfl rfl (by rfl) (by rfl) (by kernel_rfl) fun Γ hA hbA hbO => ?_
  (repeat ((conv => whnf); with_reducible refine exE (α := Int) _ (by assumption) ?_))
  refine gen_nil (t_pow10 rfl rfl hj ha) ?_
  (repeat ((conv => whnf); with_reducible refine exE (α := Int) _ (by assumption) ?_))
  refine gen_nil (t_pow10 rfl rfl hj ha) ?_
  (repeat ((conv => whnf); refine exR ?_))
  exact ⟨eN, rS, fiO⟩
theorem and63 (s : Int) : ∃ k : Int, 0 ≤ k ∧ IntKind.i64.wrap (BitVec.ofInt IntKind.i64.bits s &&& BitVec.ofInt IntKind.i64.bits 63).toNat = k := by
  refine ⟨_, ?_, rfl⟩
  have h : (BitVec.ofInt IntKind.i64.bits s &&& BitVec.ofInt IntKind.i64.bits 63).toNat ≤ 63 := by
    rw [BitVec.toNat_and]
    exact Nat.and_le_right
  rw [wrap_in (by omega) (by omega)]
  omega
theorem b2i_ex (c : Bool) : ∃ r : Int, 0 ≤ r ∧ FnD Tryz.prog 121 [boolT c] (intT r) := ⟨_, by cases c <;> decide, b2i_fn c⟩
set_option maxRecDepth 100000 in
set_option maxHeartbeats 4000000 in
theorem uscale_ex (x hi lo s : Int) : ∃ u : Int, FnO Tryz.prog 120 [.d (.v (.int .u64 x)), .ref 1000 0] [(1000, .cells 199 [.d (.v (.int .u64 hi)), .d (.v (.int .u64 lo)), intT s])] (.d (.v (.int .u64 u))) [(1000, .cells 199 [.d (.v (.int .u64 hi)), .d (.v (.int .u64 lo)), intT s])] := by
  obtain ⟨h, m, f1⟩ := mul_ex x hi
  obtain ⟨m2, q, f2⟩ := mul_ex x lo
  obtain ⟨k, hk0, hk⟩ := and63 s
  cases hc : (IntKind.u64.wrap (h.fdiv (2 ^ min k.toNat IntKind.u64.bits) * 2 ^ min k.toNat IntKind.u64.bits) != h) with
  | true =>
    exact ⟨_, by
      refine FnO.of1 (n := 59) [] fax_ok Tryz.func120 rfl rfl rfl (by rfl) (by rfl) (by kernel_rfl) fun Γ hA hbA hbO => ?_
      (repeat ((conv => whnf); (first | with_reducible refine exE (α := Int) _ (by assumption) ?_ | refine exR ?_ | refine gd (enters_of Tryz.func129 rfl rfl) f1 ?_ | refine tT ?_ | refine zQ ?_)))
      exact ⟨eN, rS, fiO⟩
      ⟩
  | false =>
    exact ⟨_, by
      refine FnO.of1 (n := 59) [] fax_ok Tryz.func120 rfl rfl rfl (by rfl) (by rfl) (by kernel_rfl) fun Γ hA hbA hbO => ?_
      (repeat ((conv => whnf); (first | with_reducible refine exE (α := Int) _ (by assumption) ?_ | refine exR ?_ | refine gd (enters_of Tryz.func129 rfl rfl) f1 ?_ | refine gd (enters_of Tryz.func129 rfl rfl) f2 ?_ | refine gd (enters_of Tryz.func100 rfl rfl) (b2u_fn _) ?_ | refine tF ?_ | refine oB ?_ | refine zQ ?_)))
      exact ⟨eN, rS, fiO⟩
      ⟩
end Go.Proofs.YtngklbnodknadaaGreatDoor
end

section
namespace Go.Proofs.YtngklbnodknadaaGreatDoor
open Go.RowKit

theorem all_round : ∃ R : Int → Int, ∀ x, FnD Tryz.prog 124 [.d (.v (.int .u64 x))] (.d (.v (.int .u64 (R x)))) := ⟨fun x => (round_ex x).choose, fun x => (round_ex x).choose_spec⟩
theorem all_pack : ∃ (N : Int → Int → Nat) (X : Int → Int → Bool), ∀ m e, FnD Tryz.prog 127 [.d (.v (.int .u64 m)), intT e] (.tup [f64T (N m e), erT (X m e)]) := ⟨fun m e => (pack_ex m e).choose, fun m e => (pack_ex m e).choose_spec.choose, fun m e => (pack_ex m e).choose_spec.choose_spec⟩
theorem all_scale (p lp : Int) (h1 : -345 ≤ p) (h2 : p ≤ 347) : ∃ HI LO S : Int → Int, ∀ e, FnO Tryz.prog 119 [.ref 1000 0, intT e, intT p, intT lp] [(1000, .cells 199 [.d (.v (.int .u64 0)), .d (.v (.int .u64 0)), intT 0])] (.tup []) [(1000, .cells 199 [.d (.v (.int .u64 (HI e))), .d (.v (.int .u64 (LO e))), intT (S e)])] :=
  ⟨fun e => (prescale_ex e p lp h1 h2).choose, fun e => (prescale_ex e p lp h1 h2).choose_spec.choose, fun e => (prescale_ex e p lp h1 h2).choose_spec.choose_spec.choose, fun e => (prescale_ex e p lp h1 h2).choose_spec.choose_spec.choose_spec⟩
set_option maxRecDepth 100000 in
set_option maxHeartbeats 8000000 in
theorem pf64_ex (d : Nat) (p sg : Int) (hd : d < 18446744073709551616) (h1 : -345 ≤ p) (h2 : p ≤ 347) : ∃ (n : Nat) (x : Bool), FnD Tryz.prog 103 [u64T d, intT p, .d (.v (.int .u64 sg))] (.tup [f64T n, erT x]) := by
  obtain ⟨b, b0, b1, f1⟩ := len_ex d hd
  obtain ⟨lp, f2⟩ := l2p_ex p
  obtain ⟨HI, LO, S, f3⟩ := all_scale p lp h1 h2
  obtain ⟨um, f6⟩ := unmin_ex 9007199254740992
  obtain ⟨R, f7⟩ := all_round
  obtain ⟨N, X, f8⟩ := all_pack
  obtain ⟨e1, he1⟩ : ∃ e1 : Int, IntKind.i64.wrap (53 - b - lp) = e1 := ⟨_, rfl⟩
  obtain ⟨e2, he2⟩ : ∃ e2 : Int, IntKind.i64.wrap ((if false = true then if 1074 < e1 then e1 else 1074 else if e1 < 1074 then e1 else 1074) - (64 - b)) = e2 := ⟨_, rfl⟩
  have f3 := f3 e2
  generalize HI e2 = hi at f3
  generalize LO e2 = lo at f3
  generalize S e2 = s at f3
  by_cases hs : 64 ≤ s
  · exact ⟨_, false, by
      refine FnD.ofT (n := 63) [] fax_ok Tryz.func103 rfl rfl rfl (by rfl) (by kernel_rfl) (by intro _; rfl) fun Γ hA hbA => ?_
      (repeat ((conv => whnf); (first | with_reducible refine exE (α := Int) _ (by assumption) ?_ | with_reducible refine exE _ (wrap_in (by omega) (by omega)) ?_ | refine exR ?_ | refine gd (enters_of Tryz.func117 rfl rfl) f1 ?_ | refine gd (enters_of Tryz.func118 rfl rfl) f2 ?_ | refine gO [(1000, 11)] (enters_of Tryz.func119 rfl rfl) f3 ?_ | refine tT ?_ | refine And.intro rfl ?_)))
      refine gen_nil (t_frombits rfl rfl) ?_
      skip
      exact ⟨eN, rS, fiO⟩
      ⟩
  · obtain ⟨x, hx⟩ : ∃ x : Int, IntKind.u64.wrap ((d : Int) * 2 ^ min (64 - b).toNat IntKind.u64.bits) = x := ⟨_, rfl⟩
    obtain ⟨u, f5⟩ := uscale_ex x hi lo s
    obtain ⟨r, hr, f9⟩ := b2i_ex (decide (um ≤ u))
    obtain ⟨u2, hu2⟩ : ∃ u2 : Int, IntKind.u64.wrap (BitVec.ofInt IntKind.u64.bits (u.fdiv (2 ^ min r.toNat IntKind.u64.bits)) ||| BitVec.ofInt IntKind.u64.bits (IntKind.u64.wrap (BitVec.ofInt IntKind.u64.bits u &&& BitVec.ofInt IntKind.u64.bits 1).toNat)).toNat = u2 := ⟨_, rfl⟩
    obtain ⟨m, hm⟩ : ∃ m : Int, IntKind.u64.wrap (BitVec.ofInt IntKind.u64.bits sg ||| BitVec.ofInt IntKind.u64.bits (R u2)).toNat = m := ⟨_, rfl⟩
    obtain ⟨e4, he4⟩ : ∃ e4 : Int, IntKind.i64.wrap ((if false = true then if 1074 < e1 then e1 else 1074 else if e1 < 1074 then e1 else 1074) - r) = e4 := ⟨_, rfl⟩
    obtain ⟨e5, he5⟩ : ∃ e5 : Int, IntKind.i64.wrap (0 - e4) = e5 := ⟨_, rfl⟩
    have f7 := f7 u2
    have f8 := f8 m e5
    generalize N m e5 = n at f8
    cases hX : X m e5 with
    | true =>
      rw [hX] at f8
      exact ⟨n, true, by
        refine FnD.ofT (n := 63) [] fax_ok Tryz.func103 rfl rfl rfl (by rfl) (by kernel_rfl) (by intro _; rfl) fun Γ hA hbA => ?_
        (repeat ((conv => whnf); (first | with_reducible refine exE (α := Int) _ (by assumption) ?_ | with_reducible refine exE _ (wrap_in (by omega) (by omega)) ?_ | refine exR ?_ | refine gd (enters_of Tryz.func117 rfl rfl) f1 ?_ | refine gd (enters_of Tryz.func118 rfl rfl) f2 ?_ | refine gO [(1000, 11)] (enters_of Tryz.func119 rfl rfl) f3 ?_ | refine gO [(1000, 11)] (enters_of Tryz.func120 rfl rfl) f5 ?_ | refine gd (enters_of Tryz.func122 rfl rfl) f6 ?_ | refine gd (enters_of Tryz.func121 rfl rfl) f9 ?_ | refine gd (enters_of Tryz.func124 rfl rfl) f7 ?_ | refine gd (enters_of Tryz.func127 rfl rfl) f8 ?_ | refine tF ?_ | refine And.intro rfl ?_ | refine zQ ?_)))
        exact ⟨eN, rS, fiO⟩
        ⟩
    | false =>
      rw [hX] at f8
      exact ⟨n, false, by
        refine FnD.ofT (n := 63) [] fax_ok Tryz.func103 rfl rfl rfl (by rfl) (by kernel_rfl) (by intro _; rfl) fun Γ hA hbA => ?_
        (repeat ((conv => whnf); (first | with_reducible refine exE (α := Int) _ (by assumption) ?_ | with_reducible refine exE _ (wrap_in (by omega) (by omega)) ?_ | refine exR ?_ | refine gd (enters_of Tryz.func117 rfl rfl) f1 ?_ | refine gd (enters_of Tryz.func118 rfl rfl) f2 ?_ | refine gO [(1000, 11)] (enters_of Tryz.func119 rfl rfl) f3 ?_ | refine gO [(1000, 11)] (enters_of Tryz.func120 rfl rfl) f5 ?_ | refine gd (enters_of Tryz.func122 rfl rfl) f6 ?_ | refine gd (enters_of Tryz.func121 rfl rfl) f9 ?_ | refine gd (enters_of Tryz.func124 rfl rfl) f7 ?_ | refine gd (enters_of Tryz.func127 rfl rfl) f8 ?_ | refine tF ?_ | refine And.intro rfl ?_ | refine zQ ?_)))
        exact ⟨eN, rS, fiO⟩
        ⟩
end Go.Proofs.YtngklbnodknadaaGreatDoor
end

section
namespace Go.Proofs.YtngklbnodknadaaGreatDoor
open Ieee

def notNaN (x : Nat) : Prop := (double.read x).isNaN = false
def isNumB (x : Nat) : Bool := match double.read x with | .number _ n _ => n != 0 | _ => false
theorem word_fin (neg : Bool) {r : Nat} (h : r ≤ double.infRung) : notNaN (double.word neg r) := by
  have hw : double.signWeight = 9223372036854775808 := by decide
  have hi : double.infRung = 9218868437227405312 := by decide
  have hm : double.word neg r % double.signWeight = r := by
    unfold Format.word
    split <;> rw [hw] <;> omega
  unfold notNaN Format.read
  rw [hm]
  dsimp only
  split
  · rfl
  · split
    · rfl
    · rw [if_pos (by omega)]; rfl
theorem nearest_fin (neg : Bool) (m : Nat) (p : Int) : notNaN (double.nearest neg m p) := by
  unfold Format.nearest
  split
  · exact word_fin neg (Nat.zero_le _)
  · exact word_fin neg (Nat.min_le_right _ _)
theorem write_fin {d : Datum} (h : d.isNaN = false) : notNaN (double.write d) := by
  cases d with
  | number s m p => exact nearest_fin s m p
  | infinity s => exact word_fin s (Nat.le_refl _)
  | nan s t => cases h
theorem num_read {y : Nat} (h : isNumB y = true) : ∃ s n p, double.read y = .number s n p ∧ n ≠ 0 := by
  unfold isNumB at h
  split at h
  · next s n p e => exact ⟨s, n, p, e, by simpa using h⟩
  · cases h
theorem mul_fin {x y : Nat} (hx : notNaN x) (hy : isNumB y = true) : ∃ r, double.mul x y = some r ∧ notNaN r := by
  obtain ⟨s, n, p, e, hn⟩ := num_read hy
  unfold Format.mul
  rw [e]
  unfold notNaN at hx
  cases hr : double.read x with
  | number t m q => exact ⟨_, rfl, write_fin rfl⟩
  | infinity t =>
    refine ⟨double.write (.infinity (t ^^ s)), ?_, write_fin rfl⟩
    simp [Datum.product, hn]
  | nan t m => rw [hr] at hx; cases hx
theorem div_fin {x y : Nat} (hx : notNaN x) (hy : isNumB y = true) : ∃ r, double.div x y = some r := by
  obtain ⟨s, n, p, e, hn⟩ := num_read hy
  unfold Format.div
  rw [e]
  unfold notNaN at hx
  cases hr : double.read x with
  | number t m q =>
    simp only [Datum.quotient, if_neg hn]
    exact ⟨_, rfl⟩
  | infinity t => exact ⟨_, rfl⟩
  | nan t m => rw [hr] at hx; cases hx
theorem f10_num : ∀ j : Fin 23, isNumB (f10W.getD j.1 0) = true := by decide +kernel
theorem f10_at {j : Nat} (h : j < 23) : ∃ w, (f10W.map fun n => (D.v (.float .f64 n)))[j]? = some (.v (.float .f64 w)) ∧ f10W.getD j 0 = w ∧ isNumB w = true := by
  refine ⟨f10W.getD j 0, ?_, rfl, f10_num ⟨j, h⟩⟩
  have hl : f10W.length = 23 := rfl
  rw [List.getElem?_map, List.getD_eq_getElem?_getD, List.getElem?_eq_getElem (by omega)]
  rfl
end Go.Proofs.YtngklbnodknadaaGreatDoor
end
