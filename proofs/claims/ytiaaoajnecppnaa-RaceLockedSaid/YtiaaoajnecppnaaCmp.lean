/-
  slices.Compact at pairs: a row of the call's own; nothing else turns.
-/
import Derived.Test.YtiaaoajnecppnaaSortP
import Derived.Test.YtiaaoajnecppnaaCut
import Derived.Deep.CutRange
import Derived.ChangeKeysEq
import Derived.Lib.SlicesCompact
namespace Go.Proofs.Ytiaaoajnecppnaa
open Go.RowKit Go.Sort Go.Lib

section
variable {P : Program} (w : World)
theorem eqFields_of (d : Nat) (xs ys : Array Value) : ∀ (fs : List Field) (ks : List (TypeId × Nat × Bool)), fs.map (fun f => (f.name != "_", f.type, f.offset)) = ks.map (fun k => (true, k.1, k.2.1)) →
    (∀ k ∈ ks, ∃ a b, (part k.1 xs k.2.1).run P w = .ok a w ∧ (part k.1 ys k.2.1).run P w = .ok b w ∧ (Op.equalIn d k.1 a b).run P w = .ok k.2.2 w) → (Op.eqFields d xs ys fs).run P w = .ok (ks.all (·.2.2)) w
  | [], [], _, _ => by simp [Op.eqFields]
  | [], _ :: _, h, _ => by simp at h
  | _ :: _, [], h, _ => by simp at h
  | f :: fs, (t, o, r) :: ks, h, H => by
    simp only [List.map_cons, List.cons.injEq, Prod.mk.injEq] at h
    obtain ⟨⟨h1, rfl, rfl⟩, h2⟩ := h
    have hn : f.name ≠ "_" := by simpa using h1
    obtain ⟨a, b, e1, e2, e3⟩ := H _ List.mem_cons_self
    simp only [Op.eqFields, if_pos hn, Sem.run_bind]
    dsimp only at e1 e2 e3
    rw [e1]
    simp only [Result.andThen_ok]
    rw [e2]
    simp only [Result.andThen_ok]
    rw [e3]
    simp only [Result.andThen_ok]
    cases r with
    | true =>
      rw [if_neg (by simp), eqFields_of d xs ys fs ks h2 fun k hk => H k (List.mem_cons_of_mem _ hk)]
      simp
    | false => simp
end
theorem part_int (xs : Array Value) (o : Nat) (a : Int) (w : World) (h : xs[o]? = some (.int .i64 a)) : (part 3 xs o).run Try.prog w = .ok (.int .i64 a) w := run_part_plain w (by kernel_rfl) h
theorem eq_int (d : Nat) (w : World) (a b : Int) : (Op.equalIn (d + 1) 3 (.int .i64 a) (.int .i64 b)).run Try.prog w = .ok (a == b) w := run_equalIn_int w d 3 .i64 .i64 a b Try.underlying3
theorem uP : Try.prog.underlying 35 = some (.struct (Try.prog.fieldsOf 35)) := by kernel_rfl
theorem run_eqIn_dp (w : World) (a b a' b' : Int) : (Op.equalIn 10000 35 (.agg #[.int .i64 a, .int .i64 b]) (.agg #[.int .i64 a', .int .i64 b'])).run Try.prog w = .ok (decide ((⟨a, b⟩ : Dp) = ⟨a', b'⟩)) w := by
  rw [show (10000 : Nat) = 9999 + 1 from rfl, run_equalIn_struct w 9999 35 _ _ uP (by kernel_rfl), eqFields_of w 9999 _ _ _ [(3, 0, a == a'), (3, 1, b == b')] (by kernel_rfl) fun k hk => ?_]
  · congr 1
    rw [Bool.eq_iff_iff]
    simp
  · simp only [List.mem_cons, List.not_mem_nil, or_false] at hk
    rcases hk with rfl | rfl
    · exact ⟨_, _, part_int _ _ _ w rfl, part_int _ _ _ w rfl, eq_int _ w _ _⟩
    · exact ⟨_, _, part_int _ _ _ w rfl, part_int _ _ _ w rfl, eq_int _ w _ _⟩

theorem own_dp {w : World} {B g n cap : Nat} {l : List Dp} (h : w.ownsRow B 35 2 (.slice (some ⟨g, 0, none⟩) n cap) n (dps l)) {i : Nat} (hi : i < l.length) (hn : n = l.length) : w.cell? ⟨g, i * 2, none⟩ = some (.int .i64 (l.getD i .z).i) ∧ w.cell? ⟨g, i * 2 + 1, none⟩ = some (.int .i64 (l.getD i .z).j) := by
  refine ⟨?_, ?_⟩
  · rw [h.cellAt (i * 2) (by omega)]
    have := dps_get hi (j := 0) (by omega)
    rw [Nat.add_zero] at this
    rw [this]; rfl
  · rw [h.cellAt (i * 2 + 1) (by omega)]
    rw [dps_get hi (j := 1) (by omega)]; rfl
theorem dps_set (l : List Dp) (i : Nat) (x : Dp) : dps (l.set i x) = ((dps l).set (i * 2) (.int .i64 x.i)).set (i * 2 + 1) (.int .i64 x.j) := by
  induction l generalizing i with
  | nil => simp
  | cons e l ih =>
    cases i with
    | zero => rw [List.set_cons_zero, dps_cons, dps_cons]; rfl
    | succ i =>
      rw [List.set_cons_succ, dps_cons, dps_cons, ih, show (i + 1) * 2 = i * 2 + 2 from by omega]
      rfl
theorem own_setP {w : World} {B g n cap : Nat} {l : List Dp} (h : w.ownsRow B 35 2 (.slice (some ⟨g, 0, none⟩) n cap) n (dps l)) (i : Nat) (x : Dp) :
    ((w.setCell ⟨g, i * 2, none⟩ (.int .i64 x.i)).setCell ⟨g, i * 2 + 1, none⟩ (.int .i64 x.j)).ownsRow B 35 2 (.slice (some ⟨g, 0, none⟩) n cap) n (dps (l.set i x)) := by
  rw [dps_set]
  exact ((h.stored _ _).1.stored _ _).1

section
variable {P : Program} {w : World}
theorem run_clear_own2 {base : Nat} {t e ty : TypeId} {z : Value} {g n cap i : Nat} {xs : List Value} (ht : P.underlying t = some (.slice e)) (hz : ∀ w, (zeroValue e).run P w = .ok z w) (hz1 : z.cells.size = 2) (ho : ∀ v ∈ z.cells.toList, v.oneCell' = true)
    (h : w.ownsRow base e 2 (.slice (some ⟨g, 0, none⟩) n cap) n xs) (hi : i < n) :
    ∃ w', (∀ c, (Builtin.clear_ #[t] ty #[.slice (some ⟨g, i * 2, none⟩) (n - i) c]).run P w = .ok (.tuple #[]) w') ∧ w'.ownsRow base e 2 (.slice (some ⟨g, 0, none⟩) i cap) i (xs.take (i * 2)) ∧ w.grownBy w' (some g) := by
  rcases h.2 with ⟨h', _⟩ | ⟨g', cap', cur, h', hb, hg, hnc, hcm, hcs, htake⟩
  · simp at h'
  · simp only [Value.slice.injEq, Option.some.injEq, Addr.mk.injEq, and_true, true_and] at h'
    obtain ⟨rfl, rfl⟩ := h'
    have hxl := h.1
    have hti : (xs.take (i * 2)).length = i * 2 := by simp; omega
    have hzl : (Builtin.zeroCells z.cells (n - i)).toList.length = (n - i) * 2 := by rw [Array.length_toList, size_zeroCells, hz1]
    refine ⟨w.setRow g (cur.toList.take (i * 2 + 0) ++ (Builtin.zeroCells z.cells (n - i)).toList ++ cur.toList.drop (i * 2 + 0 + (Builtin.zeroCells z.cells (n - i)).toList.length)).toArray, ?_, ⟨hti, .inr ⟨g, cap, _, rfl, hb, setRow_heap w g cur _ e _ hg, by omega, hcm, ?_, ?_⟩⟩, ⟨rfl, rfl, rfl, by simp, fun k _ hk => setRow_other w g k _ (fun e => hk (by rw [e]))⟩⟩
    · intro c
      have hall : ∀ v ∈ (Builtin.zeroCells z.cells (n - i)).toList, v.oneCell' = true := by
        intro v hv
        simp [Builtin.zeroCells] at hv
        obtain ⟨a, ha, rfl⟩ := hv
        refine ho _ ?_
        have hm : a % z.cells.size < z.cells.size := Nat.mod_lt _ (by omega)
        simp [hm]
      have hst := run_storeCells_at (P := P) g (i * 2) e (Builtin.zeroCells z.cells (n - i)).toList 0 cur w hg (by rw [hzl]; omega) hall
      obtain ⟨m, hm⟩ : ∃ m, n - i = m + 1 := ⟨n - i - 1, by omega⟩
      rw [hm] at hst ⊢
      simp only [Builtin.clear_]
      simp [run_underlying ht, hz, hst]
    · rw [List.size_toArray, List.length_append, List.length_append, hzl, List.length_take, List.length_drop, Array.length_toList, hcs]; omega
    · have hcl : i * 2 ≤ cur.toList.length := by rw [Array.length_toList, hcs]; omega
      rw [List.toList_toArray, Nat.add_zero, List.append_assoc, List.take_append_of_le_length (by rw [List.length_take]; omega), List.take_take, Nat.min_self, ← htake, List.take_take, Nat.min_eq_left (by omega)]
theorem wpList_clear_own {ops : Array Oper} {rest : List Oper} {o : Oper} {a : Act} {Q : Exit → Act → World → Prop} (hg : o.guard = none) (x : Operand) (t : TypeId)
    (hop : o.op = Op.call { callee := .builtin .clear, args := #[x], argTypes := #[t] }) (v : Value) (w' : World) (hx : a.eval x = v) (hrun : (Builtin.clear_ #[t] o.type #[v]).run P w = .ok (.tuple #[]) w')
    (h : wpList P ops Q rest (a.put o.dst (.tuple #[])) w') : wpList P ops Q (o :: rest) a w := by
  refine wpList_plain hg fun K hK => ?_
  unfold Oper.wp execOp
  simp only [hop, resolve, invoke, builtin, Sem.run_bind, Sem.run_pure, Result.andThen_ok, List.map_toArray, List.map_cons, List.map_nil, hx, hrun]
  exact hK _ _ h
end

def compP (l : List Dp) : List Dp := compact l
theorem grown_bel {w w1 w2 : World} {g : Nat} (h : w.grownBy w1 (some g)) (h' : Below w1.heap.size w1 w2) : w.grownBy w2 (some g) :=
  ⟨h'.os.trans h.os, h'.tape.trans h.tape, h'.output.trans h.output, Nat.le_trans h.size h'.size, fun k hk hne => (h'.block k (Nat.lt_of_lt_of_le hk h.size)).trans (h.block k hk hne)⟩
theorem grown_cell {w w1 : World} {g o : Nat} (v : Value) (h : w.grownBy w1 (some g)) : w.grownBy (w1.setCell ⟨g, o, none⟩ v) (some g) := grown_trans h (grown_set w1 g o v)

set_option maxRecDepth 100000 in
set_option maxHeartbeats 8000000 in
theorem compact_any {w : World} {B n cap : Nat} {p : Option Addr} {l : List Dp} (h : w.ownsRow B 35 2 (.slice p n cap) n (dps l)) (hn : n = l.length) :
    Calls Try.prog 41 #[.slice p n cap] w fun e w' => e = .returned (.slice p (compP l).length cap) ∧ w'.ownsRow B 35 2 (.slice p (compP l).length cap) (compP l).length (dps (compP l)) ∧ w.grownBy w' (Value.slice p n cap).ownBlock := by
  have hS := Sl.of_own h
  have l1 := hS.le
  have l2 := hS.big
  unfold compP
  by_cases h2 : n < 2
  · have e : compact l = l := compact_all l fun j hj => keeps_lt_one _ j (by omega)
    rw [e]
    subst hn
    have HO0 := Lib.hid h
    clear h hS e
    go_enter Try.func41, Try.ntmps41
    go_wp2_with fail
    go_ret
    exact ⟨rfl, HO0.out, World.grownBy.refl _ _⟩
  · obtain ⟨g, hp, hBg, hg⟩ : ∃ g, p = some ⟨g, 0, none⟩ ∧ B ≤ g ∧ g < w.heap.size := by
      rcases h.2 with ⟨-, e⟩ | ⟨g, cap', cur, hv, hb, hg, -⟩
      · omega
      · simp only [Value.slice.injEq, true_and] at hv
        exact ⟨g, hv.1, hb, (Array.getElem?_eq_some_iff.1 hg).1⟩
    subst hp
    have H := Lib.hid h
    have HN := Lib.hid hn
    have h2b : decide ((n : Int) < 2) = false := by simp; omega
    clear h hS hn
    obtain ⟨R, hR⟩ : ∃ R, R = compact l := ⟨_, rfl⟩
    rw [← hR]
    have HR := Lib.hid hR
    clear hR
    go_enter Try.func41, Try.ntmps41
    go_wp2_with fail
    go_loopg [3] n (fun gx s wr => ∃ k : Nat, 1 ≤ k ∧ k ≤ n ∧ n - k ≤ gx ∧ s = .int .i64 k ∧ Hid (wr.ownsRow B 35 2 (.slice (some ⟨g, 0, none⟩) n cap) n (dps l)) ∧ w.grownBy wr (some g) ∧ Hid (∀ j, j < k → keeps l.toArray j = true))
    case atStart => exact ⟨1, Nat.le_refl _, by omega, by omega, rfl, H.out, World.grownBy.refl _ _, keeps_lt_one _⟩
    case round =>
      clear H
      obtain ⟨k, hk1, hk, hgx, rfl, H, hbl, hall⟩ := hrel
      by_cases hlt : k < n
      · obtain ⟨m, rfl⟩ : ∃ m, k = m + 1 := ⟨k - 1, by omega⟩
        have c1 := own_dp H.out (i := m + 1) (by have := HN.out; omega) HN.out
        have c0 := own_dp H.out (i := m) (by have := HN.out; omega) HN.out
        have hq := fun W => run_eqIn_dp W (l.getD (m + 1) .z).i (l.getD (m + 1) .z).j (l.getD m .z).i (l.getD m .z).j
        have t0 := cell_regrown c1.1; have t1 := cell_regrown c1.2; have t2 := cell_regrown c0.1; have t3 := cell_regrown c0.2
        have hkp : decide ((l.getD (m + 1) .z) = (l.getD m .z)) = !keeps l.toArray (m + 1) := by
          unfold keeps
          rw [bang_toArray, bang_toArray, Nat.add_sub_cancel]
          simp
        rw [hkp] at hq
        have hmn : (m : Int) + 1 < (n : Int) := by omega
        have hmn0 : (m : Int) < (n : Int) := by omega
        have hwr : IntKind.i64.wrap ((m : Int) + 1 - 1) = (m : Int) := by rw [show (m : Int) + 1 - 1 = (m : Int) from by omega]; exact IntWalk.i64_in _ (by omega)
        have hm1 : ((m : Int) + 1).toNat = m + 1 := by omega
        have hm2 : (0 : Int) ≤ (m : Int) + 1 := by omega
        clear c1 c0 hkp
        generalize (l.getD (m + 1) .z).i = x1 at *
        generalize (l.getD (m + 1) .z).j = x2 at *
        generalize (l.getD m .z).i = y1 at *
        generalize (l.getD m .z).j = y2 at *
        have hb1 : decide ((m : Int) + 1 < (n : Int)) = true := by simp; omega
        have hown := fun W (hb : Below wr.heap.size wr W) => own_below H.out hb
        have HO := Lib.hid hown
        clear hown
        cases hkb : keeps l.toArray (m + 1) with
        | false =>
          rw [hkb] at hq
          have HKB := Lib.hid hkb
          clear hkb
          go_wp2_with fail
          refine quiet_below rfl (by kernel_rfl) (by kernel_rfl) ?_
          repeat (go_big_quiet_step (fail))
          refine wpQuiet_nil ?_
          intro w10 hb10
          have H10 : Hid (w10.ownsRow B 35 2 (.slice (some ⟨g, 0, none⟩) n cap) n (dps l)) := HO.out _ hb10
          have hbl10 := grown_bel hbl hb10
          have HCI : Hid (CompInv l.toArray (m + 1 + 1) (m + 1) l.toArray) := CompInv.start hall.out HKB.out
          clear t0 t1 t2 t3 hq hb10 HO hbl hwr hm1 hm2
          go_wp2_with fail
          go_loopg [3, 5] n (fun gx s3 s5 wi => ∃ (kk k2 : Nat) (dk : List Dp), s3 = .int .i64 kk ∧ s5 = .int .i64 k2 ∧ 1 ≤ k2 ∧ m + 1 + k2 ≤ n ∧ n - (m + 1 + k2) ≤ gx ∧ Hid (wi.ownsRow B 35 2 (.slice (some ⟨g, 0, none⟩) n cap) n (dps dk)) ∧ w.grownBy wi (some g) ∧ Hid (CompInv l.toArray (m + 1 + k2) kk dk.toArray) ∧ kk ≤ m + k2)
          case atStart => exact ⟨m + 1, 1, l, by go_num, rfl, Nat.le_refl _, by omega, by omega, H10.out, hbl10, HCI.out, by omega⟩
          case round =>
            clear H10 hbl10 HCI
            obtain ⟨kk, k2, dk, rfl, rfl, hk2, hle, hgx2, H2, hbl, hI, hkk⟩ := hrel
            have HDN : Hid (n = dk.length) := by have := hI.out.size; simp at this; have := HN.out; show _ = _; omega
            by_cases hlt2 : m + 1 + k2 < n
            · obtain ⟨j, rfl⟩ : ∃ j, k2 = j + 1 := ⟨k2 - 1, by omega⟩
              have c1 := own_dp H2.out (i := m + 1 + (j + 1)) (by have := HDN.out; omega) HDN.out
              have c0 := own_dp H2.out (i := m + 1 + j) (by have := HDN.out; omega) HDN.out
              have g1 : dk.getD (m + 1 + (j + 1)) .z = l.getD (m + 1 + (j + 1)) .z := by rw [← bang_toArray, ← bang_toArray]; exact hI.out.high _ (by omega)
              have g0 : dk.getD (m + 1 + j) .z = l.getD (m + 1 + j) .z := by rw [← bang_toArray, ← bang_toArray]; exact hI.out.high _ (by omega)
              rw [g1] at c1
              rw [g0] at c0
              have hkp : decide ((l.getD (m + 1 + (j + 1)) .z) = (l.getD (m + 1 + j) .z)) = !keeps l.toArray (m + 1 + (j + 1)) := by
                unfold keeps
                rw [bang_toArray, bang_toArray, show m + 1 + (j + 1) - 1 = m + 1 + j from by omega]
                simp
              have hcI := fun h : keeps l.toArray (m + 1 + (j + 1)) = true => hI.out.keep (by have := HN.out; simp; omega) h
              have hcS := fun h : keeps l.toArray (m + 1 + (j + 1)) = false => hI.out.skip h
              rw [bang_toArray, List.setIfInBounds_toArray] at hcI
              have hq := fun W => run_eqIn_dp W (l.getD (m + 1 + (j + 1)) .z).i (l.getD (m + 1 + (j + 1)) .z).j (l.getD (m + 1 + j) .z).i (l.getD (m + 1 + j) .z).j
              rw [hkp] at hq
              obtain ⟨X, hX⟩ : ∃ X, l.getD (m + 1 + (j + 1)) .z = X := ⟨_, rfl⟩
              rw [hX] at c1 hq hcI
              have HX := Lib.hid hX
              clear hX
              obtain ⟨x1, x2⟩ := X
              generalize (l.getD (m + 1 + j) .z).i = y1 at *
              generalize (l.getD (m + 1 + j) .z).j = y2 at *
              dsimp only at c1 c0 hq
              rw [show (m + 1 + (j + 1)) * 2 = (m + 1) * 2 + (j + 1) * 2 from by omega] at c1
              rw [show (m + 1 + j) * 2 = (m + 1) * 2 + j * 2 from by omega] at c0
              have t0 := cell_regrown c1.1; have t1 := cell_regrown c1.2; have t2 := cell_regrown c0.1; have t3 := cell_regrown c0.2
              have hjn : (j : Int) + 1 < ((n - (m + 1) : Nat) : Int) := by omega
              have hjn0 : (j : Int) < ((n - (m + 1) : Nat) : Int) := by omega
              have hwr : IntKind.i64.wrap ((j : Int) + 1 - 1) = (j : Int) := by rw [show (j : Int) + 1 - 1 = (j : Int) from by omega]; exact IntWalk.i64_in _ (by omega)
              have hm1 : ((j : Int) + 1).toNat = j + 1 := by omega
              have hm2 : (0 : Int) ≤ (j : Int) + 1 := by omega
              have hjb : decide ((j : Int) + 1 < ((n - (m + 1) : Nat) : Int)) = true := by simp; omega
              have HO2 := Lib.hid (fun W (hb : Below wr.heap.size wr W) => own_below H2.out hb)
              have HCI := Lib.hid hcI
              have HCS := Lib.hid hcS
              clear c1 c0 g1 g0 hkp hcI hcS
              cases hkb : keeps l.toArray (m + 1 + (j + 1)) with
              | false =>
                rw [hkb] at hq
                have HKB2 := Lib.hid hkb
                clear hkb
                go_wp2_with fail
                refine quiet_below rfl (by kernel_rfl) (by kernel_rfl) ?_
                repeat (go_big_quiet_step (fail))
                refine wpQuiet_nil ?_
                intro w10 hb10
                have H10 := Lib.hid (HO2.out _ hb10)
                have hbl10 := grown_bel hbl hb10
                clear t0 t1 t2 t3 hq hb10 HO2 hbl hwr hm1 hm2
                go_wp2_with fail
                go_roundg (n - (m + 1 + (j + 2)))
                case measure => omega
                case rel => exact ⟨kk, j + 2, dk, rfl, by go_num, by omega, by omega, Nat.le_refl _, H10.out, hbl10, HCS.out HKB2.out, by omega⟩
              | true =>
                rw [hkb] at hq
                have HKB2 := Lib.hid hkb
                clear hkb
                go_wp2_with fail
                refine quiet_below rfl (by kernel_rfl) (by kernel_rfl) ?_
                repeat (go_big_quiet_step (fail))
                refine wpQuiet_nil ?_
                intro w10 hb10
                have H10 := Lib.hid (HO2.out _ hb10)
                have hbl10 := grown_bel hbl hb10
                have c5 := own_dp H10.out (i := kk) (by have := HDN.out; omega) HDN.out
                have c6 := own_dp H10.out (i := m + 1 + (j + 1)) (by have := HDN.out; omega) HDN.out
                have f5 := H10.out.frozenAt (kk * 2)
                have f6 := H10.out.frozenAt (kk * 2 + 1)
                have hkn : (kk : Int) < (n : Int) := by omega
                rw [show (m + 1 + (j + 1)) * 2 = (m + 1) * 2 + (j + 1) * 2 from by omega] at c6
                have g1 : dk.getD (m + 1 + (j + 1)) .z = l.getD (m + 1 + (j + 1)) .z := by rw [← bang_toArray, ← bang_toArray]; exact hI.out.high _ (by omega)
                rw [g1, HX.out] at c6
                obtain ⟨c5a, c5b⟩ := c5
                obtain ⟨c6a, c6b⟩ := c6
                clear t0 t1 t2 t3 hq hb10 HO2 hbl g1
                generalize (dk.getD kk .z).i = o1 at *
                generalize (dk.getD kk .z).j = o2 at *
                have HS := Lib.hid (own_setP H10.out kk ⟨x1, x2⟩)
                have hblS := grown_cell (o := kk * 2 + 1) (.int .i64 x2) (grown_cell (o := kk * 2) (.int .i64 x1) hbl10)
                dsimp only at HS
                clear hbl10
                go_wp2_with fail
                go_roundg (n - (m + 1 + (j + 2)))
                case measure => omega
                case rel => exact ⟨kk + 1, j + 2, dk.set kk ⟨x1, x2⟩, by go_num, by go_num, by omega, by omega, Nat.le_refl _, HS.out, hblS, HCI.out HKB2.out, by omega⟩
            · have hkn2 : n - (m + 1) = k2 := by omega
              have hfin : CompInv l.toArray l.toArray.size kk dk.toArray := by
                have := hI.out
                rwa [show m + 1 + k2 = l.toArray.size from by have := HN.out; simp; omega] at this
              have hlen : (compact l).length = kk := by have := hfin.len; simpa [compact] using this
              have htk : dk.take kk = compact l := by
                apply List.ext_getElem?
                intro i
                by_cases hi : i < kk
                · rw [List.getElem?_take_of_lt hi]
                  have := hfin.low i hi
                  rw [bang_toArray] at this
                  have h3 : i < dk.length := by have := HDN.out; omega
                  rw [List.getD_eq_getElem?_getD, List.getElem?_eq_getElem h3, Option.getD_some] at this
                  unfold compact
                  rw [List.size_toArray] at this
                  rw [this, List.getElem?_eq_getElem h3]
                · rw [List.getElem?_eq_none (by rw [List.length_take]; omega), List.getElem?_eq_none (by omega)]
              have hR := HR.out
              obtain ⟨wc, hcl, hownc, hgc⟩ := run_clear_own2 (ty := 0) (i := kk) Try.underlying28 Try.zeroValue35 (by rfl) (by intro v hv; simp [Value.cells] at hv; rcases hv with rfl | rfl <;> rfl) H2.out (by omega)
              rw [← dps_take, htk, ← hR] at hownc
              rw [← hR] at hlen
              have hblc : w.grownBy wc (some g) := grown_trans hbl hgc
              have HOC := Lib.hid hownc
              have hkb : decide ((k2 : Int) < ((n - (m + 1) : Nat) : Int)) = false := by simp; omega
              have hkn : kk < n := by omega
              clear hfin htk hR hI
              go_wp2_with (refine wpList_clear_own rfl _ 28 rfl _ wc rfl (hcl _) ?_)
              subst hlen
              go_ret
              exact ⟨rfl, HOC.out, hblc⟩
        | true =>
          rw [hkb] at hq
          have HKB := Lib.hid hkb
          clear hkb
          go_wp2_with fail
          refine quiet_below rfl (by kernel_rfl) (by kernel_rfl) ?_
          repeat (go_big_quiet_step (fail))
          refine wpQuiet_nil ?_
          intro w10 hb10
          have H10 := Lib.hid (HO.out _ hb10)
          have hbl10 := grown_bel hbl hb10
          clear t0 t1 t2 t3 hq hb10 HO hbl hwr hm1 hm2
          go_wp2_with fail
          go_roundg (n - (m + 2))
          case measure => omega
          case rel =>
            refine ⟨m + 2, by omega, by omega, Nat.le_refl _, by go_num, H10.out, hbl10, fun j hj => ?_⟩
            by_cases e : j = m + 1
            · subst e; exact HKB.out
            · exact hall.out j (by omega)
      · obtain rfl : k = n := by omega
        have e : compact l = l := compact_all l fun j hj => hall.out j (by have := HN.out; omega)
        have hR := HR.out
        rw [e] at hR
        subst hR
        have hn2 := HN.out
        subst hn2
        clear hall e
        go_wp2_with fail
        go_ret
        exact ⟨rfl, H.out, hbl⟩
end Go.Proofs.Ytiaaoajnecppnaa
