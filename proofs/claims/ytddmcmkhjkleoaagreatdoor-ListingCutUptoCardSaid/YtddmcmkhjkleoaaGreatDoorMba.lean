/-
  Pn, Bg, Bk, As, in one.
-/
import Derived.Test.YtddmcmkhjkleoaaGreatDoorMaz
import Derived.Test.YtddmcmkhjkleoaaGreatDoorMal
import Derived.Test.YtddmcmkhjkleoaaGreatDoorMas
import Derived.Test.YtddmcmkhjkleoaaGreatDoorMay
import Derived.Test.YtddmcmkhjkleoaaGreatDoorMaq
import Derived.Test.YtddmcmkhjkleoaaGreatDoorMar
section
namespace Go.Proofs.YtddmcmkhjkleoaaGreatDoor

theorem spW_pl {l : List Int} : ∀ x ∈ l.map Lib.itoa, Pl x := fun x hx => by
  obtain ⟨n, -, rfl⟩ := List.mem_map.1 hx
  exact itoa_pl n
theorem any_no {l : List Int} (h : ∀ n ∈ l, in64 n) : (l.map Lib.itoa).any numB = false := by
  rw [List.any_map, List.any_eq_false]
  intro n hn
  have := (num_back (h n hn)).2
  simp [this]
theorem map_back {l : List Int} (h : ∀ n ∈ l, in64 n) : (l.map Lib.itoa).map numV = l := by
  rw [List.map_map]
  conv => rhs; rw [← List.map_id l]
  exact List.map_congr_left fun n hn => (num_back (h n hn)).1
/-! ### Constants -/
def cwords (v : Int × Int) : List (List UInt8) :=
  if v.1 = 0 then [[110, 105, 108]] else if v.1 = 1 then [if v.2 == 1 then [116, 114, 117, 101] else [102, 97, 108, 115, 101]] else if v.1 = 2 then [[105, 110, 116], Lib.itoa v.2]
  else if v.1 = 3 then [[102, 108, 111, 97, 116], Lib.itoa v.2] else if v.1 = 4 then [[116, 101, 120, 116], Lib.itoa v.2] else [[99, 97, 108, 108], Lib.itoa v.2]
theorem cwords_pl (v : Int × Int) : ∀ x ∈ cwords v, Pl x := by
  have h1 := itoa_pl v.2
  intro x hx
  unfold cwords at hx
  (repeat' split at hx) <;> simp only [List.mem_cons, List.not_mem_nil, or_false] at hx <;> (first | (rcases hx with rfl | rfl) | subst hx) <;> first | exact h1 | exact .of (by decide)
theorem constW_eq (v : Int × Int) : 32 :: constW v = spW (cwords v) := by
  have e0 : strU "nil" = [110, 105, 108] := by decide +kernel
  have e2 : strU "int" = [105, 110, 116] := by decide +kernel
  have e3 : strU "float" = [102, 108, 111, 97, 116] := by decide +kernel
  have e4 : strU "text" = [116, 101, 120, 116] := by decide +kernel
  have e5 : strU "call" = [99, 97, 108, 108] := by decide +kernel
  have eb : ∀ b : Bool, Lib.formatBool b = if b = true then [116, 114, 117, 101] else [102, 97, 108, 115, 101] := by decide +kernel
  unfold constW cwords
  rw [e0, e2, e3, e4, e5, eb]
  (repeat' split) <;> simp [spW, numsM]
theorem const_back {P : PrR} {v : Int × Int} (h : constM P v = true) (h2 : in64 v.2) : constL (cwords v) = (v, false) := by
  obtain ⟨k, n⟩ := v
  simp only at h2
  obtain ⟨n1, n2⟩ := num_back h2
  unfold constM at h
  simp only [Bool.and_eq_true, Bool.not_eq_true'] at h
  obtain ⟨⟨h1, h3⟩, -⟩ := h
  unfold rightM at h1
  by_cases k0 : k = 0
  · subst k0
    rw [if_pos rfl, beq_iff_eq] at h1
    subst h1; rfl
  rw [if_neg k0] at h1
  by_cases k1 : k = 1
  · subst k1
    rw [if_pos rfl] at h1
    unfold wi at h1
    rw [Bool.and_eq_true, decide_eq_true_eq, decide_eq_true_eq] at h1
    have : n = 0 ∨ n = 1 := by omega
    rcases this with rfl | rfl <;> rfl
  rw [if_neg k1] at h1
  by_cases k2 : k = 2
  · subst k2; simp [cwords, constL, kindN, n1, n2]
  rw [if_neg k2] at h1
  by_cases k3 : k = 3
  · subst k3; simp [cwords, constL, kindN, n1, n2]
  rw [if_neg k3] at h1
  by_cases k4 : k = 4
  · subst k4; simp [cwords, constL, kindN, n1, n2]
  have k5 : k ≠ 5 := by simpa using h3
  by_cases k6 : k = 6
  · subst k6; simp [cwords, constL, kindN, n1, n2]
  · rw [if_neg (by omega), if_neg k6] at h1; cases h1
theorem pre_const {y : List UInt8} (h0 : y ≠ []) (h : y <+: constW') : y ≠ fnW ∧ y ≠ genW := by
  rcases pre_cons h with rfl | ⟨t, rfl, -⟩
  · exact absurd rfl h0
  · constructor <;> (intro e; injection e with e1 _; exact absurd e1 (by decide))
theorem step_const {P a : PrR} {v : Int × Int} (hf : a.fns = []) (hc : a.consts ++ [v] <+: P.consts) (ht : a.texts <+: P.texts) (hv : constM P v = true) (hn : in64 v.2) : Step P a (constW' ++ (32 :: constW v)) ⟨a.fns, a.consts ++ [v], a.texts⟩ := by
  have hl := hc.length_le
  rw [List.length_append, List.length_singleton] at hl
  have hB : ∀ cs : List (Int × Int), cs.length ≤ a.consts.length + 1 → Beg ⟨a.fns, cs, a.texts⟩ P := fun cs h => ⟨ht, by show cs.length ≤ _; omega, .inl hf⟩
  rw [constW_eq]
  refine Step.words (b0 := []) (w := constW') (fun c h => by cases h) (.of (by decide)) (by decide) (cwords_pl v) ?_ (hB a.consts (by omega)) ?_
  · unfold lineW
    dsimp only
    rw [if_pos rfl, const_back hv hn, if_neg (fun h => by cases h)]
  · intro k y z q hy hz hyz hq
    cases k with
    | zero =>
      cases hz
      have hy2 := pre_const hy hyz
      rw [List.take_zero, List.nil_append] at hq
      unfold lineW at hq
      dsimp only at hq
      by_cases e : y = constW'
      · subst e
        rw [if_pos rfl, if_pos (by decide)] at hq; cases hq
      · rw [if_neg e, if_neg (by rintro (e | e); exact hy2.1 e; exact hy2.2 e), hf] at hq
        cases hq
    | succ k =>
      rw [List.take_succ_cons, List.cons_append] at hq
      unfold lineW at hq
      dsimp only at hq
      rw [if_pos rfl] at hq
      split at hq
      · cases hq
      · cases hq
        exact hB _ (by simp)
/-! ### Functions -/
section
variable {P : PrR} {j : Nat} {y : FnR}
/-- What is read inside the j-th function. -/
abbrev mid (P : PrR) (j : Nat) (x : FnR) : PrR := ⟨P.fns.take j ++ [x], P.consts, P.texts⟩
theorem beg_mid (hj : P.fns[j]? = some y) {x : FnR} (h : Frag x y) : Beg (mid P j x) P := ⟨List.prefix_refl _, Nat.le_refl _, .inr ⟨j, x, y, rfl, hj, h⟩⟩
theorem last_mid (x : FnR) : (mid P j x).fns.getLast? = some x := by simp
theorem drop_mid (x : FnR) : (mid P j x).fns.dropLast = P.fns.take j := by simp
/-- Words of one kind or another, cut. -/
def cutN (w : List UInt8) : Bool := (List.range (w.length - 1)).all fun n => decide (w.take (n + 1) ≠ constW') && decide (w.take (n + 1) ≠ fnW) && decide (w.take (n + 1) ≠ genW) && decide (w.take (n + 1) ≠ caughtW) && (opM (w.take (n + 1))).isNone
theorem cut_of {w z : List UInt8} (hw : cutN w = true) (hz : z ≠ []) (hp : z <+: w) (hn : z ≠ w) : z ≠ constW' ∧ z ≠ fnW ∧ z ≠ genW ∧ z ≠ caughtW ∧ opM z = none := by
  have hl := hp.length_le
  have hz1 : 0 < z.length := List.length_pos_iff.2 hz
  have hne : z.length ≠ w.length := fun e => hn (hp.eq_of_length e)
  have e : z = w.take (z.length - 1 + 1) := by
    rw [show z.length - 1 + 1 = z.length by omega]; exact List.prefix_iff_eq_take.1 hp
  unfold cutN at hw
  rw [List.all_eq_true] at hw
  have h1 := hw (z.length - 1) (List.mem_range.2 (by omega))
  rw [← e] at h1
  simp only [Bool.and_eq_true, decide_eq_true_eq, Option.isNone_iff_eq_none] at h1
  exact ⟨h1.1.1.1.1, h1.1.1.1.2, h1.1.1.2, h1.1.2, h1.2⟩
theorem cut_ws : cutN fnW = true ∧ cutN genW = true ∧ cutN caughtW = true := by decide +kernel
theorem line_cutw {a q : PrR} {w z : List UInt8} (hw : cutN w = true) (hz : z ≠ []) (hp : z <+: w) (hn : z ≠ w) (h : lineW a [z] = some q) : False := by
  obtain ⟨h1, h2, h3, h4, h5⟩ := cut_of hw hz hp hn
  unfold lineW at h
  dsimp only at h
  rw [if_neg h1, if_neg (by rintro (e | e); exact h2 e; exact h3 e)] at h
  cases e : a.fns.getLast? with
  | none => rw [e] at h; cases h
  | some f => rw [e] at h; dsimp only at h; rw [if_neg h4, h5] at h; cases h
def headW (y : FnR) : List UInt8 := if y.gen = true then genW else fnW
theorem step_head (hj : P.fns[j]? = some y) (h1 : in64 y.params) (h2 : in64 y.regs) : Step P ⟨P.fns.take j, P.consts, P.texts⟩ (headW y ++ spW [Lib.itoa y.params, Lib.itoa y.regs]) (mid P j ⟨y.params, y.regs, y.gen, [], []⟩) := by
  obtain ⟨a1, a2⟩ := num_back h1
  obtain ⟨b1, b2⟩ := num_back h2
  have hw : headW y = fnW ∨ headW y = genW := by unfold headW; split; exact .inr rfl; exact .inl rfl
  have hpl : Pl (headW y) := by rcases hw with e | e <;> rw [e] <;> exact .of (by decide)
  have hm : mism (headW y) = true := by rcases hw with e | e <;> rw [e] <;> decide
  have hcut : cutN (headW y) = true := by rcases hw with e | e <;> rw [e]; exact cut_ws.1; exact cut_ws.2.1
  have hc : headW y ≠ constW' := by rcases hw with e | e <;> rw [e] <;> decide
  have hg : genB (headW y) = y.gen := by unfold headW; cases y.gen <;> rfl
  refine Step.words (b0 := []) (fun c h => by cases h) hpl hm (fun x hx => ?_) ?_ (Beg.whole (List.prefix_refl _) (Nat.le_refl _) rfl) ?_
  · simp only [List.mem_cons, List.not_mem_nil, or_false] at hx
    rcases hx with rfl | rfl <;> exact itoa_pl _
  · unfold lineW
    dsimp only
    rw [if_neg hc, if_pos hw, a1, b1, a2, b2, hg]; rfl
  · intro k u z q hu hz hp hq
    match k, hz, hq with
    | 0, hz, hq =>
      cases hz
      by_cases e : u = headW y
      · subst e
        exfalso
        rw [List.take_zero, List.nil_append] at hq
        unfold lineW at hq
        dsimp only at hq
        rw [if_neg hc, if_pos hw] at hq; cases hq
      · exact (line_cutw hcut hu hp e hq).elim
    | 1, hz, hq =>
      exfalso
      have hq : lineW _ [headW y, u] = some q := hq
      unfold lineW at hq
      dsimp only at hq
      rw [if_neg hc, if_pos hw] at hq; cases hq
    | 2, hz, hq =>
      have hq : lineW _ [headW y, Lib.itoa y.params, u] = some q := hq
      unfold lineW at hq
      dsimp only at hq
      rw [if_neg hc, if_pos hw] at hq
      split at hq
      · cases hq
      · cases hq
        rw [a1, hg]
        exact beg_mid hj ⟨rfl, rfl, .inl (List.nil_prefix)⟩
    | k + 3, hz, _ => simp at hz
theorem step_caught (hj : P.fns[j]? = some y) (h1 : ∀ n ∈ y.caught, in64 n) : Step P (mid P j ⟨y.params, y.regs, y.gen, [], []⟩) (caughtW ++ spW (y.caught.map Lib.itoa)) (mid P j ⟨y.params, y.regs, y.gen, y.caught, []⟩) := by
  have hB : ∀ c, Beg (mid P j ⟨y.params, y.regs, y.gen, c, []⟩) P := fun c => beg_mid hj ⟨rfl, rfl, .inl (List.nil_prefix)⟩
  have n1 : caughtW ≠ constW' := by decide
  have n2 : ¬ (caughtW = fnW ∨ caughtW = genW) := by decide
  refine Step.words (b0 := []) (w := caughtW) (fun c h => by cases h) (.of (by decide)) (by decide) spW_pl ?_ (hB []) ?_
  · unfold lineW
    dsimp only
    rw [if_neg n1, if_neg n2, last_mid]
    dsimp only
    rw [if_pos rfl, any_no h1, if_neg (by decide), map_back h1]
    show some (PrR.mk ((mid P j _).fns.dropLast ++ _) _ _) = _
    rw [drop_mid]; rfl
  · intro k u z q hu hz hp hq
    have key : ∀ l : List (List UInt8), lineW (mid P j ⟨y.params, y.regs, y.gen, [], []⟩) (caughtW :: l) = some q → Beg q P := fun l hq => by
      unfold lineW at hq
      dsimp only at hq
      rw [if_neg n1, if_neg n2, last_mid] at hq
      dsimp only at hq
      rw [if_pos rfl] at hq
      split at hq
      · cases hq
      · cases hq
        have := hB ([] ++ l.map numV)
        unfold mid at this
        rwa [← drop_mid (P := P) (j := j) ⟨y.params, y.regs, y.gen, [], []⟩] at this
    cases k with
    | zero =>
      cases hz
      by_cases e : u = caughtW
      · subst e; exact key [] hq
      · exact (line_cutw cut_ws.2.2 hu hp e hq).elim
    | succ k => exact key _ hq
end
/-! ### Orders -/
def opOk (n : Nat) : Bool :=
  let w := lwordsL.getD n []
  let m := namedM w
  let cs := formsL.getD n []
  plB w && mism w && decide (w ≠ constW') && decide (w ≠ fnW) && decide (w ≠ genW) && decide (w ≠ caughtW) && (opM w == some (n : Int)) && decide (m ≤ 3) && decide (cs.length = 3) && (decide (3 ≤ m) || cs.getD 2 0 == 45) && (decide (2 ≤ m) || cs.getD 1 0 == 45) && (decide (1 ≤ m) || cs.getD 0 0 == 45)
    && ((List.range 9).all fun k => decide (w.take k ≠ constW') && decide (w.take k ≠ fnW) && decide (w.take k ≠ genW) && decide (w.take k ≠ caughtW)) && decide (w.length ≤ 8)
theorem op_all : ∀ n : Fin 39, 1 ≤ n.1 → opOk n.1 = true := by decide +kernel
theorem names_none {p : PrR} {f : FnR} {n : Int} (h : namesM p f 45 n = true) : n = 0 := by
  unfold namesM at h
  simpa using h
structure InsOk (i : InR) : Prop where
  op : 1 ≤ i.op ∧ i.op < 39
  c : namedM (lwordsL.getD i.op.toNat []) ≤ 2 → i.c = 0
  b : namedM (lwordsL.getD i.op.toNat []) ≤ 1 → i.b = 0
  a : namedM (lwordsL.getD i.op.toNat []) ≤ 0 → i.a = 0
theorem ins_ok {p : PrR} {f : FnR} {k : Nat} {i : InR} (h : orderM p f k i = true) : InsOk i := by
  have ho := order_op h
  have hop := op_all ⟨i.op.toNat, by omega⟩ (by dsimp only; omega)
  unfold opOk at hop
  simp only [Bool.and_eq_true, decide_eq_true_eq] at hop
  obtain ⟨⟨⟨⟨⟨⟨⟨_, _⟩, hl⟩, h2⟩, h1⟩, h0⟩, _⟩, _⟩ := hop
  unfold orderM at h
  have e : formM i.op = formsL.getD i.op.toNat [] := if_neg (by omega)
  rw [e] at h
  generalize formsL.getD i.op.toNat [] = cs at *
  generalize hmm : namedM (lwordsL.getD i.op.toNat []) = m at *
  match cs, hl, h with
  | [c0, c1, c2], _, h =>
    dsimp only at h
    have g : ∀ {b : Bool} {x : Bool}, (if (!b) = true then false else x) = true → b = true ∧ x = true := fun {b x} h => by cases b <;> simp_all
    obtain ⟨-, h⟩ := g h
    obtain ⟨k0, h⟩ := g h
    obtain ⟨k1, h⟩ := g h
    obtain ⟨k2, -⟩ := g h
    simp only [List.getD_cons_zero, List.getD_cons_succ, Bool.or_eq_true, decide_eq_true_eq, beq_iff_eq] at h0 h1 h2
    refine ⟨ho, fun hm => ?_, fun hm => ?_, fun hm => ?_⟩
    · rw [hmm] at hm; rw [h2.resolve_left (by omega)] at k2; exact names_none k2
    · rw [hmm] at hm; rw [h1.resolve_left (by omega)] at k1; exact names_none k1
    · rw [hmm] at hm; rw [h0.resolve_left (by omega)] at k0; exact names_none k0
theorem orders_ok {p : PrR} {f : FnR} : ∀ {l : List InR} {k : Nat}, ordersM p f l k = true → ∀ i ∈ l, InsOk i
  | [], _, _, i, hi => by cases hi
  | j :: l, k, h, i, hi => by
    unfold ordersM at h
    split at h
    · next h1 =>
      rcases List.mem_cons.1 hi with rfl | hi
      · exact ins_ok h1
      · exact orders_ok h i hi
    · cases h
def owords (i : InR) : List (List UInt8) := ([i.a, i.b, i.c].take (namedM (lwordsL.getD i.op.toNat []))).map Lib.itoa ++ [64 :: Lib.itoa i.line]
def orderLn (i : InR) : List UInt8 := [32] ++ (lwordsL.getD i.op.toNat [] ++ spW (owords i))
theorem orderT_eq (i : InR) : orderT i = orderLn i ++ [10] := by
  unfold orderT orderLn owords
  have e : strU " @" = [32, 64] := by decide +kernel
  dsimp only
  rw [spW_app, ← spW_nums, e]
  simp [spW]
theorem op_facts {i : InR} (h : InsOk i) : ∃ w m, lwordsL.getD i.op.toNat [] = w ∧ namedM w = m ∧ Pl w ∧ mism w = true ∧ w ≠ constW' ∧ ¬ (w = fnW ∨ w = genW) ∧ w ≠ caughtW ∧ opM w = some i.op ∧ m ≤ 3 ∧ (m ≤ 2 → i.c = 0) ∧ (m ≤ 1 → i.b = 0) ∧ (m ≤ 0 → i.a = 0) ∧
    ∀ z, z <+: w → z ≠ constW' ∧ ¬ (z = fnW ∨ z = genW) ∧ z ≠ caughtW := by
  have ho := h.op
  have hop := op_all ⟨i.op.toNat, by omega⟩ (by dsimp only; omega)
  unfold opOk at hop
  simp only [Bool.and_eq_true, decide_eq_true_eq, List.all_eq_true, beq_iff_eq] at hop
  obtain ⟨⟨⟨⟨⟨⟨⟨⟨⟨⟨⟨⟨⟨q1, q2⟩, q3⟩, q4⟩, q5⟩, q6⟩, q7⟩, q8⟩, -⟩, -⟩, -⟩, -⟩, q9⟩, q10⟩ := hop
  refine ⟨_, _, rfl, rfl, .of q1, q2, q3, by rintro (e | e); exact q4 e; exact q5 e, q6, by rw [q7]; congr 1; omega, q8, h.c, h.b, h.a, fun z hz => ?_⟩
  have hl := hz.length_le
  have e := List.prefix_iff_eq_take.1 hz
  have := q9 z.length (List.mem_range.2 (by omega))
  rw [← e] at this
  exact ⟨this.1.1.1, by rintro (e | e); exact this.1.1.2 e; exact this.1.2 e, this.2⟩
section
variable {P : PrR} {j : Nat} {y : FnR}
theorem step_order (hj : P.fns[j]? = some y) {i : InR} {m : Nat} (hi : y.code[m]? = some i) (hok : InsOk i) (h64 : in64 i.a ∧ in64 i.b ∧ in64 i.c ∧ in64 i.line) :
    Step P (mid P j ⟨y.params, y.regs, y.gen, y.caught, y.code.take m⟩) (orderLn i) (mid P j ⟨y.params, y.regs, y.gen, y.caught, y.code.take (m + 1)⟩) := by
  have hm := (List.getElem?_eq_some_iff.1 hi).1
  obtain ⟨w, n, e1, e2, hpl, hmi, c1, c2, c3, hop, hn, hc, hb, ha, hpre⟩ := op_facts hok
  have hany : ∀ z, Beg (mid P j ⟨y.params, y.regs, y.gen, y.caught, y.code.take m ++ [z]⟩) P := fun z => beg_mid hj ⟨rfl, rfl, .inr ⟨m, z, hm, rfl⟩⟩
  have hl : owords i = ([i.a, i.b, i.c].take n).map Lib.itoa ++ [64 :: Lib.itoa i.line] := by unfold owords; rw [e1, e2]
  have hlen : (([i.a, i.b, i.c].take n).map Lib.itoa).length = n := by rw [List.length_map, List.length_take]; simp; omega
  have h64' : ∀ x ∈ [i.a, i.b, i.c].take n, in64 x := fun x hx => by
    have := List.mem_of_mem_take hx
    simp only [List.mem_cons, List.not_mem_nil, or_false] at this
    rcases this with rfl | rfl | rfl
    · exact h64.1
    · exact h64.2.1
    · exact h64.2.2.1
  have key : ∀ (z : List UInt8) (l : List (List UInt8)) (q : PrR), z ≠ constW' ∧ ¬ (z = fnW ∨ z = genW) ∧ z ≠ caughtW → lineW (mid P j ⟨y.params, y.regs, y.gen, y.caught, y.code.take m⟩) (z :: l) = some q → Beg q P := fun z l q hz hq => by
    unfold lineW at hq
    dsimp only at hq
    rw [if_neg hz.1, if_neg hz.2.1, last_mid] at hq
    dsimp only at hq
    rw [if_neg hz.2.2] at hq
    split at hq
    · cases hq
    · split at hq
      · cases hq
      · cases hq
        next op _ _ =>
        have := hany (orderI op (z :: l))
        unfold mid at this
        rwa [← drop_mid (P := P) (j := j) ⟨y.params, y.regs, y.gen, y.caught, y.code.take m⟩] at this
  have hr := fun (hws : ∀ x ∈ owords i, Pl x) h1 hB hc => Step.words (P := P) (a := mid P j ⟨y.params, y.regs, y.gen, y.caught, y.code.take m⟩) (b := mid P j ⟨y.params, y.regs, y.gen, y.caught, y.code.take (m + 1)⟩) (b0 := [32]) (w := w) (ws := owords i) (fun c h => by rw [List.mem_singleton.1 h]; rfl) hpl hmi hws h1 hB hc
  unfold orderLn
  rw [e1]
  refine hr (fun x hx => ?_) ?_ ?_ ?_
  · rw [hl] at hx
    rcases List.mem_append.1 hx with hx | hx
    · exact spW_pl x hx
    · rw [List.mem_singleton.1 hx]
      have := itoa_pl i.line
      exact ⟨List.cons_ne_nil _ _, fun c hc => (List.mem_cons.1 hc).elim (fun e => by subst e; decide) (this.ok c)⟩
  · unfold lineW
    dsimp only
    rw [if_neg c1, if_neg c2, last_mid]
    dsimp only
    rw [if_neg c3, hop]
    dsimp only
    have g0 : (w :: owords i).getD 0 [] = w := rfl
    have g1 : (w :: owords i).getD (n + 1) [] = 64 :: Lib.itoa i.line := by
      rw [List.getD_cons_succ, hl, List.getD_eq_getElem?_getD, List.getElem?_append_right (by omega), hlen]; simp
    have g2 : ((w :: owords i).drop 1).take n = ([i.a, i.b, i.c].take n).map Lib.itoa := by
      show (owords i).take n = _
      rw [hl, List.take_append_of_le_length (by omega), List.take_of_length_le (by omega)]
    have g3 : (w :: owords i).length = n + 2 := by rw [List.length_cons, hl, List.length_append, hlen]; rfl
    have b1 : orderBad (w :: owords i) = false := by unfold orderBad; rw [g0, e2, g1, g3]; simp
    have b2 : orderB2 (w :: owords i) = false := by
      unfold orderB2
      rw [g0, e2, g1, g2, any_no h64', List.drop_one, List.tail_cons, (num_back h64.2.2.2).2]; rfl
    have b3 : orderI i.op (w :: owords i) = i := by
      unfold orderI orderN
      rw [g0, e2, g1, g2, map_back h64', List.drop_one, List.tail_cons, (num_back h64.2.2.2).1]
      obtain ⟨op, a, b, c, line⟩ := i
      dsimp only at *
      match n, hn with
      | 0, _ => rw [hc (by omega), hb (by omega), ha (by omega)]; rfl
      | 1, _ => rw [hc (by omega), hb (by omega)]; rfl
      | 2, _ => rw [hc (by omega)]; rfl
      | 3, _ => rfl
    rw [b1, b2, b3, if_neg (by decide)]
    show some (PrR.mk ((mid P j _).fns.dropLast ++ _) _ _) = _
    rw [drop_mid, List.take_add_one, hi]; rfl
  · exact beg_mid hj ⟨rfl, rfl, .inl (List.take_prefix _ _)⟩
  · intro k u z q hu hz hp hq
    cases k with
    | zero => cases hz; exact key u [] q (hpre u hp) hq
    | succ k => exact key w _ q (hpre w (List.prefix_refl _)) hq
/-! ### Whole -/
def caughtLn (y : FnR) : List (List UInt8) := if y.caught = [] then [] else [caughtW ++ spW (y.caught.map Lib.itoa)]
def fnLn (y : FnR) : List (List UInt8) := (headW y ++ spW [Lib.itoa y.params, Lib.itoa y.regs]) :: (caughtLn y ++ y.code.map orderLn)
theorem run_code (hj : P.fns[j]? = some y) (hok : ∀ i ∈ y.code, InsOk i ∧ in64 i.a ∧ in64 i.b ∧ in64 i.c ∧ in64 i.line) : ∀ (n m : Nat), m + n = y.code.length → Run' P (mid P j ⟨y.params, y.regs, y.gen, y.caught, y.code.take m⟩) ((y.code.drop m).map orderLn) (mid P j y)
  | 0, m, h => by
    have e1 : y.code.take m = y.code := List.take_of_length_le (by omega)
    have e2 : y.code.drop m = [] := List.drop_of_length_le (by omega)
    rw [e1, e2]
    exact .nil (beg_mid hj ⟨rfl, rfl, .inl (List.prefix_refl _)⟩)
  | n + 1, m, h => by
    have hm : m < y.code.length := by omega
    have hi : y.code[m]? = some y.code[m] := List.getElem?_eq_getElem hm
    rw [List.drop_eq_getElem_cons hm, List.map_cons]
    have := hok _ (List.getElem_mem hm)
    exact .cons (step_order hj hi this.1 this.2) (run_code hj hok n (m + 1) (by omega))
theorem run_fn (hj : P.fns[j]? = some y) (h1 : in64 y.params) (h2 : in64 y.regs) (h3 : ∀ n ∈ y.caught, in64 n) (hok : ∀ i ∈ y.code, InsOk i ∧ in64 i.a ∧ in64 i.b ∧ in64 i.c ∧ in64 i.line) :
    Run' P ⟨P.fns.take j, P.consts, P.texts⟩ (fnLn y) ⟨P.fns.take (j + 1), P.consts, P.texts⟩ := by
  have hc := run_code hj hok y.code.length 0 (by omega)
  rw [show y.code.take 0 = [] from rfl, show y.code.drop 0 = y.code from rfl] at hc
  have e : mid P j y = ⟨P.fns.take (j + 1), P.consts, P.texts⟩ := by
    unfold mid
    rw [List.take_add_one, hj]; rfl
  rw [e] at hc
  refine .cons (step_head hj h1 h2) ?_
  unfold caughtLn
  split
  · next h0 =>
    rw [h0] at hc
    exact hc
  · exact Run'.trans (.cons (step_caught hj h3) (.nil (beg_mid hj ⟨rfl, rfl, .inl (List.nil_prefix)⟩))) hc
theorem run_fns (hin : ∀ f ∈ P.fns, in64 f.params ∧ in64 f.regs ∧ (∀ n ∈ f.caught, in64 n) ∧ ∀ i ∈ f.code, InsOk i ∧ in64 i.a ∧ in64 i.b ∧ in64 i.c ∧ in64 i.line) : ∀ (n j : Nat), j + n = P.fns.length → Run' P ⟨P.fns.take j, P.consts, P.texts⟩ ((P.fns.drop j).flatMap fnLn) P
  | 0, j, h => by
    have e1 : P.fns.take j = P.fns := List.take_of_length_le (by omega)
    have e2 : P.fns.drop j = [] := List.drop_of_length_le (by omega)
    rw [e1, e2]
    exact .nil (Beg.whole (j := j) (List.prefix_refl _) (Nat.le_refl _) e1.symm)
  | n + 1, j, h => by
    have hm : j < P.fns.length := by omega
    obtain ⟨a1, a2, a3, a4⟩ := hin _ (List.getElem_mem hm)
    rw [List.drop_eq_getElem_cons hm, List.flatMap_cons]
    exact (run_fn (List.getElem?_eq_getElem hm) a1 a2 a3 a4).trans (run_fns hin n (j + 1) (by omega))
theorem run_consts (hv : ∀ v ∈ P.consts, constM P v = true ∧ in64 v.2) : ∀ (n k : Nat), k + n = P.consts.length → Run' P ⟨[], P.consts.take k, P.texts⟩ ((P.consts.drop k).map fun v => constW' ++ (32 :: constW v)) ⟨[], P.consts, P.texts⟩
  | 0, k, h => by
    have e1 : P.consts.take k = P.consts := List.take_of_length_le (by omega)
    have e2 : P.consts.drop k = [] := List.drop_of_length_le (by omega)
    rw [e1, e2]
    exact .nil ⟨List.prefix_refl _, Nat.le_refl _, .inl rfl⟩
  | n + 1, k, h => by
    have hm : k < P.consts.length := by omega
    have hi : P.consts[k]? = some P.consts[k] := List.getElem?_eq_getElem hm
    obtain ⟨a1, a2⟩ := hv _ (List.getElem_mem hm)
    have e : P.consts.take (k + 1) = P.consts.take k ++ [P.consts[k]] := by rw [List.take_add_one, hi]; rfl
    have ih := run_consts hv n (k + 1) (by omega)
    rw [e] at ih
    rw [List.drop_eq_getElem_cons hm, List.map_cons]
    exact .cons (step_const (a := ⟨[], P.consts.take k, P.texts⟩) rfl (by rw [← e]; exact List.take_prefix _ _) (List.prefix_refl _) a1 a2) ih
theorem run_texts : ∀ (n k : Nat), k + n = P.texts.length → Run' P ⟨[], [], P.texts.take k⟩ ((P.texts.drop k).map textLn) ⟨[], [], P.texts⟩
  | 0, k, h => by
    have e1 : P.texts.take k = P.texts := List.take_of_length_le (by omega)
    have e2 : P.texts.drop k = [] := List.drop_of_length_le (by omega)
    rw [e1, e2]
    exact .nil ⟨List.prefix_refl _, Nat.zero_le _, .inl rfl⟩
  | n + 1, k, h => by
    have hm : k < P.texts.length := by omega
    have hi : P.texts[k]? = some P.texts[k] := List.getElem?_eq_getElem hm
    have e : P.texts.take (k + 1) = P.texts.take k ++ [P.texts[k]] := by rw [List.take_add_one, hi]; rfl
    have ih := run_texts n (k + 1) (by omega)
    rw [e] at ih
    rw [List.drop_eq_getElem_cons hm, List.map_cons]
    exact .cons (step_text (a := ⟨[], [], P.texts.take k⟩) rfl (Nat.zero_le _) (by rw [← e]; exact List.take_prefix _ _)) ih
end
/-- The lines of a written program. -/
def linesP (p : PrR) : List (List UInt8) := (p.texts.drop 19).map textLn ++ ((p.consts.map fun v => constW' ++ (32 :: constW v)) ++ p.fns.flatMap fnLn)
theorem textOf_app (a b : List (List UInt8)) : textOf (a ++ b) = textOf a ++ textOf b := by simp [textOf]
theorem textOf_map {α : Type} (f : α → List UInt8) (l : List α) : textOf (l.map f) = l.flatMap fun x => f x ++ [10] := by simp [textOf, List.flatMap_map]
theorem textOf_flat {α : Type} (f : α → List (List UInt8)) (l : List α) : textOf (l.flatMap f) = l.flatMap fun x => textOf (f x) := by simp [textOf, List.flatMap_assoc]
theorem fnLn_text (y : FnR) : textOf (fnLn y) = functionT y := by
  have e1 : strU "gen" = genW := by decide +kernel
  have e2 : strU "fn" = fnW := by decide +kernel
  have e3 : strU "caught" = caughtW := by decide +kernel
  unfold fnLn functionT headT caughtT caughtLn headW
  rw [textOf_cons, textOf_app, textOf_map, e1, e2, e3, spW_nums, spW_nums]
  have e4 : (y.code.flatMap fun i => orderLn i ++ [10]) = y.code.flatMap orderT := by
    congr 1; funext i; rw [orderT_eq]
  rw [e4]
  by_cases h : y.caught = []
  · rw [if_pos h, if_pos h]; simp [textOf]
  · rw [if_neg h, if_neg h]; simp [textOf]
theorem linesP_text (p : PrR) : textOf (linesP p) = writeT p := by
  have e1 : strU "text " = txtW ++ [32] := by decide +kernel
  have e2 : strU "const " = constW' ++ [32] := by decide +kernel
  unfold linesP writeT
  rw [textOf_app, textOf_app, textOf_map, textOf_map, textOf_flat, e2]
  have e3 : (p.fns.flatMap fun x => textOf (fnLn x)) = p.fns.flatMap functionT := by congr 1; funext y; exact fnLn_text y
  have e4 : ((p.texts.drop 19).flatMap fun x => textLn x ++ [10]) = (p.texts.drop 19).flatMap textT := by
    congr 1
  rw [e3, e4]
  simp
theorem run_all {p : PrR} (hp : PrIn p) (h : checkM p = 0) : Run' p startM (linesP p) p := by
  have ho := ok_of h
  have h1 := run_texts (P := p) (p.texts.length - 19) 19 (by have := ho.own.1; omega)
  rw [ho.own.2] at h1
  have h2 := run_consts (P := p) (fun v hv => ⟨ho.cons v hv, hp.consts v hv⟩) p.consts.length 0 (by omega)
  have h3 := run_fns (P := p) (fun f hf => ?_) p.fns.length 0 (by omega)
  · exact h1.trans (h2.trans h3)
  · have hi := hp.fns f hf
    refine ⟨hi.params, hi.regs, hi.caught, fun i him => ⟨?_, hi.ins i him⟩⟩
    have h6 : functionM p f = true := by
      unfold checkM at h
      split at h
      · cases h
      split at h
      · cases h
      split at h
      · cases h
      next h3 =>
        cases hc : functionM p f with
        | true => rfl
        | false => exact absurd (List.any_eq_true.2 ⟨f, hf, by rw [hc]; rfl⟩) h3
    unfold functionM at h6
    split at h6
    · cases h6
    · split at h6
      · next h8 => exact orders_ok h8 i him
      · cases h6
/-- What is written is read as it was. -/
theorem read_write {p : PrR} (hp : PrIn p) (h : checkM p = 0) : readL (linesM (writeT p)) = some p := by
  have h1 := run_all hp h
  rw [← linesP_text, lines_text _ h1.nl]
  exact h1.whole
/-- With remarks and blanks, too. -/
theorem read_rem {p : PrR} (hp : PrIn p) (h : checkM p = 0) (f r : List UInt8) (hf : ∀ c ∈ f, blankB c = true) (hr : ∀ c ∈ r, c ≠ 10) : readL (linesM (textOf ((linesP p).flatMap fun x => [f ++ x ++ (f ++ 35 :: r), []]))) = some p := by
  have h1 := run_all hp h
  rw [lines_text]
  · exact h1.rem f r hf
  · intro l hl c hc
    obtain ⟨x, hx, hl⟩ := List.mem_flatMap.1 hl
    simp only [List.mem_cons, List.not_mem_nil, or_false] at hl
    rcases hl with rfl | rfl
    · rcases List.mem_append.1 hc with hc | hc
      · rcases List.mem_append.1 hc with hc | hc
        · exact (blank_asc (hf c hc)).2.2
        · exact h1.nl x hx c hc
      · rcases List.mem_append.1 hc with hc | hc
        · exact (blank_asc (hf c hc)).2.2
        · rcases List.mem_cons.1 hc with rfl | hc
          · decide
          · exact hr c hc
    · cases hc
/-- Cut anywhere it tells a beginning, or nothing. -/
theorem read_cut {p q : PrR} (hp : PrIn p) (h : checkM p = 0) (n : Nat) (hq : readL (linesM ((writeT p).take n)) = some q) : Beg q p := by
  have h1 := run_all hp h
  rw [← linesP_text] at hq
  exact h1.cut n q hq
end Go.Proofs.YtddmcmkhjkleoaaGreatDoor
end

section
namespace Go.Proofs.YtddmcmkhjkleoaaGreatDoor
open Go.RowKit

def sevenP : PrR := ⟨[⟨0, 1, false, [], [⟨1, 0, 0, 0, 1⟩, ⟨33, 0, 0, 0, 1⟩, ⟨1, 0, 1, 0, 2⟩, ⟨33, 0, 0, 0, 2⟩, ⟨28, 0, 0, 0, 3⟩]⟩], [(4, 0), (4, 8)], opsL⟩
theorem seven_fn : FnD Tryz.prog 10 [] (.d (prD sevenP)) := by
  have hW := words_fn
  show FnD _ _ [] (.d (.agg [fnsD sevenP.fns, vasD sevenP.consts, txD opsL]))
  generalize opsL = ops at *
  refine FnD.of1 (n := 14) [] fax_ok Tryz.func10 rfl rfl rfl (by rfl) (by kernel_rfl) (by intro _; rfl) fun Γ hA hbA => ?_
  (repeat ((conv => whnf); (first | refine gd (enters_of Tryz.func12 rfl rfl) hW ?_ | refine And.intro rfl ?_)))
  exact ⟨eN, rS, fiO⟩
abbrev sevenT : List UInt8 := strU "const text 0\nconst text 8\nfn 0 1\n load 0 0 @1\n say 0 @1\n load 0 1 @2\n say 0 @2\n return 0 @3\n"
abbrev sevenS : List UInt8 := strU "fn 0 1 # one\n\n load 00 0 @1\n\tsay  0 @1\nload 0 1 @2\nsay 0 @2\nreturn 0 @3\nconst text 0\nconst text 8"
theorem seven_check : checkM sevenP = 0 := by decide +kernel
theorem seven_write : writeT sevenP = sevenT := by kernel_rfl
theorem seven_read : readL (linesM sevenS) = some sevenP := by kernel_rfl
theorem seven_len : ¬ 1048576 < sevenS.length := by decide +kernel
theorem seven_in : PrIn sevenP := by
  refine ⟨fun f hf => ?_, fun v hv => ?_⟩
  · rw [List.mem_singleton.1 hf]
    refine ⟨by decide, by decide, (fun n hn => by cases hn), by decide, fun i hi => ?_⟩
    simp only [List.mem_cons, List.not_mem_nil, or_false] at hi
    rcases hi with rfl | rfl | rfl | rfl | rfl <;> decide
  · simp only [sevenP, List.mem_cons, List.not_mem_nil, or_false] at hv
    rcases hv with rfl | rfl <;> decide
theorem seven_readM : readM sevenS = (sevenP, 0) := by
  unfold readM
  rw [if_neg seven_len, seven_read]
  dsimp only
  rw [if_pos seven_check]
set_option maxRecDepth 100000 in
theorem begun_fn : FnD Tryz.prog 6 [] (boolT true) := by
  have h7 := seven_fn
  have hW := write_fn sevenP seven_in seven_check
  rw [seven_write] at hW
  have hR := read_fn sevenS
  rw [seven_readM] at hR
  have hS := sameprog_fn sevenP
  have hq : (sevenT == sevenT) = true := beq_iff_eq.2 rfl
  refine FnD.of1 (n := 29) [] fax_ok Tryz.func6 rfl rfl rfl (by rfl) (by kernel_rfl) (by intro _; rfl) fun Γ hA hbA => ?_
  (repeat ((conv => whnf); (first | refine exR ?_ | refine gd (enters_of Tryz.func10 rfl rfl) h7 ?_ | refine gd (enters_of Tryz.func7 rfl rfl) hW ?_ | refine gd (enters_of Tryz.func8 rfl rfl) hR ?_ | refine gd (enters_of Tryz.func9 rfl rfl) hS ?_ | refine tT ?_ | refine oB ?_ | refine And.intro rfl ?_)))
  exact ⟨eN, rS, fiO⟩
end Go.Proofs.YtddmcmkhjkleoaaGreatDoor
end

section
namespace Go.Proofs.YtddmcmkhjkleoaaGreatDoor
open Go.RowKit

/-! ### What is read has numbers of 64 bits -/
theorem parse_in {s : List UInt8} {n : Int} (h : Lib.parseIntB 64 s = .ok n) : in64 n := by
  unfold Lib.parseIntB at h
  split at h
  · cases h
  · dsimp only at h
    split at h
    · cases h
    · cases h
    · split at h
      · cases h
      · split at h
        · cases h
        · next h1 h2 =>
          cases h
          unfold in64
          split <;> rename_i h3
          · simp only [h3, true_and, Nat.not_lt] at h2
            omega
          · simp only [h3, not_false_eq_true, true_and, Nat.not_le] at h1
            omega
theorem numV_in (s : List UInt8) : in64 (numV s) := by
  unfold numV
  split
  · next h => exact parse_in h
  · unfold Lib.intSat
    split <;> decide
  · decide
/-- A program of numbers of 64 bits. -/
structure P64 (p : PrR) : Prop where
  fns : ∀ f ∈ p.fns, in64 f.params ∧ in64 f.regs ∧ (∀ n ∈ f.caught, in64 n) ∧ ∀ i ∈ f.code, in64 i.a ∧ in64 i.b ∧ in64 i.c ∧ in64 i.line
  consts : ∀ v ∈ p.consts, in64 v.2
theorem constL_in (l : List (List UInt8)) : in64 (constL l).1.2 := by
  unfold constL
  split
  · split
    · decide
    · split
      · decide
      · split <;> decide
  · split
    · exact numV_in _
    · decide
  · decide
theorem orderI_in (op : Int) (l : List (List UInt8)) : in64 (orderI op l).a ∧ in64 (orderI op l).b ∧ in64 (orderI op l).c ∧ in64 (orderI op l).line := by
  have h : ∀ k, in64 ((orderN l).getD k 0) := fun k => by
    rw [List.getD_eq_getElem?_getD]
    cases e : (orderN l)[k]? with
    | none => decide
    | some n =>
      have := List.mem_of_getElem? e
      unfold orderN at this
      rcases List.mem_append.1 this with h | h
      · obtain ⟨w, -, rfl⟩ := List.mem_map.1 h
        exact numV_in w
      · simp only [List.mem_cons, List.not_mem_nil, or_false, or_self] at h
        subst h; decide
  exact ⟨h 0, h 1, h 2, numV_in _⟩
theorem P64.line {p p' : PrR} {s : List UInt8} (h : P64 p) (hl : lineM p s = some p') : P64 p' := by
  obtain ⟨h1, h2⟩ := h
  unfold lineM at hl
  split at hl
  · split at hl
    · cases hl
    · cases hl; exact ⟨h1, h2⟩
  · split at hl
    · cases hl; exact ⟨h1, h2⟩
    · next w l hwl =>
      split at hl
      · split at hl
        · cases hl
        · cases hl
          refine ⟨h1, fun v hv => ?_⟩
          rcases List.mem_append.1 hv with hv | hv
          · exact h2 v hv
          · rw [List.mem_singleton.1 hv]; exact constL_in l
      · split at hl
        · split at hl
          · split at hl
            · cases hl
            · cases hl
              refine ⟨fun f hf => ?_, h2⟩
              rcases List.mem_append.1 hf with hf | hf
              · exact h1 f hf
              · rw [List.mem_singleton.1 hf]
                exact ⟨numV_in _, numV_in _, (fun n hn => by cases hn), fun i hi => by cases hi⟩
          · cases hl
        · split at hl
          · cases hl
          · next f hla =>
            obtain ⟨hfm, hfe⟩ := last_mem hla
            have hd : ∀ x ∈ p.fns.dropLast, x ∈ p.fns := fun x hx => by rw [hfe]; exact List.mem_append_left _ hx
            obtain ⟨f1, f2, f3, f4⟩ := h1 f hfm
            split at hl
            · split at hl
              · cases hl
              · cases hl
                refine ⟨fun x hx => ?_, h2⟩
                rcases List.mem_append.1 hx with hx | hx
                · exact h1 x (hd x hx)
                · rw [List.mem_singleton.1 hx]
                  refine ⟨f1, f2, fun n hn => ?_, f4⟩
                  rcases List.mem_append.1 hn with hn | hn
                  · exact f3 n hn
                  · obtain ⟨u, -, rfl⟩ := List.mem_map.1 hn
                    exact numV_in u
            · split at hl
              · cases hl
              · split at hl
                · cases hl
                · cases hl
                  refine ⟨fun x hx => ?_, h2⟩
                  rcases List.mem_append.1 hx with hx | hx
                  · exact h1 x (hd x hx)
                  · rw [List.mem_singleton.1 hx]
                    refine ⟨f1, f2, f3, fun i hi => ?_⟩
                    rcases List.mem_append.1 hi with hi | hi
                    · exact f4 i hi
                    · rw [List.mem_singleton.1 hi]; exact orderI_in _ _
theorem fold_in : ∀ (xs : List (List UInt8)) (a p : PrR) (n : Nat), P64 a → Bd a n → xs.foldlM lineM a = some p → P64 p ∧ Bd p (n + wgt xs)
  | [], a, p, n, h, hB, e => by cases e; exact ⟨h, hB⟩
  | x :: xs, a, p, n, h, hB, e => by
    rw [List.foldlM_cons] at e
    cases hl : lineM a x with
    | none => rw [hl] at e; cases e
    | some b =>
      rw [hl] at e
      obtain ⟨k1, k2⟩ := fold_in xs b p _ (h.line hl) (hB.line hl) e
      refine ⟨k1, ?_⟩
      have : n + wgt (x :: xs) = n + (x.length + 1) + wgt xs := by simp [wgt]; omega
      rw [this]; exact k2
theorem read_in {s : List UInt8} {p : PrR} (hs : ¬ 1048576 < s.length) (h : readL (linesM s) = some p) : PrIn p := by
  obtain ⟨h1, h2⟩ := fold_in (linesM s) startM p 0 ⟨(fun f hf => by cases hf), fun v hv => by cases hv⟩ bd_start h
  rw [lines_wgt] at h2
  refine ⟨fun f hf => ?_, h1.consts⟩
  obtain ⟨a1, a2, a3, a4⟩ := h1.fns f hf
  exact ⟨a1, a2, a3, by have := h2.caught f hf; omega, a4⟩
theorem readM_cases (s : List UInt8) : ((readM s).1 = ⟨[], [], []⟩ ∧ (readM s).2 ≠ 0) ∨ ∃ p, readM s = (p, 0) ∧ PrIn p ∧ checkM p = 0 := by
  unfold readM
  by_cases h : 1048576 < s.length
  · rw [if_pos h]; exact .inl ⟨rfl, by decide⟩
  · rw [if_neg h]
    cases hr : readL (linesM s) with
    | none => exact .inl ⟨rfl, by decide⟩
    | some p =>
      dsimp only
      by_cases h0 : checkM p = 0
      · rw [if_pos h0]; exact .inr ⟨p, rfl, read_in h hr, h0⟩
      · rw [if_neg h0]; exact .inl ⟨rfl, h0⟩
theorem readM_write {p : PrR} (hp : PrIn p) (h : checkM p = 0) : readM (writeT p) = (⟨[], [], []⟩, 2) ∨ readM (writeT p) = (p, 0) := by
  unfold readM
  by_cases hl : 1048576 < (writeT p).length
  · rw [if_pos hl]; exact .inl rfl
  · rw [if_neg hl, read_write hp h]
    dsimp only
    rw [if_pos h]; exact .inr rfl
def noP : PrR := ⟨[], [], []⟩
theorem no_in : PrIn noP := ⟨(fun f hf => by cases hf), fun v hv => by cases hv⟩
theorem no_check : checkM noP = 3 := by decide +kernel
set_option maxRecDepth 100000 in
set_option maxHeartbeats 4000000 in
theorem back_fn (p : PrR) (hp : PrIn p) (s : List UInt8) : FnD Tryz.prog 3 [.d (prD p), strT s] (boolT true) := by
  have hBg := begun_fn
  have hSp := sameprog_fn p
  -- what is read of the text, written and read
  have hRs : ∃ q f, FnD Tryz.prog 8 [strT s] (.tup [.d (prD q), intT f]) ∧ ((q = ⟨[], [], []⟩ ∧ (f != 0) = true) ∨ (f = 0 ∧ ∃ u, FnD Tryz.prog 7 [.d (prD q)] (.tup [strT u, intT 0]) ∧
      ∃ r h v i, FnD Tryz.prog 8 [strT u] (.tup [.d (prD r), intT h]) ∧ FnD Tryz.prog 7 [.d (prD r)] (.tup [strT v, intT i]) ∧ (h = 2 ∨ (h = 0 ∧ r = q ∧ v = u ∧ i = 0)))) := by
    have h1 := read_fn s
    have h2 := readM_cases s
    generalize readM s = rs at *
    obtain ⟨q, f⟩ := rs
    refine ⟨q, f, h1, ?_⟩
    rcases h2 with ⟨h2, h3⟩ | ⟨q', e, hq, hc⟩
    · exact .inl ⟨h2, bne_iff_ne.2 h3⟩
    · cases e
      refine .inr ⟨rfl, writeT q, write_fn q hq hc, ?_⟩
      have h4 := read_fn (writeT q)
      rcases readM_write hq hc with e | e <;> rw [e] at h4
      · exact ⟨_, _, _, _, h4, write_bad noP no_in 3 no_check (by decide), .inl rfl⟩
      · exact ⟨_, _, _, _, h4, write_fn q hq hc, .inr ⟨rfl, rfl, rfl, rfl⟩⟩
  -- what is written is read
  have hWp : ∃ t e, FnD Tryz.prog 7 [.d (prD p)] (.tup [strT t, intT e]) ∧ ((e == 0) = false ∨ (e = 0 ∧ ∃ q2 f2, FnD Tryz.prog 8 [strT t] (.tup [.d (prD q2), intT f2]) ∧ (f2 = 2 ∨ (f2 = 0 ∧ q2 = p)))) := by
    by_cases h0 : checkM p = 0
    · refine ⟨_, _, write_fn p hp h0, .inr ⟨rfl, _, _, read_fn (writeT p), ?_⟩⟩
      rcases readM_write hp h0 with e | e <;> rw [e]
      · exact .inl rfl
      · exact .inr ⟨rfl, rfl⟩
    · exact ⟨_, _, write_bad p hp _ rfl h0, .inl (beq_eq_false_iff_ne.2 h0)⟩
  obtain ⟨t, e, hW, hWe⟩ := hWp
  obtain ⟨q, f, hRs, hS⟩ := hRs
  rcases hWe with h0 | ⟨rfl, q2, f2, hR2, rfl | ⟨rfl, rfl⟩⟩
  all_goals
    refine FnD.of1 (n := 99) [1002] fax_ok Tryz.func3 rfl rfl rfl (by rfl) (by kernel_rfl) (by intro _; rfl) fun Γ hA hbA => ?_
    (repeat ((conv => whnf); (first | refine exR ?_ | refine gd (enters_of Tryz.func6 rfl rfl) hBg ?_ | refine gd (enters_of Tryz.func7 rfl rfl) hW ?_ | refine tT ?_ | refine tF ?_ | refine And.intro rfl ?_)))
    try
      (repeat ((conv => whnf); (first | refine exR ?_ | refine gd (enters_of Tryz.func8 rfl rfl) hR2 ?_ | refine tT ?_ | refine tF ?_ | refine uT ?_ | refine And.intro rfl ?_)))
      try
        (repeat ((conv => whnf); (first | refine exR ?_ | refine gd (enters_of Tryz.func9 rfl rfl) hSp ?_ | refine tT ?_ | refine tF ?_ | refine uT ?_)))
    refine gd (enters_of Tryz.func8 rfl rfl) hRs ?_
    rcases hS with ⟨rfl, hf⟩ | ⟨rfl, u, hWq, r, h, v, i, hRu, hWr, hh⟩
    · (repeat ((conv => whnf); (first | refine exR ?_ | refine gd (enters_of Tryz.func6 rfl rfl) hBg ?_ | refine tT ?_ | refine And.intro rfl ?_)))
      exact ⟨eN, rS, fiO⟩
    · have hSq := sameprog_fn q
      (repeat ((conv => whnf); (first | refine exR ?_ | refine gd (enters_of Tryz.func7 rfl rfl) hWq ?_ | refine gd (enters_of Tryz.func8 rfl rfl) hRu ?_ | refine tF ?_ | refine And.intro rfl ?_)))
      refine gd (enters_of Tryz.func7 rfl rfl) hWr ?_
      rcases hh with rfl | ⟨rfl, rfl, rfl, rfl⟩
      · (repeat ((conv => whnf); (first | refine exR ?_ | refine gd (enters_of Tryz.func6 rfl rfl) hBg ?_ | refine tT ?_ | refine uF ?_)))
        exact ⟨eN, rS, fiO⟩
      · have hvv : (v == v) = true := beq_iff_eq.2 rfl
        (repeat ((conv => whnf); (first | refine exR ?_ | refine gd (enters_of Tryz.func6 rfl rfl) hBg ?_ | refine gd (enters_of Tryz.func9 rfl rfl) hSq ?_ | refine tT ?_ | refine tF ?_ | refine uT ?_)))
        rw [hvv]
        exact ⟨eN, rS, fiO⟩
end Go.Proofs.YtddmcmkhjkleoaaGreatDoor
end

section
namespace Go.Proofs.YtddmcmkhjkleoaaGreatDoor
open Go.RowKit

section
variable {P : Program} (w : World)
theorem run_append_sep9 (base : Nat) (t ty e : TypeId) (i : TypeInfo) (z : Value) (size bytes : Nat) (ht : P.underlying t = some (.slice e)) (hi : P.info? e = some i) (hz : i.zero = some z)
    (hsize : i.size = size) (hby : i.bytes = bytes) (hzs : z.cells.size = size) (hsz : 0 < size)
    (v : Value) (n : Nat) (xs : List Value) (hown : w.ownsRow base e size v n xs)
    (a : Addr) (m c : Nat) (news : List Value) (hl : news.length = m * size) (hnews : ∀ j u, news[j]? = some u → w.cell? (a.add j) = some u) (h1 : ∀ u ∈ news, u.oneCell' = true)
    (hn : n + m ≤ 100000000000) (hb : bytes ≤ 1000) (hbase : base ≤ w.heap.size) :
    ∃ v' w', (Builtin.append_ #[t, t] ty #[v, .slice (some a) m c]).run P w = .ok v' w' ∧ w'.ownsRow base e size v' (n + m) (xs ++ news) ∧ w.grownBy w' v.ownBlock ∧ (v'.ownBlock = v.ownBlock ∨ v'.ownBlock = some w.heap.size) := by
  have hbytes : (n + m) * bytes ≤ 140737488355328 := Nat.le_trans (Nat.mul_le_mul hn hb) (by decide)
  obtain ⟨v', w', hr, h2, h3, h4⟩ := run_append_own (P := P) w base t ty e i z size bytes ht hi hz hsize hby hzs hsz v n xs hown a m c news hl hnews h1 (by unfold maxLen; omega) hbytes hbase
  refine ⟨v', w', hr, h2, h3, ?_⟩
  subst hsize hby
  rcases hown.2 with ⟨rfl, rfl⟩ | ⟨g, cap, cur, rfl, hbg, hg, hnc, hcm, hcs, htake⟩
  · by_cases hm : m = 0
    · rw [h4.2 ⟨rfl, hm⟩]; exact .inl rfl
    · have hr2 := run_append_nil (P := P) w t ty e i z ht hi hz a m c news hl hnews (by omega) (by omega) (by rw [Nat.zero_add] at hbytes; omega)
      rw [hr] at hr2
      simp only [Result.ok.injEq] at hr2
      exact .inr (by rw [hr2.1]; rfl)
  · by_cases hroom : n + m ≤ cap
    · have hfit : n * i.size + news.length ≤ cur.size := by rw [hl, hcs, ← Nat.add_mul]; exact Nat.mul_le_mul_right _ hroom
      have hr2 := run_append_room (P := P) w t ty e i ht hi g n cap cur hg a m c news hl hnews h1 hroom hfit
      rw [hr] at hr2
      simp only [Result.ok.injEq] at hr2
      exact .inl (by rw [hr2.1]; rfl)
    · have hr2 := run_append_grow (P := P) w t ty e i z ht hi hz ⟨g, 0, none⟩ n cap xs hown.1 (hown.cells (g := g) rfl) a m c news hl hnews (by omega) (by omega) (growslice_fits_wide (by omega) (Nat.le_trans (Nat.mul_le_mul (show n + m + (n + m) / 4 + 192 ≤ 125000000192 by omega) hb) (by decide)))
      rw [hr] at hr2
      simp only [Result.ok.injEq] at hr2
      exact .inr (by rw [hr2.1]; rfl)
theorem run_append_keep9 (base : Nat) (t ty e : TypeId) (i : TypeInfo) (z : Value) (size bytes : Nat) (ht : P.underlying t = some (.slice e)) (hi : P.info? e = some i) (hz : i.zero = some z)
    (hsize : i.size = size) (hby : i.bytes = bytes) (hzs : z.cells.size = size) (hsz : 0 < size)
    (v : Value) (n : Nat) (xs : List Value) (hown : w.ownsRow base e size v n xs)
    (a : Addr) (m c : Nat) (news : List Value) (hl : news.length = m * size) (hnews : ∀ j u, news[j]? = some u → w.cell? (a.add j) = some u) (h1 : ∀ u ∈ news, u.oneCell' = true)
    (hn : n + m ≤ 100000000000) (hb : bytes ≤ 1000) (hbase : base ≤ w.heap.size) :
    ∃ v' w', (Builtin.append_ #[t, t] ty #[v, .slice (some a) m c]).run P w = .ok v' w' ∧ w'.ownsRow base e size v' (n + m) (xs ++ news) ∧ w.grownBy w' v.ownBlock ∧ w'.ownsRow base e size v n xs := by
  have hbytes : (n + m) * bytes ≤ 140737488355328 := Nat.le_trans (Nat.mul_le_mul hn hb) (by decide)
  obtain ⟨v', w', hr, h2, h3, h4⟩ := run_append_own (P := P) w base t ty e i z size bytes ht hi hz hsize hby hzs hsz v n xs hown a m c news hl hnews h1 (by unfold maxLen; omega) hbytes hbase
  refine ⟨v', w', hr, h2, h3, ?_⟩
  subst hsize hby
  rcases hown.2 with ⟨rfl, rfl⟩ | ⟨g, cap, cur, rfl, hbg, hg, hnc, hcm, hcs, htake⟩
  · have hx : xs = [] := List.eq_nil_of_length_eq_zero (by rw [hown.1]; simp)
    subst hx
    exact World.ownsRow_nil _ _ _ _
  · by_cases hroom : n + m ≤ cap
    · have hfit : n * i.size + news.length ≤ cur.size := by rw [hl, hcs, ← Nat.add_mul]; exact Nat.mul_le_mul_right _ hroom
      have hr2 := run_append_room (P := P) w t ty e i ht hi g n cap cur hg a m c news hl hnews h1 hroom hfit
      rw [hr] at hr2
      simp only [Result.ok.injEq] at hr2
      have h5 := h2
      rw [hr2.1] at h5
      refine ⟨hown.1, ?_⟩
      rcases h5.2 with ⟨hv, e0⟩ | ⟨g', cap', cur', hv, hb', hg', hnc', hm', hs', ht'⟩
      · cases hv
      · cases hv
        refine .inr ⟨g, cap, cur', rfl, hb', hg', hnc, hm', hs', ?_⟩
        have h6 : (cur'.toList.take ((n + m) * i.size)).take (n * i.size) = xs := by
          rw [ht', List.take_append_of_le_length (by rw [hown.1]; exact Nat.le_refl _), List.take_of_length_le (by rw [hown.1]; exact Nat.le_refl _)]
        rw [← h6, List.take_take, Nat.min_eq_left (Nat.mul_le_mul_right _ (Nat.le_add_right _ _))]
    · have hr2 := run_append_grow (P := P) w t ty e i z ht hi hz ⟨g, 0, none⟩ n cap xs hown.1 (hown.cells (g := g) rfl) a m c news hl hnews (by omega) (by omega) (growslice_fits_wide (by omega) (Nat.le_trans (Nat.mul_le_mul (show n + m + (n + m) / 4 + 192 ≤ 125000000192 by omega) hb) (by decide)))
      rw [hr] at hr2
      simp only [Result.ok.injEq] at hr2
      rw [hr2.2]
      exact own_below (own_below hown (Below.refl _ _).drew) ((Below.refl _ _).alloc (Nat.le_refl _) _)
end
section
variable {P : Program} {Γ : Cx} {o : Oper} {σ : Nat → T}
theorem run_append_all9 (w : World) (t ty e : TypeId) (k b : Nat) (hT : rowT? P t = some (e, k, b)) (v : Value) (n : Nat) (xs : List Value) (hown : w.ownsRow 0 e k v n xs)
    (S : Sm) (hS : ∀ b o x, S b o = some x → w.cell? ⟨b, o, none⟩ = some x) (p : Option Addr) (m c : Nat) (news : List Value) (hr : RowS S p news) (hl : news.length = m * k) (h1 : ∀ u ∈ news, u.oneCell' = true) (hp : p = none → m = 0 ∧ c = 0) (hn : n + m ≤ 100000000000) :
    ∃ v' w', (Builtin.append_ #[t, t] ty #[v, .slice p m c]).run P w = .ok v' w' ∧ w'.ownsRow 0 e k v' (n + m) (xs ++ news) ∧ w.grownBy w' v.ownBlock ∧ (v'.ownBlock = v.ownBlock ∨ v'.ownBlock = some w.heap.size) ∧ w'.ownsRow 0 e k v n xs ∧ (m = 0 → v' = v) := by
  obtain ⟨ht, i, z, hi, hz, hsize, hby, hzs, hsz, hb⟩ := rowT_spec hT
  cases p with
  | none =>
    obtain ⟨rfl, rfl⟩ := hp rfl
    have : news = [] := List.eq_nil_of_length_eq_zero (by simpa using hl)
    subst this
    exact ⟨v, w, run_append_owned_none w 0 t ty e i k ht hi v n xs hown, by simpa using hown, World.grownBy.refl _ _, .inl rfl, hown, fun _ => rfl⟩
  | some a =>
    by_cases hm : m = 0
    · -- nothing comes
      subst hm
      have : news = [] := List.eq_nil_of_length_eq_zero (by simpa using hl)
      subst this
      obtain ⟨v', w', hrun, h2, h3, h4, h5⟩ := run_append_own (P := P) w 0 t ty e i z k b ht hi hz hsize hby hzs hsz v n xs hown a 0 c [] (by simp) (fun j u h => by simp at h) (fun u h => by simp at h) (by unfold maxLen; omega) (Nat.le_trans (Nat.mul_le_mul hn hb) (by decide)) (Nat.zero_le _)
      obtain ⟨v2, w2, hrun2, -, -, h6⟩ := run_append_keep9 (P := P) w 0 t ty e i z k b ht hi hz hsize hby hzs hsz v n xs hown a 0 c [] (by simp) (fun j u h => by simp at h) (fun u h => by simp at h) hn hb (Nat.zero_le _)
      rw [hrun] at hrun2
      simp only [Result.ok.injEq] at hrun2
      obtain ⟨rfl, rfl⟩ := hrun2
      have hv : v' = v := by
        rcases hown.2 with ⟨e1, -⟩ | ⟨gb, cap, cur, e1, hbg, hg, hnc, hcm, hcs, htake⟩
        · rw [h5 ⟨e1, rfl⟩, e1]
        · subst hsize
          have hroom := run_append_room (P := P) w t ty e i ht hi gb n cap cur hg a 0 c [] (by simp) (fun j u h => by simp at h) (fun u h => by simp at h) (by omega) (by simp [hcs]; exact Nat.mul_le_mul_right _ hnc)
          subst e1
          rw [hrun] at hroom
          simp only [Result.ok.injEq] at hroom
          rw [hroom.1]; simp
      subst hv
      exact ⟨v', w', hrun, h2, h3, .inl rfl, h6, fun _ => rfl⟩
    · obtain ⟨b', off, hpp, hcell⟩ := hr
      have hpos : 0 < news.length := by rw [hl]; exact Nat.mul_pos (by omega) hsz
      have := hpp hpos
      obtain rfl : a = ⟨b', off, none⟩ := by simpa using this
      have hnews : ∀ j u, news[j]? = some u → w.cell? (Addr.add ⟨b', off, none⟩ j) = some u := fun j u hj => by
        have hlt := (List.getElem?_eq_some_iff.1 hj).1
        rw [add_lit']
        exact hS _ _ _ ((hcell j hlt).trans hj)
      obtain ⟨v', w', hrun, h2, h3, h4⟩ := run_append_sep9 (P := P) w 0 t ty e i z k b ht hi hz hsize hby hzs hsz v n xs hown ⟨b', off, none⟩ m c news hl hnews h1 hn hb (Nat.zero_le _)
      obtain ⟨v2, w2, hrun2, -, -, h6⟩ := run_append_keep9 (P := P) w 0 t ty e i z k b ht hi hz hsize hby hzs hsz v n xs hown ⟨b', off, none⟩ m c news hl hnews h1 hn hb (Nat.zero_le _)
      rw [hrun] at hrun2
      simp only [Result.ok.injEq] at hrun2
      obtain ⟨rfl, rfl⟩ := hrun2
      exact ⟨v', w', hrun, h2, h3, h4, h6, fun e => absurd e hm⟩
theorem t_append9 {s x : Operand} {t e : TypeId} {k b id : Nat} {l m : List D} (ho : o.op = .call { callee := .builtin .append, args := #[s, x], argTypes := #[t, t] }) (hT : rowT? P t = some (e, k, b)) (hs : opT σ s = .own k l id) (hx : TLe (opT σ x) (.d (.sl k m)))
    (hn : l.length + m.length ≤ 100000000000) : Tri P o σ [(id, .row e k l)] (.own k (l ++ m) id) [(id, .row e k (l ++ m))] := by
  intro Γ g objs a w Q hr hp hw
  have e1 := rep_op hr (x := s) (by rw [ho]; simp [Op.operands, Call.operands])
  have e2 := hx g _ (rep_op hr (x := x) (by rw [ho]; simp [Op.operands, Call.operands]))
  rw [hs] at e1
  have hid := hp _ (List.mem_singleton.2 rfl)
  obtain ⟨xs, hlen, hown, hrep, hS⟩ := hw.obj id _ hid
  generalize hy : a.eval s = y at e1
  cases e1 with
  | own h1 h2 h3 =>
    have hyr := h3 hlen
    subst hyr
    generalize hz : a.eval x = z at e2
    cases e2 with
    | d h4 =>
      cases h4 with
      | @sl _ _ p cap ys hm hrow hc hb hnil =>
        have hmlen := hm.len
        obtain ⟨v', w', hrun, a1, a2, a3, a4, a5⟩ := run_append_all9 w t o.type e k b hT (g.row id) l.length xs hown g.S hw.imm p m.length cap ys hrow hmlen hm.one (fun e3 => by have := hnil e3; omega) hn
        obtain ⟨c1, c2, c3⟩ := WI.grow hw hid hrep (fun b hb => (hS b hb).2) a1 a2 a3 a4 a5 hm
        obtain ⟨p', c', rfl, hc1, hc2⟩ := own_slice a1
        unfold Oper.wp execOp
        simp only [ho, resolve, invoke, builtin, Sem.run_bind, Sem.run_pure, Result.andThen_ok, List.map_toArray, List.map_cons, List.map_nil, hy, hz, hrun]
        refine ⟨_, _, rfl, c1, ?_, c2⟩
        refine RepT.own ?_ (by simp [setRow]) (fun _ => by simp [setRow])
        have := RepD.sl ((hrep.app hm).mono c1.S) c3 (cap := c') (by simpa using hc1) hc2 (fun e3 => by
          rcases a1.2 with ⟨e4, -⟩ | ⟨gb, cap2, cur, e4, -⟩
          · simp only [Value.slice.injEq] at e4; exact e4.2.2
          · simp only [Value.slice.injEq] at e4; rw [e4.1] at e3; cases e3)
        simpa [ptrOf] using this
theorem lv_by (S : Sm) : ∀ l : List UInt8, RepLv S 1 (byD l) (bytV l)
  | [] => .nil
  | b :: l => RepLv.cons (k := 1) (d := .v (.int .u8 b.toNat)) (xs := [.int .u8 b.toNat]) (.cons (.v rfl) rfl .nil) rfl (lv_by S l)
theorem app_str9 (w : World) (t u ty e : TypeId) (i : TypeInfo) (ht : P.underlying t = some (.slice e)) (hu : P.underlying u = some .string) (hi : P.info? e = some i) (hz : i.zero = some (.int .u8 0))
    (hsize : i.size = 1) (hby : i.bytes = 1) (v : Value) (n : Nat) (xs : List Value) (hown : w.ownsRow 0 e 1 v n xs) (s : ByteArray) (hn : n + s.size ≤ 100000000000) :
    ∃ v' w', (Builtin.append_ #[t, u] ty #[v, .string s]).run P w = .ok v' w' ∧ w'.ownsRow 0 e 1 v' (n + s.size) (xs ++ Lib.strCells s) ∧ w.grownBy w' v.ownBlock ∧
      (v'.ownBlock = v.ownBlock ∨ v'.ownBlock = some w.heap.size) ∧ w'.ownsRow 0 e 1 v n xs ∧ (s.size = 0 → v' = v) := by
  obtain ⟨v', w', h1, h2, h3, h4⟩ := Lib.run_append_own_string (P := P) w 0 t u ty e i ht hu hi hz hsize hby v n xs hown s (by unfold maxLen; omega) (by omega) (Nat.zero_le _)
  refine ⟨v', w', h1, h2, h3, ?_⟩
  rcases hown.2 with ⟨rfl, rfl⟩ | ⟨g, cap, cur, rfl, hbg, hg, hnc, hcm, hcs, htake⟩
  · have hx : xs = [] := List.eq_nil_of_length_eq_zero (by simpa using hown.1)
    subst hx
    refine ⟨?_, World.ownsRow_nil _ _ _ _, fun h => h4.2 ⟨rfl, h⟩⟩
    by_cases hm : s.size = 0
    · rw [h4.2 ⟨rfl, hm⟩]; exact .inl rfl
    · have hr := run_append_nil_string (P := P) w t u ty e i (.int .u8 0) ht hu hi hz s (by omega) (by omega) (by rw [hby]; omega)
      rw [h1] at hr
      simp only [Result.ok.injEq] at hr
      exact .inr (by rw [hr.1]; rfl)
  · have hxl : xs.length = n := by simpa using hown.1
    by_cases hroom : n + s.size ≤ cap
    · have hr := Lib.run_append_room_string (P := P) w t u ty e i ht hu hi hsize g n cap cur hg s hroom (by rw [hcs]; omega)
      rw [h1] at hr
      simp only [Result.ok.injEq] at hr
      have h5 := h2
      rw [hr.1] at h5
      refine ⟨.inl (by rw [hr.1]; rfl), ⟨hown.1, ?_⟩, fun h => by rw [hr.1, h, Nat.add_zero]⟩
      rcases h5.2 with ⟨hv, e0⟩ | ⟨g', cap', cur', hv, hb', hg', hnc', hm', hs', ht'⟩
      · cases hv
      · cases hv
        refine .inr ⟨g, cap, cur', rfl, hb', hg', hnc, hm', hs', ?_⟩
        have h6 : (cur'.toList.take ((n + s.size) * 1)).take (n * 1) = xs := by
          rw [ht', List.take_append_of_le_length (by rw [hown.1]; exact Nat.le_refl _), List.take_of_length_le (by rw [hown.1]; exact Nat.le_refl _)]
        rw [← h6, List.take_take, Nat.min_eq_left (Nat.mul_le_mul_right _ (Nat.le_add_right _ _))]
    · have holds : ∀ j u, xs[j]? = some u → w.cell? ((⟨g, 0, none⟩ : Addr).add j) = some u := hown.cells (g := g) rfl
      have hr := Lib.run_append_grow_string (P := P) w t u ty e i (.int .u8 0) ht hu hi hz ⟨g, 0, none⟩ n cap xs (by rw [hsize]; simpa using hxl) holds s (by omega) (by omega) (by rw [hby]; exact growslice_fits (by omega) (by omega))
      rw [h1] at hr
      simp only [Result.ok.injEq] at hr
      refine ⟨.inr (by rw [hr.1]; rfl), own_same hown fun b hb => ?_, fun h => absurd (show n + s.size ≤ cap by omega) hroom⟩
      have e : b = g := by simpa [Value.ownBlock] using hb.symm
      subst e
      rw [hr.2]
      exact (Below.heap_alloc _ _ _ (by have := (Array.getElem?_eq_some_iff.1 hg).1; simpa using this)).trans rfl
theorem t_app_str {s x : Operand} {t u e id : TypeId} {i : TypeInfo} {l m : List UInt8} (ho : o.op = .call { callee := .builtin .append, args := #[s, x], argTypes := #[t, u] }) (ht : P.underlying t = some (.slice e)) (hu : P.underlying u = some .string) (hi : P.info? e = some i) (hz : i.zero = some (.int .u8 0))
    (hsize : i.size = 1) (hby : i.bytes = 1) (hs : opT σ s = .own 1 (byD l) id) (hx : opT σ x = strT m) (hn : l.length + m.length ≤ 100000000000) :
    Tri P o σ [(id, .row e 1 (byD l))] (.own 1 (byD (l ++ m)) id) [(id, .row e 1 (byD (l ++ m)))] := by
  intro Γ g objs a w Q hr hp hw
  have e1 := rep_op hr (x := s) (by rw [ho]; simp [Op.operands, Call.operands])
  have e2 := rep_op hr (x := x) (by rw [ho]; simp [Op.operands, Call.operands])
  rw [hs] at e1
  rw [hx] at e2
  have hid := hp _ (List.mem_singleton.2 rfl)
  obtain ⟨xs, hlen, hown, hrep, hS⟩ := hw.obj id _ hid
  have hll : (byD l).length = l.length := List.length_map _
  have hlm : (byD m).length = m.length := List.length_map _
  generalize hy : a.eval s = y at e1
  cases e1 with
  | own h1 h2 h3 =>
    have hyr := h3 hlen
    subst hyr
    have hz2 := inv_v e2
    have hsz : (⟨m.toArray⟩ : ByteArray).size = m.length := str_size m
    obtain ⟨v', w', hrun, a1, a2, a3, a4, a5⟩ := app_str9 w t u o.type e i ht hu hi hz hsize hby (g.row id) (byD l).length xs hown ⟨m.toArray⟩ (by rw [hsz, hll]; exact hn)
    rw [strCells_b, hsz, ← hlm] at a1
    rw [hsz, ← hlm] at a5
    have hm := lv_by g.S m
    obtain ⟨c1, c2, c3⟩ := WI.grow hw hid hrep (fun b hb => (hS b hb).2) a1 a2 a3 a4 a5 hm
    obtain ⟨p', c', rfl, hc1, hc2⟩ := own_slice a1
    unfold Oper.wp execOp
    simp only [ho, resolve, invoke, builtin, Sem.run_bind, Sem.run_pure, Result.andThen_ok, List.map_toArray, List.map_cons, List.map_nil, hy, hz2, hrun]
    rw [byD_app]
    refine ⟨_, _, rfl, c1, ?_, c2⟩
    refine RepT.own ?_ (by simp [setRow]) (fun _ => by simp [setRow])
    have := RepD.sl ((hrep.app hm).mono c1.S) c3 (cap := c') (by simpa using hc1) hc2 (fun e3 => by
      rcases a1.2 with ⟨e4, -⟩ | ⟨gb, cap2, cur, e4, -⟩
      · simp only [Value.slice.injEq] at e4; exact e4.2.2
      · simp only [Value.slice.injEq] at e4; rw [e4.1] at e3; cases e3)
    simpa [ptrOf] using this
end
end Go.Proofs.YtddmcmkhjkleoaaGreatDoor
end
