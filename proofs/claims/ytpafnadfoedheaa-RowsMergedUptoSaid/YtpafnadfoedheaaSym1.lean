/-
  slices.symMergeCmpFunc at events: two sorted stretches, one behind the other, become the sorted stable one of both: the first stretch is one (gensym.py)
-/
import Derived.Test.YtpafnadfoedheaaSw
import Derived.Test.YtpafnadfoedheaaSymL
namespace Go.Proofs.Ytpafnadfoedheaa
open Go.Sort Go.RowKit Go.Lib

variable {P : Program} {α : Type} [Inhabited α] {enc : α → List Value} {k : Nat}

/-- What the walk says of shorter stretches. -/
def SymIH (P : Program) (k : Nat) (key : α → Int) (g : Nat) (cb : Array Value) (d0 : Array α) (w0 : World) (blk off cap N : Nat) : Prop :=
  ∀ {d : Array α} {w : World} {A X Y B : List α} {ai mi bi : Int} {len : Nat}, X.length + Y.length ≤ N →
    d.size = d0.size → SWK enc k w0 blk off d w → d.toList = A ++ X ++ Y ++ B → 0 < X.length → 0 < Y.length → Srt key X → Srt key Y → ai = A.length → mi = (A.length + X.length : Nat) → bi = (A.length + X.length + Y.length : Nat) → len = d0.size →
    Calls P 27 #[.slice (some ⟨blk, off, none⟩) len cap, .int .i64 ai, .int .i64 mi, .int .i64 bi, .func (.func g) #[] cb] w fun e w' => e = .returned (.tuple #[]) ∧ ∃ d', d'.toList = A ++ ssort key (X ++ Y) ++ B ∧ d'.size = d0.size ∧ SWK enc k w0 blk off d' w'

set_option maxHeartbeats 40000000 in
set_option maxRecDepth 1000000 in
theorem sym1 (F : SF P k) {key : α → Int} {cf : α → α → Int} (hcf : ∀ x y, cf x y < 0 ↔ key x < key y) {g : Nat} {cb : Array Value} (eg : ∀ args w, (callFunc g args).run P w = .ok (.enter g args) w) {d0 : Array α} {w0 : World} {blk off cap : Nat}
    (hcmp : CmpLays P g cb enc k cf blk off d0.size w0) (R : RowK enc k w0 blk off d0) (hsz : d0.size < 4611686018427387904) {N : Nat} (IH : SymIH (enc := enc) P k key g cb d0 w0 blk off cap N) {d : Array α} {w : World} {A X Y B : List α} {ai mi bi : Int} {len : Nat} (hN : X.length + Y.length ≤ N + 1)
    (hs : d.size = d0.size) (S : SWK enc k w0 blk off d w) (h : d.toList = A ++ X ++ Y ++ B) (hX : 0 < X.length) (hY : 0 < Y.length) (sX : Srt key X) (sY : Srt key Y) (ha : ai = A.length) (hm : mi = (A.length + X.length : Nat)) (hb : bi = (A.length + X.length + Y.length : Nat)) (hlen : len = d0.size) (hX1 : X.length = 1) :
    Calls P 27 #[.slice (some ⟨blk, off, none⟩) len cap, .int .i64 ai, .int .i64 mi, .int .i64 bi, .func (.func g) #[] cb] w fun e w' => e = .returned (.tuple #[]) ∧ ∃ d', d'.toList = A ++ ssort key (X ++ Y) ++ B ∧ d'.size = d0.size ∧ SWK enc k w0 blk off d' w' := by
  subst hlen
  have mixed := F.mixed; have t0 := F.t0; have a0 := F.a0; have z0 := F.z0; have v0 := F.v0; have t3 := F.t3; have a3 := F.a3; have z3 := F.z3; have v3 := F.v3; have t4 := F.t4; have a4 := F.a4; have z4 := F.z4; have v4 := F.v4; have t22 := F.tES; have a22 := F.aES; have z22 := F.zES; have v22 := F.vES; have t25 := F.tFN; have a25 := F.aFN; have z25 := F.zFN; have v25 := F.vFN; have t57 := F.tUI; have a57 := F.aUI; have z57 := F.zUI; have v57 := F.vUI; have aE := F.aE; have zE := F.zE
  have FG := F.fSy
  have S0 : Aside (SWK enc k w0 blk off d w) := S
  have HC : Aside _ := hcmp
  have IHH : Aside _ := @IH
  have hl : d.size = A.length + X.length + Y.length + B.length := by rw [← Array.length_toList, h]; simp [Nat.add_assoc]
  have H : Hid (d.toList = A ++ X ++ Y ++ B) := h
  have FH : Aside (SF P k) := F
  have HCF : Hid (∀ x y, cf x y < 0 ↔ key x < key y) := hcf
  clear S hcmp IH h F hcf
  go_enter FG, Try.ntmps27
  obtain ⟨x, rfl⟩ := List.length_eq_one_iff.1 hX1
  have hx : d[A.length]! = x := by
    have := bang_mid (A := A) (X := [x]) (B := Y ++ B) (by rw [H.out]; simp) (c := 0) (by simp)
    simpa using this
  have hsY : ∀ p q, A.length + 1 ≤ p → p ≤ q → q < A.length + 1 + Y.length → key d[p]! ≤ key d[q]! := fun p q h1 h2 h3 => srt_mid (A := A ++ [x]) (X := Y) (B := B) (by rw [H.out]; ) sY (by simpa using h1) h2 (by simpa [Nat.add_assoc] using h3)
  have HSY : Hid _ := hsY
  have HXX : Hid _ := hx
  clear hsY hx
  have hm1 : mi - ai = 1 := by simp at hm; omega
  simp only [List.length_singleton] at hm hb hl
  obtain ⟨a, rfl⟩ : ∃ a : Nat, ai = a := ⟨_, ha⟩
  obtain ⟨m, rfl⟩ : ∃ m : Nat, mi = m := ⟨_, hm⟩
  obtain ⟨b, rfl⟩ : ∃ b : Nat, bi = b := ⟨_, hb⟩
  have ha' : a = A.length := by omega
  have hm' : m = A.length + 1 := by omega
  have hb' : b = A.length + 1 + Y.length := by omega
  clear ha hm hb
  have HA : Hid (a = A.length ∧ m = A.length + 1 ∧ b = A.length + 1 + Y.length) := ⟨ha', hm', hb'⟩
  have hab : a < m := by omega
  have hmb : m < b := by omega
  have hbs : b ≤ d.size := by omega
  clear ha' hm' hb'
  go_wp2_with fail
  go_loopg [10, 11, 12] (b - m) (fun kx s10 s11 s12 wr => ∃ (i j : Nat), s10 = .int .i64 i ∧ s11 = .int .i64 j ∧ m ≤ i ∧ i ≤ j ∧ j ≤ b ∧ j - i ≤ kx ∧ Aside (SWK enc k w0 blk off d wr) ∧
    Hid ((∀ c, m ≤ c → c < i → key d[c]! < key d[a]!) ∧ (∀ c, j ≤ c → c < b → key d[a]! ≤ key d[c]!)))
  case atStart => exact ⟨m, b, rfl, rfl, Nat.le_refl _, by omega, Nat.le_refl _, Nat.le_refl _, S0, ⟨fun c h1 h2 => by omega, fun c h1 h2 => by omega⟩⟩
  case round =>
    clear S0
    obtain ⟨i, j, rfl, rfl, hmi, hij, hjb, hkx, S1, HI⟩ := hrel
    by_cases hlt : i < j
    · have hltz : (i : Int) < (j : Int) := by omega
      go_wp2_with fail
      have eh : ((i : Int) + (j : Int)) / 2 = (((i + j) / 2 : Nat) : Int) := by omega
      rw [eh]
      have hq1 : i ≤ (i + j) / 2 := by omega
      have hq2 : (i + j) / 2 < j := by omega
      clear eh
      generalize (i + j) / 2 = q at *
      have eq : ((q : Int)).toNat = q := by omega
      have pq : (0 : Int) ≤ (q : Int) := by omega
      have bq : (q : Int) < (d0.size : Int) := by omega
      have rq : IntKind.i64.wrap ((q : Int)) = (q : Int) := by rw [IntKind.wrap_i64]; omega
      have ea : ((a : Int)).toNat = a := by omega
      have pa : (0 : Int) ≤ (a : Int) := by omega
      have ba : (a : Int) < (d0.size : Int) := by omega
      have ra : IntKind.i64.wrap ((a : Int)) = (a : Int) := by rw [IntKind.wrap_i64]; omega
      have la := S1.out.ld R (by omega) P q (by omega)
      have lb := S1.out.ld R (by omega) P a (by omega)
      have hc := S1.out.cmp HC.out (by omega) d[q]! d[a]!
      have hcf1 := HCF.out d[q]! d[a]!
      by_cases hlv : cf d[q]! d[a]! < 0
      · have hk := hcf1.1 hlv
        have HI2 : Hid ((∀ c, m ≤ c → c < q + 1 → key d[c]! < key d[a]!) ∧ (∀ c, j ≤ c → c < b → key d[a]! ≤ key d[c]!)) := ⟨fun c h1 h2 => by have := HSY.out c q (by have := HA.out; omega) (by omega) (by have := HA.out; omega); omega, HI.out.2⟩
        have hd1 : decide (cf d[q]! d[a]! < 0) = true := decide_eq_true hlv
        clear hcf1 hk HI
        generalize d[q]! = xq at *
        generalize d[a]! = xa at la lb hc hlv hd1 ⊢
        go_wp2_with fail
        go_quiet_grown (first | (go_at_fn g; refine Calls.grown_of (hc _ _)))
        have S2 : Aside (SWK enc k w0 blk off d (grow (wr.drewN nq) osq)) := S1.out.grown nq osq
        clear la lb hc S1
        generalize grow (wr.drewN nq) osq = w2 at S2 ⊢
        go_wp2
        go_roundg (j - (q + 1))
        case measure => omega
        case rel => exact ⟨q + 1, j, by go_num, rfl, by omega, by omega, hjb, Nat.le_refl _, S2, HI2⟩
      · have hk : key d[a]! ≤ key d[q]! := by have := mt hcf1.2 hlv; omega
        have HI2 : Hid ((∀ c, m ≤ c → c < i → key d[c]! < key d[a]!) ∧ (∀ c, q ≤ c → c < b → key d[a]! ≤ key d[c]!)) := ⟨HI.out.1, fun c h1 h2 => by have := HSY.out q c (by have := HA.out; omega) h1 (by have := HA.out; omega); omega⟩
        have hd1 : decide (cf d[q]! d[a]! < 0) = false := decide_eq_false hlv
        clear hcf1 hk HI
        generalize d[q]! = xq at *
        generalize d[a]! = xa at la lb hc hlv hd1 ⊢
        go_wp2_with fail
        go_quiet_grown (first | (go_at_fn g; refine Calls.grown_of (hc _ _)))
        have S2 : Aside (SWK enc k w0 blk off d (grow (wr.drewN nq) osq)) := S1.out.grown nq osq
        clear la lb hc S1
        generalize grow (wr.drewN nq) osq = w2 at S2 ⊢
        go_wp2
        go_roundg (q - i)
        case measure => omega
        case rel => exact ⟨i, q, rfl, rfl, hmi, by omega, by omega, Nat.le_refl _, S2, HI2⟩
    · obtain rfl : i = j := by omega
      have hn : i - m ≤ Y.length := by have := HA.out; omega
      have hA2 : m = (A ++ [x]).length := by have := HA.out; simp; omega
      have hD : d.toList = (A ++ [x]) ++ Y ++ B := by rw [H.out]
      have hxa : d[a]! = x := by rw [HA.out.1]; exact HXX.out
      have l1 : ∀ y ∈ Y.take (i - m), key y < key x := take_mid (p := fun y => key y < key x) hD hn fun c h1 h2 => by rw [← hxa]; exact HI.out.1 c (by omega) (by omega)
      have l2 : ∀ y ∈ Y.drop (i - m), key x ≤ key y := drop_mid (p := fun y => key x ≤ key y) hD hn fun c h1 h2 => by rw [← hxa]; exact HI.out.2 c (by omega) (by have := HA.out; omega)
      have HZ : Hid (ssort key (x :: Y) = Y.take (i - m) ++ (x :: Y.drop (i - m))) := by
        have := one_ahead (by rw [List.take_append_drop]; exact sY) l1 l2
        rw [List.take_append_drop] at this
        exact this
      clear hxa l1 l2 hA2 HI
      obtain ⟨Y1, hY1⟩ : ∃ Y1, Y1 = Y.take (i - m) := ⟨_, rfl⟩
      obtain ⟨Y2, hY2⟩ : ∃ Y2, Y2 = Y.drop (i - m) := ⟨_, rfl⟩
      have hYY : Y = Y1 ++ Y2 := by rw [hY1, hY2, List.take_append_drop]
      have hl1 : Y1.length = i - m := by rw [hY1, List.length_take]; omega
      rw [← hY1, ← hY2] at HZ
      have HD : Hid (d.toList = A ++ x :: (Y1 ++ (Y2 ++ B))) := by show _ = _; rw [hD, hYY]; simp
      clear hD hY1 hY2 hYY
      obtain ⟨e1, he1⟩ : ∃ e1, e1 = i - 1 := ⟨_, rfl⟩
      have ie : (i : Int) - 1 = (e1 : Int) := by omega
      have hl2 : a + Y1.length = e1 := by have := HA.out; omega
      have hae : a ≤ e1 := by omega
      have hes : e1 + 1 ≤ d.size := by omega
      have HL1 : Hid (a + Y1.length = e1) := hl2
      clear hl1 hl2 hn
      go_wp2
      go_loopg [13] (e1 - a) (fun kx s13 wr => ∃ (u : Nat) (dk : Array α), s13 = .int .i64 u ∧ a ≤ u ∧ u ≤ e1 ∧ e1 - u ≤ kx ∧ dk.size = d0.size ∧ Aside (SWK enc k w0 blk off dk wr) ∧ Hid (dk.toList = A ++ (Y1.take (u - a) ++ x :: (Y1.drop (u - a) ++ (Y2 ++ B)))))
      case atStart => exact ⟨a, d, rfl, Nat.le_refl _, hae, Nat.le_refl _, hs, S1, by show _ = _; rw [HD.out]; simp⟩
      case round =>
        clear S1 HD
        obtain ⟨u, dk, rfl, hau, hue, hkx2, hds, S1, HDK⟩ := hrel
        by_cases hlt2 : u < e1
        · have hsw := shift_up (t := u - a) HDK.out (by have := HL1.out; omega)
          rw [show A.length + (u - a) = u from by have := HA.out; omega] at hsw
          have HDK2 : Hid ((swp dk u (u + 1)).toList = A ++ (Y1.take (u + 1 - a) ++ x :: (Y1.drop (u + 1 - a) ++ (Y2 ++ B)))) := by
            show _ = _
            rw [hsw, show u - a + 1 = u + 1 - a from by omega]
          clear hsw HDK
          have eu : ((u : Int)).toNat = u := by omega
          have pu : (0 : Int) ≤ (u : Int) := by omega
          have bu : (u : Int) < (d0.size : Int) := by omega
          have ru : IntKind.i64.wrap ((u : Int)) = (u : Int) := by rw [IntKind.wrap_i64]; omega
          have ev : ((u : Int) + 1).toNat = u + 1 := by omega
          have pv : (0 : Int) ≤ (u : Int) + 1 := by omega
          have bv : (u : Int) + 1 < (d0.size : Int) := by omega
          have rv : IntKind.i64.wrap ((u : Int) + 1) = (u : Int) + 1 := by rw [IntKind.wrap_i64]; omega
          have S2 : Aside (SWK enc k w0 blk off (swp dk u (u + 1)) ((wr.drew.setCells blk (off + u * k) (enc dk[u + 1]!)).setCells blk (off + (u + 1) * k) (enc dk[u]!))) := S1.out.swapped R u (u + 1) (by omega) (by omega)
          have la := S1.out.ld1 R (by omega) P u (by omega)
          have lb := S1.out.ld1 R (by omega) P (u + 1) (by omega)
          have sa := S1.out.st1 R (by omega) P u (by omega) dk[u + 1]!
          have sb := S1.out.st2 R (by omega) P u (u + 1) (by omega) (by omega) dk[u + 1]! dk[u]!
          have na : (enc dk[u]!).length = k := R.hk _
          have nb : (enc dk[u + 1]!).length = k := R.hk _
          generalize enc dk[u]! = cI at S2 la sb na
          generalize enc dk[u + 1]! = cJ at S2 lb sa sb nb
          clear S1
          have hltz : (u : Int) < (e1 : Int) := by omega
          go_wp2_with fail
          go_big_region_o
          clear la lb sa sb
          generalize (wr.drew.setCells blk (off + u * k) cJ).setCells blk (off + (u + 1) * k) cI = w2 at S2 ⊢
          go_wp2
          go_roundg (e1 - (u + 1))
          case measure => omega
          case rel => exact ⟨u + 1, swp dk u (u + 1), by go_num, by omega, by omega, Nat.le_refl _, by rw [size_swp]; exact hds, S2, HDK2⟩
        · have hltz : ¬ (u : Int) < (e1 : Int) := by omega
          go_wp2
          refine bodyPost_ret (results_none rfl _ _ _) rfl ?_
          refine ⟨rfl, dk, ?_, hds, S1.out⟩
          have := HL1.out
          have hz : ssort key ([x] ++ Y) = Y1 ++ x :: Y2 := HZ.out
          rw [HDK.out, List.take_of_length_le (by omega), List.drop_of_length_le (by omega)]
          simp only [List.singleton_append] at hz ⊢
          rw [hz]
          simp
end Go.Proofs.Ytpafnadfoedheaa
