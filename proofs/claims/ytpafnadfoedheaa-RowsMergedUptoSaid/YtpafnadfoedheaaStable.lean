/-
  slices.symMergeCmpFunc whole (by induction), slices.stableCmpFunc at events: the row, sorted, stable.
-/
import Derived.Test.YtpafnadfoedheaaSym1
import Derived.Test.YtpafnadfoedheaaSym2
import Derived.Test.YtpafnadfoedheaaSym3
import Derived.Test.YtpafnadfoedheaaChk
namespace Go.Proofs.Ytpafnadfoedheaa
open Go.Sort Go.RowKit Go.Lib

variable {P : Program} {α : Type} [Inhabited α] {enc : α → List Value} {k : Nat}

theorem symMerge_all (F : SF P k) {key : α → Int} {cf : α → α → Int} (hcf : ∀ x y, cf x y < 0 ↔ key x < key y) {g : Nat} {cb : Array Value} (eg : ∀ args w, (callFunc g args).run P w = .ok (.enter g args) w) {d0 : Array α} {w0 : World} {blk off cap : Nat}
    (hcmp : CmpLays P g cb enc k cf blk off d0.size w0) (R : RowK enc k w0 blk off d0) (hsz : d0.size < 4611686018427387904) : ∀ N, SymIH (enc := enc) P k key g cb d0 w0 blk off cap N
  | 0 => by
    intro h1 h2 h3 h4 h5 h6
    omega
  | N + 1 => by
    rename_i d w A X Y B ai mi bi len
    intro h1 h2 h3 h4 h5 h6 h7 h8 h9 h10 h11 h12
    have IH : SymIH (enc := enc) P k key g cb d0 w0 blk off cap N := symMerge_all F hcf eg hcmp R hsz N
    by_cases hX : X.length = 1
    · exact sym1 F hcf eg hcmp R hsz IH h1 h2 h3 h4 h5 h6 h7 h8 h9 h10 h11 h12 hX
    · by_cases hY : Y.length = 1
      · exact sym2 F hcf eg hcmp R hsz IH h1 h2 h3 h4 h5 h6 h7 h8 h9 h10 h11 h12 hX hY
      · exact sym3 F hcf eg hcmp R hsz IH h1 h2 h3 h4 h5 h6 h7 h8 h9 h10 h11 h12 hX hY

/-- What insertion sort does, in lists. -/
def InsC (P : Program) (k : Nat) (key : α → Int) (g : Nat) (cb : Array Value) (d0 : Array α) (w0 : World) (blk off cap : Nat) : Prop :=
  ∀ (d : Array α) (w : World) (A X B : List α) (ai bi : Int), d.size = d0.size → SWK enc k w0 blk off d w → d.toList = A ++ X ++ B → ai = A.length → bi = (A.length + X.length : Nat) →
    Calls P 26 #[.slice (some ⟨blk, off, none⟩) d0.size cap, .int .i64 ai, .int .i64 bi, .func (.func g) #[] cb] w fun e w' => e = .returned (.tuple #[]) ∧ ∃ d', d'.toList = A ++ ssort key X ++ B ∧ d'.size = d0.size ∧ SWK enc k w0 blk off d' w'
theorem InsC.use {key : α → Int} {g : Nat} {cb : Array Value} {d0 : Array α} {w0 : World} {blk off cap : Nat} (H : InsC (enc := enc) P k key g cb d0 w0 blk off cap) {d : Array α} {w : World} (A X B : List α) {ai bi : Int} (h1 : d.size = d0.size) (h2 : SWK enc k w0 blk off d w) (h3 : d.toList = A ++ X ++ B) (h4 : ai = A.length) (h5 : bi = (A.length + X.length : Nat)) :
    Calls P 26 #[.slice (some ⟨blk, off, none⟩) d0.size cap, .int .i64 ai, .int .i64 bi, .func (.func g) #[] cb] w fun e w' => e = .returned (.tuple #[]) ∧ ∃ d', d'.toList = A ++ ssort key X ++ B ∧ d'.size = d0.size ∧ SWK enc k w0 blk off d' w' := H d w A X B ai bi h1 h2 h3 h4 h5

omit [Inhabited α] in
theorem two_in {key : α → Int} {M Q : List α} {B : Nat} (h : Ch key B Q) : M ++ Q = M ++ Q.take B ++ (Q.drop B).take B ++ Q.drop (2 * B) := by
  conv => lhs; rw [(two_blocks h).1]
  simp
omit [Inhabited α] in
/-- Two blocks, merged, behind what is done. -/
theorem merge_step {key : α → Int} {l M R : List α} {B t : Nat} (h1 : M.length = t * (2 * B)) (h2 : Ch key (2 * B) M) (h3 : Ch key B R) (h4 : Stb key l (M ++ R)) (hl : 2 * B ≤ R.length) :
    (M ++ ssort key (R.take B ++ (R.drop B).take B)).length = (t + 1) * (2 * B) ∧ Ch key (2 * B) (M ++ ssort key (R.take B ++ (R.drop B).take B)) ∧ Ch key B (R.drop (2 * B)) ∧ Stb key l (M ++ ssort key (R.take B ++ (R.drop B).take B) ++ R.drop (2 * B)) := by
  obtain ⟨q1, q2, q3, q4⟩ := two_blocks h3
  have hn : (ssort key (R.take B ++ (R.drop B).take B)).length = 2 * B := by rw [ssort_length]; simp; omega
  refine ⟨?_, ch_snoc (by omega) (ssort_srt _) t M h1 h2, q4, ?_⟩
  · rw [List.length_append, hn, h1, Nat.succ_mul t]
  · refine h4.trans ?_
    conv => lhs; rw [q1]
    rw [← List.append_assoc]
    exact stb_mid

set_option maxHeartbeats 40000000 in
set_option maxRecDepth 1000000 in
theorem stable_at (F : SF P k) {key : α → Int} {cf : α → α → Int} (hcf : ∀ x y, cf x y < 0 ↔ key x < key y) {g : Nat} {cb : Array Value} (eg : ∀ args w, (callFunc g args).run P w = .ok (.enter g args) w) {d0 : Array α} {w0 : World} {blk off cap : Nat}
    (hcmp : CmpLays P g cb enc k cf blk off d0.size w0) (R : RowK enc k w0 blk off d0) (hsz : d0.size < 1152921504606846976) (INS : InsC (enc := enc) P k key g cb d0 w0 blk off cap) {d : Array α} {w : World}
    (hs : d.size = d0.size) (S : SWK enc k w0 blk off d w) :
    Calls P 24 #[.slice (some ⟨blk, off, none⟩) d0.size cap, .int .i64 d0.size, .func (.func g) #[] cb] w fun e w' => e = .returned (.tuple #[]) ∧ ∃ d', d'.toList = ssort key d.toList ∧ d'.size = d0.size ∧ SWK enc k w0 blk off d' w' := by
  have mixed := F.mixed; have t0 := F.t0; have a0 := F.a0; have z0 := F.z0; have v0 := F.v0; have t3 := F.t3; have a3 := F.a3; have z3 := F.z3; have v3 := F.v3; have t4 := F.t4; have a4 := F.a4; have z4 := F.z4; have v4 := F.v4; have t22 := F.tES; have a22 := F.aES; have z22 := F.zES; have v22 := F.vES; have t25 := F.tFN; have a25 := F.aFN; have z25 := F.zFN; have v25 := F.vFN; have t57 := F.tUI; have a57 := F.aUI; have z57 := F.zUI; have v57 := F.vUI; have aE := F.aE; have zE := F.zE
  have FG := F.fSt
  have eIn : ∀ args w, (callFunc 26 args).run P w = .ok (.enter 26 args) w := enters_of F.fIn rfl rfl
  have eSy : ∀ args w, (callFunc 27 args).run P w = .ok (.enter 27 args) w := enters_of F.fSy rfl rfl
  have SYM : Aside (∀ N, SymIH (enc := enc) P k key g cb d0 w0 blk off cap N) := symMerge_all F hcf eg hcmp R (by omega)
  have S0 : Aside (SWK enc k w0 blk off d w) := S
  have HI : Aside (InsC (enc := enc) P k key g cb d0 w0 blk off cap) := INS
  obtain ⟨n, hn⟩ : ∃ n, n = d0.size := ⟨_, rfl⟩
  have HN : Hid (n = d0.size) := hn
  have hl : d.toList.length = n := by rw [Array.length_toList]; omega
  have HL : Hid (d.toList.length = n) := hl
  obtain ⟨l, hdl⟩ : ∃ l, l = d.toList := ⟨_, rfl⟩
  rw [← hdl]
  have HDL : Hid (l = d.toList) := hdl
  have hnb : n < 1152921504606846976 := by omega
  rw [← hn] at hs ⊢
  clear hcmp S INS hcf F hl hdl hn
  go_enter FG, Try.ntmps24
  go_wp2_with fail
  go_loopg [7, 8] n (fun kx s7 s8 wr => ∃ (a b : Nat) (dk : Array α) (M Q : List α), s7 = .int .i64 a ∧ s8 = .int .i64 b ∧ a ≤ n ∧ n - a ≤ kx ∧ a + 20 ≤ b ∧ b ≤ a + 20 ∧ dk.size = n ∧ Aside (SWK enc k w0 blk off dk wr) ∧
    Hid (dk.toList = M ++ Q ∧ M.length = a ∧ (∃ t, a = t * 20) ∧ Ch key 20 M ∧ Stb key l (M ++ Q)))
  case atStart => exact ⟨0, 20, d, [], d.toList, rfl, rfl, Nat.zero_le _, by omega, by omega, by omega, hs, S0, ⟨rfl, rfl, ⟨0, rfl⟩, ch_nil _, by rw [HDL.out]; exact Stb.refl _⟩⟩
  case round =>
    clear S0
    obtain ⟨a, b, dk, M, Q, rfl, rfl, han, hkx, hab1, hab2, hds, S1, HQ⟩ := hrel
    have HLQ : Hid (M.length + Q.length = n) := by
      show _ = _
      rw [← hds, ← Array.length_toList, HQ.out.1, List.length_append]
    by_cases hlt : b ≤ n
    · have hltz : (b : Int) ≤ (n : Int) := by omega
      have CC := InsC.use HI.out M (Q.take 20) (Q.drop 20) (ai := a) (bi := b) (by rw [hds]; exact HN.out) S1.out (by rw [HQ.out.1]; simp) (by rw [HQ.out.2.1]) (by rw [List.length_take, HQ.out.2.1]; have := HLQ.out; have := HQ.out.2.1; omega)
      rw [← HN.out] at CC
      have CH := Go.Lib.hid CC
      clear CC S1
      go_wp2_with (go_at_fn 26; refine (CH.out).mono ?_; rintro ex w1 ⟨rfl, d1, hd1, hs1, S2⟩)
      go_roundg (n - b)
      case measure => omega
      case rel =>
        have h0 := HQ.out.2.1
        have h9 := HLQ.out
        have hT : (Q.take 20).length = 20 := by rw [List.length_take]; omega
        refine ⟨b, b + 20, d1, M ++ ssort key (Q.take 20), Q.drop 20, rfl, by go_num, by omega, Nat.le_refl _, by omega, by omega, hs1, S2, ⟨hd1, ?_, ?_, ?_, ?_⟩⟩
        · rw [List.length_append, ssort_length, hT]; omega
        · obtain ⟨t, ht⟩ := HQ.out.2.2.1
          exact ⟨t + 1, by omega⟩
        · obtain ⟨t, ht⟩ := HQ.out.2.2.1
          exact ch_snoc (by rw [ssort_length, hT]; exact Nat.le_refl _) (ssort_srt _) t M (by omega) HQ.out.2.2.2.1
        · refine HQ.out.2.2.2.2.trans ?_
          conv => lhs; rw [← List.take_append_drop 20 Q, ← List.append_assoc]
          exact stb_mid
    · have hltz : ¬ (b : Int) ≤ (n : Int) := by omega
      have CC := InsC.use HI.out M Q [] (ai := a) (bi := n) (by rw [hds]; exact HN.out) S1.out (by rw [HQ.out.1]; simp) (by rw [HQ.out.2.1]) (by rw [HLQ.out])
      rw [← HN.out] at CC
      have CH := Go.Lib.hid CC
      clear CC S1
      go_wp2_with (go_at_fn 26; refine (CH.out).mono ?_; rintro ex w1 ⟨rfl, d1, hd1, hs1, S2⟩)
      have HC2 : Hid (Ch key 20 d1.toList ∧ Stb key l d1.toList) := by
        obtain ⟨t, ht⟩ := HQ.out.2.2.1
        have h9 := HLQ.out
        have h0 := HQ.out.2.1
        rw [hd1, List.append_nil]
        refine ⟨ch_snoc (by rw [ssort_length]; omega) (ssort_srt _) t M (by omega) HQ.out.2.2.2.1, HQ.out.2.2.2.2.trans ?_⟩
        have := stb_mid (key := key) (A := M) (X := Q) (B := [])
        rwa [List.append_nil, List.append_nil] at this
      have S3 : Aside (SWK enc k w0 blk off d1 w1) := S2
      clear HQ HLQ CH hd1 S2
      go_loopg [6] n (fun kx s6 wr => ∃ (B : Nat) (dk : Array α), s6 = .int .i64 B ∧ 0 < B ∧ B ≤ 2 * n + 20 ∧ n - B ≤ kx ∧ dk.size = n ∧ Aside (SWK enc k w0 blk off dk wr) ∧ Hid (Ch key B dk.toList ∧ Stb key l dk.toList))
      case atStart => exact ⟨20, d1, rfl, by omega, by omega, by omega, hs1, S3, HC2⟩
      case round =>
        clear S3 HC2
        obtain ⟨B, dk, rfl, hB0, hBn, hkx2, hds2, S4, HC⟩ := hrel
        by_cases hBlt : B < n
        · have hBz : (B : Int) < (n : Int) := by omega
          go_wp2_with fail
          go_loopg [7, 8] n (fun kx s7 s8 wr => ∃ (a b : Nat) (dk : Array α) (M Q : List α), s7 = .int .i64 a ∧ s8 = .int .i64 b ∧ a ≤ n ∧ n - a ≤ kx ∧ a + 2 * B ≤ b ∧ b ≤ a + 2 * B ∧ dk.size = n ∧ Aside (SWK enc k w0 blk off dk wr) ∧
            Hid (dk.toList = M ++ Q ∧ M.length = a ∧ (∃ t, a = t * (2 * B)) ∧ Ch key (2 * B) M ∧ Ch key B Q ∧ Stb key l (M ++ Q)))
          case atStart => exact ⟨0, 2 * B, dk, [], dk.toList, rfl, by go_num, Nat.zero_le _, by omega, by omega, by omega, hds2, S4, ⟨rfl, rfl, ⟨0, by omega⟩, ch_nil _, HC.out.1, HC.out.2⟩⟩
          case round =>
            clear S4 HC hds2
            obtain ⟨a, b, dk, M, Q, rfl, rfl, han, hkx3, hab1, hab2, hds, S1, HQ⟩ := hrel
            have HLQ : Hid (M.length + Q.length = n) := by
              show _ = _
              rw [← hds, ← Array.length_toList, HQ.out.1, List.length_append]
            by_cases hlt : b ≤ n
            · have hltz : (b : Int) ≤ (n : Int) := by omega
              have CC := SymIH.use (SYM.out n) (d := dk) (w := wr) (A := M) (X := Q.take B) (Y := (Q.drop B).take B) (B := Q.drop (2 * B)) (ai := a) (mi := (a : Int) + (B : Int)) (bi := b) (len := n) (by have := HLQ.out; simp; omega) (by rw [hds]; exact HN.out) S1.out (by rw [HQ.out.1]; exact two_in HQ.out.2.2.2.2.1) (by have := HLQ.out; have := HQ.out.2.1; rw [List.length_take]; omega) (by have := HLQ.out; have := HQ.out.2.1; rw [List.length_take, List.length_drop]; omega) (ch_take HQ.out.2.2.2.2.1) (ch_take (ch_drop HQ.out.2.2.2.2.1)) (by rw [HQ.out.2.1]) (by have := HLQ.out; have := HQ.out.2.1; rw [List.length_take]; omega) (by have := HLQ.out; have := HQ.out.2.1; rw [List.length_take, List.length_take, List.length_drop]; omega) HN.out
              rw [← HN.out] at CC
              have CH := Go.Lib.hid CC
              clear CC S1
              go_wp2_with (go_at_fn 27; refine (CH.out).mono ?_; rintro ex w1 ⟨rfl, d1, hd1, hs1, S2⟩)
              go_roundg (n - b)
              case measure => omega
              case rel =>
                obtain ⟨t, ht⟩ := HQ.out.2.2.1
                have h0 := HQ.out.2.1
                have h9 := HLQ.out
                obtain ⟨m1, m2, m3, m4⟩ := merge_step (t := t) (by rw [h0, ht]) HQ.out.2.2.2.1 HQ.out.2.2.2.2.1 HQ.out.2.2.2.2.2 (by omega)
                refine ⟨b, b + 2 * B, d1, _, _, rfl, by go_num, by omega, Nat.le_refl _, by omega, by omega, hs1, S2, ⟨hd1, ?_, ⟨t + 1, ?_⟩, m2, m3, m4⟩⟩
                · rw [m1, Nat.succ_mul]; omega
                · rw [Nat.succ_mul]; omega
            · have hltz : ¬ (b : Int) ≤ (n : Int) := by omega
              by_cases hm : a + B < n
              · have hmz : (a : Int) + (B : Int) < (n : Int) := by omega
                have CC := SymIH.use (SYM.out n) (d := dk) (w := wr) (A := M) (X := Q.take B) (Y := Q.drop B) (B := []) (ai := a) (mi := (a : Int) + (B : Int)) (bi := n) (len := n) (by have := HLQ.out; simp; omega) (by rw [hds]; exact HN.out) S1.out (by rw [HQ.out.1]; simp) (by have := HLQ.out; have := HQ.out.2.1; rw [List.length_take]; omega) (by have := HLQ.out; have := HQ.out.2.1; rw [List.length_drop]; omega) (ch_take HQ.out.2.2.2.2.1) (ch_one (ch_drop HQ.out.2.2.2.2.1) (by have := HLQ.out; have := HQ.out.2.1; rw [List.length_drop]; omega)) (by rw [HQ.out.2.1]) (by have := HLQ.out; have := HQ.out.2.1; rw [List.length_take]; omega) (by have := HLQ.out; have := HQ.out.2.1; rw [List.length_take, List.length_drop]; omega) HN.out
                rw [← HN.out] at CC
                have CH := Go.Lib.hid CC
                clear CC S1
                go_wp2_with (go_at_fn 27; refine (CH.out).mono ?_; rintro ex w1 ⟨rfl, d1, hd1, hs1, S2⟩)
                go_roundg (n - 2 * B)
                case measure => omega
                case rel =>
                  obtain ⟨t, ht⟩ := HQ.out.2.2.1
                  have h0 := HQ.out.2.1
                  have h9 := HLQ.out
                  have e1 : Q.take B ++ Q.drop B = Q := List.take_append_drop _ _
                  rw [e1, List.append_nil] at hd1
                  refine ⟨2 * B, d1, by go_num, by omega, by omega, Nat.le_refl _, hs1, S2, ⟨?_, ?_⟩⟩
                  · rw [hd1]
                    exact ch_snoc (by rw [ssort_length]; omega) (ssort_srt _) t M (by rw [h0, ht]) HQ.out.2.2.2.1
                  · rw [hd1]
                    refine HQ.out.2.2.2.2.2.trans ?_
                    have := stb_mid (key := key) (A := M) (X := Q) (B := [])
                    rwa [List.append_nil, List.append_nil] at this
              · have hmz : ¬ (a : Int) + (B : Int) < (n : Int) := by omega
                go_wp2_with fail
                go_roundg (n - 2 * B)
                case measure => omega
                case rel =>
                  obtain ⟨t, ht⟩ := HQ.out.2.2.1
                  have h0 := HQ.out.2.1
                  have h9 := HLQ.out
                  refine ⟨2 * B, dk, by go_num, by omega, by omega, Nat.le_refl _, hds, S1, ⟨?_, ?_⟩⟩
                  · rw [HQ.out.1]
                    exact ch_snoc (by omega) (ch_one HQ.out.2.2.2.2.1 (by omega)) t M (by rw [h0, ht]) HQ.out.2.2.2.1
                  · rw [HQ.out.1]
                    exact HQ.out.2.2.2.2.2
        · have hBz : ¬ (B : Int) < (n : Int) := by omega
          go_wp2_with fail
          go_end0
          refine ⟨rfl, dk, ?_, hds2, S4.out⟩
          have := HC.out
          exact (ssort_is (ch_one this.1 (by rw [Array.length_toList]; omega)) this.2).symm
end Go.Proofs.Ytpafnadfoedheaa
