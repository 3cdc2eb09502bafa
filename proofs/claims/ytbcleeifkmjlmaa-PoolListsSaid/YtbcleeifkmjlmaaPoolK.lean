/-
  The law PoolLists: flushed, then got by another one.
-/
import Derived.Test.YtbcleeifkmjlmaaPoolE
namespace Go.Proofs.Ytbcleeifkmjlmaa
open Go.RowKit
set_option maxRecDepth 100000
set_option maxHeartbeats 2000000

def sumF (full : List (List Int)) : Nat := (full.map List.length).sum
theorem sumF_app (a b : List (List Int)) : sumF (a ++ b) = sumF a + sumF b := by unfold sumF; simp
theorem sumF_32 : ∀ full : List (List Int), (∀ l ∈ full, l.length = 32) → sumF full = 32 * full.length
  | [], _ => rfl
  | a :: full, h => by
    have h1 := sumF_32 full fun l hl => h l (List.mem_cons_of_mem _ hl)
    have h2 := h a (by simp)
    unfold sumF at h1 ⊢
    simp only [List.map_cons, List.sum_cons, List.length_cons]
    omega
theorem nz_len (o : List Int) : (nz o).length = if 0 < o.length then 1 else 0 := by unfold nz; split <;> rfl
theorem nz_sum (o : List Int) : sumF (nz o) = o.length := by
  unfold nz sumF
  split
  · simp
  · simp; omega
theorem nz_pos {o l : List Int} (h : l ∈ nz o) : 0 < l.length := by
  unfold nz at h
  split at h
  · rw [List.mem_singleton.1 h]; assumption
  · cases h
theorem PI.flush {k : Nat} {o t : List Int} {f : Bool} {full : List (List Int)} (h : PI k o t f full) :
    (full ++ (nz o ++ nz t)).length = (k + 31) / 32 ∧ (∀ l ∈ full ++ (nz o ++ nz t), 0 < l.length) ∧ sumF (full ++ (nz o ++ nz t)) = k ∧ (f || (decide (0 < o.length) || decide (0 < t.length))) = decide (0 < k) := by
  obtain ⟨ha, h⟩ := h
  refine ⟨?_, ?_, ?_, ?_⟩
  · rw [List.length_append, List.length_append, nz_len, nz_len]
    rcases h with ⟨h1, h2, h3, h4, h5⟩ | ⟨h1, h2, h3, h4, h5, h6⟩
    · rw [h3, h5, h2]
      simp only [List.length_nil]
      split <;> simp <;> omega
    · rw [if_pos (by omega), if_pos (by omega)]
      omega
  · intro l hl
    rcases List.mem_append.1 hl with hl | hl
    · rw [ha l hl]; omega
    · rcases List.mem_append.1 hl with hl | hl
      · exact nz_pos hl
      · exact nz_pos hl
  · rw [sumF_app, sumF_app, nz_sum, nz_sum, sumF_32 _ ha]
    rcases h with ⟨h1, h2, h3, h4, h5⟩ | ⟨h1, h2, h3, h4, h5, h6⟩
    · rw [h3, h5, h2]; simp
    · omega
  · rcases h with ⟨h1, h2, h3, h4, h5⟩ | ⟨h1, h2, h3, h4, h5, h6⟩
    · rw [h4, h3, h2]; simp
    · rw [decide_eq_true (show 0 < o.length by omega), decide_eq_true (show 0 < k by omega)]; simp
theorem get_other {y : List Int × List Int × Bool} {o : List Int} {f ok : Bool} {full : List (List Int)} {e : Nat} {v : Int} {P : Pl} (hp : GetL [y] [] o [] f full e v ok P) (ha : ∀ l ∈ full, 0 < l.length) (hr : 0 < o.length + sumF full) :
    ok = true ∧ ∃ o' full' e', P = ⟨[y, (o', [], f)], full', e'⟩ ∧ (∀ l ∈ full', 0 < l.length) ∧ o'.length + sumF full' + 1 = o.length + sumF full ∧ full'.length + e' = full.length + e := by
  rcases hp with ⟨h1, _, h3, rfl⟩ | ⟨_, h, _⟩ | ⟨h1, _, h3, _⟩ | ⟨h1, _, F, l, rfl, h4, h5, rfl⟩
  · exact ⟨h3, _, _, _, rfl, ha, by simp; omega, rfl⟩
  · exact absurd h (by decide)
  · subst h1 h3
    exact absurd hr (by unfold sumF; simp)
  · subst h1
    have hl := ha l (by simp)
    refine ⟨by rw [h5]; exact decide_eq_true hl, _, _, _, rfl, fun m hm => ha m (by simp [hm]), ?_, ?_⟩
    · rw [sumF_app]
      have e1 : sumF [l] = l.length := by unfold sumF; simp
      rw [e1]
      simp
      omega
    · simp; omega
theorem sumF_nil {full : List (List Int)} (ha : ∀ l ∈ full, 0 < l.length) (h : sumF full = 0) : full = [] := by
  cases full with
  | nil => rfl
  | cons a b =>
    have := ha a (by simp)
    unfold sumF at h
    simp only [List.map_cons, List.sum_cons] at h
    omega

theorem PoolLists_walk (w : World) (n : Int) :
    Calls Try.prog 8 #[.int .i64 n] w fun e w' => e = .returned (.bool true) ∧ Below w.heap.size w w' := by
  have hu : 0 ≤ IntKind.u64.wrap n := by rw [IntKind.wrap_u64]; exact Int.emod_nonneg _ (by omega)
  have hm0 : 0 ≤ IntKind.u64.wrap n % 301 := Int.emod_nonneg _ (by omega)
  have hm1 : IntKind.u64.wrap n % 301 < 301 := Int.emod_lt_of_pos _ (by omega)
  obtain ⟨k, hk⟩ := Int.eq_ofNat_of_zero_le hm0
  have hk300 : k ≤ 300 := by omega
  clear hm0 hm1
  go_enter Try.func8, Try.ntmps8
  go_wp2_with fail
  refine (new2 w).mono ?_
  rintro e w1 ⟨W, rfl, h1⟩
  unfold ptr
  go_wp2_with fail
  clear hk hu
  obtain ⟨B, hB⟩ : ∃ B, B = w.heap.size := ⟨_, rfl⟩
  rw [← hB] at h1
  have HB := Lib.hid hB
  clear hB
  go_loopg [6] 301 (fun q s6 ws => ∃ (j : Nat) (o t : List Int) (f : Bool) (full : List (List Int)), s6 = .int .i64 (j + 1) ∧ j ≤ k ∧ 301 - j ≤ q ∧ RepL B w ws W ⟨[(o, t, f), ([], [], false)], full, 0⟩ ∧ Hid (PI j o t f full))
  case atStart => exact ⟨0, [], [], false, [], rfl, by omega, by omega, h1, ⟨(fun l hl => by cases hl), .inl ⟨by omega, rfl, rfl, rfl, rfl⟩⟩⟩
  case round =>
    clear h1
    obtain ⟨j, o, t, f, full, rfl, hj, hq, h1, hP⟩ := hrel
    have H1 := Lib.hid h1
    clear h1
    by_cases hlt : j < k
    · go_wp2_with fail
      refine (put20 H1.out (by omega) (by have := hP.out.len; omega) ((j : Int) + 1) (by omega)).mono ?_
      rintro e w2 ⟨rfl, P, h2, hp⟩
      obtain ⟨o', t', f', full', rfl, hP'⟩ := hP.out.put hp
      have H2 := Lib.hid h2
      have HP := Lib.hid hP'
      clear hp hP' h2 hP
      go_wp2_with fail
      go_roundg (301 - (j + 1))
      case measure => omega
      case rel => exact ⟨j + 1, o', t', f', full', by go_num, by omega, by omega, H2.out, HP⟩
    · obtain rfl : j = k := by omega
      go_wp2_with fail
      refine (flush20 H1.out (by omega) (by have := hP.out.len; omega)).mono ?_
      rintro e w2 ⟨⟨v2, rfl⟩, e', _, he, h2⟩
      obtain rfl := he rfl
      obtain ⟨g1, g2, g3, g4⟩ := hP.out.flush
      rw [g4] at h2
      generalize full ++ (nz o ++ nz t) = fs at g1 g2 g3 h2
      have H2 := Lib.hid h2
      have HF := Lib.hid (And.intro g2 g3)
      obtain ⟨Q, hQ⟩ : ∃ Q, Q = fs.length := ⟨_, rfl⟩
      have hQ' : Q = (j + 31) / 32 := by omega
      have HQ := Lib.hid hQ
      clear h2 g1 g2 g3 g4 he H1 hP hQ
      go_wp2_with fail
      refine (lists_L H2.out).mono ?_
      rintro e w3 ⟨rfl, hb3⟩
      have H3 := Lib.hid (H2.out.step hb3)
      clear hb3 H2
      rw [show (Pl.mk [([], [], decide (0 < j)), ([], [], false)] fs 0).full.length = Q from HQ.out.symm]
      have hq1 : ((Q : Int) == Int.tdiv ((j : Int) + 31) 32) = true := by
        rw [Int.tdiv_eq_ediv_of_nonneg (by omega)]
        simp
        omega
      go_wp2_with fail
      refine (len_L H3.out (by show 2 ≤ 64; omega) (by show fs.length ≤ _; have := HQ.out; omega)).mono ?_
      rintro e w4 ⟨rfl, hb4⟩
      have e4 : lenL ⟨[([], [], decide (0 < j)), ([], [], false)], fs, 0⟩ = j := by
        have := HF.out.2
        unfold sumF at this
        unfold lenL
        simp
        exact this
      rw [e4]
      have H4 := Lib.hid (H3.out.step hb4)
      clear hb4 H3 e4
      go_wp2_with fail
      refine (flushed20 H4.out).mono ?_
      rintro e w' ⟨rfl, rfl⟩
      have c1 : (decide (0 < j) == decide (0 < (j : Int))) = true := by simp
      go_wp2_with fail
      go_loopg [9, 10, 11] 301 (fun q s9 _ _ ws => ∃ (i : Nat) (o : List Int) (full : List (List Int)) (e : Nat), s9 = .int .i64 i ∧ i ≤ j ∧ 301 - i ≤ q ∧ RepL B w ws W ⟨[([], [], decide (0 < j)), (o, [], false)], full, e⟩ ∧ Hid ((∀ l ∈ full, 0 < l.length) ∧ o.length + sumF full + i = j ∧ full.length + e = Q))
      case atStart => exact ⟨0, [], fs, 0, rfl, by omega, by omega, H4.out, ⟨HF.out.1, by have := HF.out.2; simp; omega, by have := HQ.out; omega⟩⟩
      case round =>
        clear H4
        obtain ⟨i, o, full, e, rfl, hi, hq, h5, hG⟩ := hrel
        have H5 := Lib.hid h5
        clear h5
        have hle := hG.out.2.2
        have hle1 : full.length ≤ 100000 := by omega
        have hle2 : e ≤ 100000 := by omega
        clear hle
        by_cases hlt : i < j
        · go_wp2_with fail
          refine (get21 H5.out hle2 hle1).mono ?_
          rintro r w6 ⟨v, ok, rfl, P, h6, hp⟩
          obtain ⟨rfl, o', full', e', rfl, k1, k2, k3⟩ := get_other hp hG.out.1 (by have := hG.out.2.1; omega)
          have H6 := Lib.hid h6
          have HG := Lib.hid (show (∀ l ∈ full', 0 < l.length) ∧ o'.length + sumF full' + (i + 1) = j ∧ full'.length + e' = Q from ⟨k1, by have := hG.out.2.1; omega, by have := hG.out.2.2; omega⟩)
          clear hp h6 k1 k2 k3 hG H5
          go_wp2_with fail
          go_roundg (301 - (i + 1))
          case measure => omega
          case rel => exact ⟨i + 1, o', full', e', by go_num, by omega, by omega, H6.out, HG⟩
        · obtain rfl : i = j := by omega
          have k1 := hG.out.2.1
          obtain rfl : o = [] := List.eq_nil_of_length_eq_zero (by omega)
          obtain rfl : full = [] := sumF_nil hG.out.1 (by omega)
          obtain rfl : e = Q := by have := hG.out.2.2; simpa using this
          clear k1 hG
          go_wp2_with fail
          refine (lists_L H5.out).mono ?_
          rintro r w6 ⟨rfl, hb6⟩
          have H6 := Lib.hid (H5.out.step hb6)
          rw [show (Pl.mk [([], [], decide (0 < i)), ([], [], false)] [] e).full.length = 0 from rfl]
          rw [show (Pl.mk [([], [], decide (0 < i)), ([], [], false)] [] e).e = e from rfl]
          clear hb6 H5
          go_wp2_with fail
          refine (pool_get_nil _ _).mono ?_
          rintro r w' ⟨rfl, rfl⟩
          go_wp2_with fail
          refine (told18 _).mono ?_
          rintro r w7 ⟨rfl, hb7⟩
          have H7 := Lib.hid (H6.out.step hb7)
          clear hb7 H6
          go_wp2_with fail
          refine (len_L H7.out (by show 2 ≤ 64; omega) (by simp)).mono ?_
          rintro r w8 ⟨rfl, hb8⟩
          have H8 := Lib.hid (H7.out.step hb8)
          rw [show lenL ⟨[([], [], decide (0 < i)), ([], [], false)], [], e⟩ = 0 from rfl]
          clear hb8 H7
          go_wp2_with fail
          refine (pool_len_nil _).mono ?_
          rintro r w' ⟨rfl, rfl⟩
          go_wp2_with fail
          refine (pool_give_nil _ _).mono ?_
          rintro r w' ⟨rfl, rfl⟩
          go_wp2_with fail
          refine (pool_flushed_nil _ _).mono ?_
          rintro r w' ⟨rfl, rfl⟩
          go_wp2_with fail
          go_ret
          exact ⟨rfl, HB.out ▸ H8.out.below⟩
end Go.Proofs.Ytbcleeifkmjlmaa
