/- The plain part: what the functions answer. No condition. -/
import Derived.Test.YtjocdcnodndjjaaPu02b
set_option linter.unusedVariables false
set_option linter.unusedSimpArgs false
namespace Rk
open Go

/-! ### What was written is read as it was -/

theorem rdN_enc : ∀ (k v n acc : Nat) (t : List UInt8), v < 128 ^ (k + 1) → v < 2 ^ 63 → (n = 0 ∨ 0 < v) → n + (encN v).length ≤ 9 → acc + v * 128 ^ n ≤ 4611686018427387904 →
    rdN n acc (encN v ++ t) = (0, acc + v * 128 ^ n, n + (encN v).length) := by
  intro k
  induction k with
  | zero =>
    intro v n acc t hv hm hz hl hmax
    simp at hv
    rw [encN_lt hv] at hl ⊢
    have e : (o8 (v : Int)).toNat = v := by
      have := i8_o8 (n := (v : Int)) (by omega) (by omega)
      unfold i8 at this; omega
    simp only [List.singleton_append, rdN, e, List.length_singleton] at hl ⊢
    rw [if_neg (by omega), if_pos hv, if_neg (by omega), if_neg (by omega)]
  | succ k ih =>
    intro v n acc t hv hm hz hl hmax
    by_cases hlt : v < 128
    · rw [encN_lt hlt] at hl ⊢
      have e : (o8 (v : Int)).toNat = v := by
        have := i8_o8 (n := (v : Int)) (by omega) (by omega)
        unfold i8 at this; omega
      simp only [List.singleton_append, rdN, e, List.length_singleton] at hl ⊢
      rw [if_neg (by omega), if_pos hlt, if_neg (by omega), if_neg (by omega)]
    · rw [encN_ge hlt] at hl ⊢
      have e : (o8 ((v % 128 + 128 : Nat) : Int)).toNat = v % 128 + 128 := by
        have := i8_o8 (n := ((v % 128 + 128 : Nat) : Int)) (by omega) (by omega)
        unfold i8 at this; omega
      simp only [List.cons_append, rdN, e, List.length_cons] at hl ⊢
      have hsum : acc + (v % 128 + 128) % 128 * 128 ^ n + v / 128 * 128 ^ (n + 1) = acc + v * 128 ^ n := by
        have e1 : (v % 128 + 128) % 128 = v % 128 := by omega
        rw [e1, Nat.pow_succ]
        have e2 : v / 128 * (128 ^ n * 128) = (v / 128 * 128) * 128 ^ n := by rw [Nat.mul_assoc, Nat.mul_comm (128 ^ n)]
        rw [e2, Nat.add_assoc, ← Nat.add_mul]
        congr 2
        omega
      rw [if_neg (by omega), if_neg (by omega), ih (v / 128) (n + 1) _ t (by rw [Nat.pow_succ] at hv; omega) (by omega) (by omega) (by omega) (by rw [hsum]; exact hmax), hsum]
      congr 2
      omega

theorem rdN_back {v : Nat} (hv : v ≤ 4611686018427387904) (t : List UInt8) : rdN 0 0 (encN v ++ t) = (0, v, (encN v).length) := by
  have := rdN_enc 8 v 0 0 t (by omega) (by omega) (.inl rfl) (by have := encN_9 (v := v) (by omega); omega) (by omega)
  simpa using this

theorem rdC_back {v : Nat} {most : Int} (hv : v ≤ 4611686018427387904) (hm : (v : Int) ≤ most) (t : List UInt8) : rdC most (encN v ++ t) = (0, v, (encN v).length) := by
  unfold rdC
  rw [rdN_back hv]
  simp only
  rw [if_neg (by simp; omega)]

theorem rdT_back {s : List UInt8} {most : Int} (hs : s.length ≤ 10000000) (hm : (s.length : Int) ≤ most) (t : List UInt8) : rdT most (encT s ++ t) = (0, s, (encT s).length) := by
  unfold rdT encT
  rw [List.append_assoc, rdC_back (by omega) hm]
  simp only [if_true, List.length_append]
  rw [if_neg (by omega)]
  simp

theorem rdTs_back {most : Int} : ∀ (l : List (List UInt8)) (t : List UInt8), (∀ s ∈ l, s.length ≤ 10000 ∧ (s.length : Int) ≤ most) → rdTs most l.length (l.flatMap encT ++ t) = (0, l, (l.flatMap encT).length)
  | [], t, _ => rfl
  | s :: l, t, h => by
    simp only [List.length_cons, List.flatMap_cons, List.append_assoc, rdTs]
    obtain ⟨h1, h2⟩ := h s (by simp)
    rw [rdT_back (by omega) h2]
    simp only [if_true, List.drop_left']
    rw [rdTs_back l t (fun s hs => h s (by simp [hs]))]
    simp [List.length_append]

theorem rdL_back {l : List (List UInt8)} {many most : Int} (hl : l.length ≤ 1000) (hm : (l.length : Int) ≤ many) (hs : ∀ s ∈ l, s.length ≤ 10000 ∧ (s.length : Int) ≤ most) (t : List UInt8) :
    rdL many most (encL l ++ t) = (0, l, (encL l).length) := by
  unfold rdL encL
  rw [List.append_assoc, rdC_back (by omega) hm]
  simp only [if_true, List.drop_left']
  rw [rdTs_back l t hs]
  simp [List.length_append]

theorem flatEnc_len : ∀ (l : List (List UInt8)), (∀ s ∈ l, s.length ≤ 1000) → (l.flatMap encT).length ≤ 1009 * l.length
  | [], _ => by simp
  | s :: l, h => by
    have := flatEnc_len l (fun s hs => h s (by simp [hs]))
    have h1 := h s (by simp)
    have h2 := encT_len (s := s) (by omega)
    simp only [List.flatMap_cons, List.length_append, List.length_cons]
    omega

theorem encL_len {l : List (List UInt8)} (hl : l.length ≤ 50) (h : ∀ s ∈ l, s.length ≤ 1000) : (encL l).length ≤ 100000 := by
  have := flatEnc_len l h
  have h2 := encN_9 (v := l.length) (by omega)
  unfold encL
  simp only [List.length_append]
  omega

theorem CodeBack_ok {v : Int} {s : List UInt8} {l : List (List UInt8)} {rest : List UInt8} (hlm : l.length ≤ 9223372036854775807) : law02_CodeBack v s l rest = some true := by
  refine law02_CodeBack_of ?_
  unfold law02_CodeBack_b
  obtain ⟨g, hg, hgl⟩ := law02_great_ok (l := l) hlm
  rw [hg, bS]
  by_cases hc : g = true ∨ (s.length : Int) > 1000 ∨ (rest.length : Int) > 100 ∨ v < 0 ∨ v > 4611686018427387904
  · have : (if (if (if (if g = true then true else decide ((s.length : Int) > 1000)) = true then true else decide ((rest.length : Int) > 100)) = true then true else decide (v < 0)) = true then true else decide (v > 4611686018427387904)) = true := by
      rcases hc with h | h | h | h | h <;> simp [h]
    rw [cT this, knows_ok]
    rfl
  · simp only [not_or] at hc
    obtain ⟨h1, h2, h3, h4, h5⟩ := hc
    have : (if (if (if (if g = true then true else decide ((s.length : Int) > 1000)) = true then true else decide ((rest.length : Int) > 100)) = true then true else decide (v < 0)) = true then true else decide (v > 4611686018427387904)) = false := by
      rw [if_neg h1, dF h2, dF h3, dF h4, dF h5]; rfl
    rw [cF this]
    obtain ⟨hl50, hl1000⟩ := hgl (by simpa using h1)
    obtain ⟨a, rfl⟩ : ∃ a : Nat, v = a := ⟨v.toNat, by omega⟩
    have n1 := encN_9 (v := a) (by omega)
    have n2 := encT_len (s := s) (by omega)
    have n3 := encL_len hl50 hl1000
    have e1 : encN a ++ encT s ++ encL l = encN a ++ (encT s ++ encL l) := by simp
    rw [code_Num_ok (by omega) (by simp), bS]
    dsimp only
    rw [List.nil_append, code_Text_ok (by omega) (by omega), bS, code_List_ok (by simp only [List.length_append]; omega) (by omega) (fun s hs => by have := hl1000 s hs; omega), bS]
    rw [List.nil_append]
    generalize hB : encN a ++ encT s ++ encL l = b at *
    have hbl : b.length = (encN a).length + (encT s).length + (encL l).length := by rw [← hB]; simp [List.length_append]; omega
    rw [grd (dT (by omega)), grd (dT (by simp only [List.length_append]; omega))]
    have hBr : b ++ rest = encN a ++ (encT s ++ (encL l ++ rest)) := by rw [← hB]; simp
    have hlen : (b ++ rest).length = b.length + rest.length := by simp
    have ok : ∀ k : Nat, k ≤ b.length → RdOk (b ++ rest) (k : Int) := fun k hk => ⟨by omega, by omega, by omega⟩
    have r1 : code_ReadNum (b ++ rest) 0 0 = some (b ++ rest, ((encN a).length : Int), 0, (a : Int)) := by
      have := code_ReadNum_ok (ok 0 (by omega))
      rw [show ((0 : Nat) : Int) = 0 from rfl] at this
      rw [this, show (0 : Int).toNat = 0 from rfl, List.drop_zero, hBr, rdN_back (by omega)]
      simp [resN]
    have r2 : code_ReadText (b ++ rest) ((encN a).length : Int) 0 1000 = some (b ++ rest, (((encN a).length + (encT s).length : Nat) : Int), 0, s) := by
      rw [code_ReadText_ok (ok _ (by omega)), Int.toNat_natCast]
      have : (b ++ rest).drop (encN a).length = encT s ++ (encL l ++ rest) := by rw [hBr]; simp
      rw [this, rdT_back (by omega) (by omega)]
      simp [resT]
    have r3 : code_ReadList (b ++ rest) (((encN a).length + (encT s).length : Nat) : Int) 0 50 1000 = some (b ++ rest, (b.length : Int), 0, l) := by
      rw [code_ReadList_ok (ok _ (by omega)) (by omega), Int.toNat_natCast]
      have : (b ++ rest).drop ((encN a).length + (encT s).length) = encL l ++ rest := by rw [hBr, ← List.drop_drop]; simp
      rw [this, rdL_back (by omega) (by omega) (fun s hs => ⟨by have := hl1000 s hs; omega, by have := hl1000 s hs; omega⟩)]
      simp only [resL, if_true]
      rw [hbl]
      congr 3
    have r4 : code_Done (b ++ rest) (b.length : Int) 0 = some (if ((b.length : Nat) : Int) < (((b ++ rest).length : Nat) : Int) then 2 else 0) := code_Done_ok (ok _ (by omega))
    rw [r1, bS]
    dsimp only
    rw [r2, bS]
    dsimp only
    rw [r3, bS]
    dsimp only
    rw [ref02_Same_ok hlm, r4, knows_ok]
    by_cases hr : rest.length = 0
    · have hr' : rest = [] := List.length_eq_zero_iff.1 hr
      subst hr'
      simp
    · have q : ((b.length : Nat) : Int) < (((b ++ rest).length : Nat) : Int) := by omega
      have q2 : rest ≠ [] := fun e => hr (by rw [e]; rfl)
      have q3 : ((rest.length : Int) == 0) = false := by simpa using hr
      rw [if_pos q]
      simp [q2, q3]

/-! ### What is written is what the document says -/

theorem CodeWrites_ok {v : Int} {s : List UInt8} {l : List (List UInt8)} {ahead : List UInt8} (hlm : l.length ≤ 9223372036854775807) : law02_CodeWrites v s l ahead = some true := by
  refine law02_CodeWrites_of ?_
  unfold law02_CodeWrites_b
  obtain ⟨g, hg, hgl⟩ := law02_great_ok (l := l) hlm
  rw [hg, bS]
  by_cases hc : g = true ∨ (s.length : Int) > 1000 ∨ (ahead.length : Int) > 100
  · have : (if (if g = true then true else decide ((s.length : Int) > 1000)) = true then true else decide ((ahead.length : Int) > 100)) = true := by
      rcases hc with h | h | h <;> simp [h]
    rw [cT this, knows_ok]
    rfl
  · simp only [not_or] at hc
    obtain ⟨h1, h2, h3⟩ := hc
    have : (if (if g = true then true else decide ((s.length : Int) > 1000)) = true then true else decide ((ahead.length : Int) > 100)) = false := by
      rw [if_neg h1, dF h2, dF h3]; rfl
    rw [cF this]
    obtain ⟨hl50, hl1000⟩ := hgl (by simpa using h1)
    have n2 := encT_len (s := s) (by omega)
    have n3 := encL_len hl50 hl1000
    rw [List.nil_append, grd (dT (by omega))]
    have tail : ((code_Text ahead s).bind fun r5 => ((ref02_Text s).bind fun r6 => (bif ((decide ((((ahead ++ r6)).length : Int) ≤ (70368744177664 : Int))) && true) then ((bif ((r5 == (ahead ++ r6)) && true) then (code_List ahead l) else some ([] : List UInt8)).bind fun r7 => ((bif ((r5 == (ahead ++ r6)) && true) then (ref02_List l) else some ([] : List UInt8)).bind fun r8 => (bif ((!(r5 == (ahead ++ r6)) || (decide ((((ahead ++ r8)).length : Int) ≤ (70368744177664 : Int)))) && true) then ((bif ((if (r5 == (ahead ++ r6)) then (r7 == (ahead ++ r8)) else false) && true) then (law02_knows) else some false).bind fun r9 => (some (if (if (r5 == (ahead ++ r6)) then (r7 == (ahead ++ r8)) else false) then r9 else false))) else none))) else none))) = some true := by
      rw [code_Text_ok (by omega) (by omega), bS, ref02_Text_ok (by omega), bS, grd (dT (by simp only [List.length_append]; omega))]
      simp only [BEq.rfl, Bool.and_true, cond_true, Bool.not_true, Bool.false_or]
      rw [code_List_ok (by omega) (by omega) (fun s hs => by have := hl1000 s hs; omega), bS, ref02_List_ok (by omega) (fun s hs => by have := hl1000 s hs; omega), bS, cT (dT (by simp only [List.length_append]; omega))]
      simp [knows_ok]
    by_cases hv : v < 0 ∨ v > 4611686018427387904
    · rw [code_Num_bad (by omega), bS]
      have q : (if decide (v < 0) = true then true else decide (v > 4611686018427387904)) = true := by rcases hv with h | h <;> simp [h]
      rw [cT q]
      dsimp only
      rw [cF (by rfl), bS]
      exact tail
    · simp only [not_or] at hv
      have q : (if decide (v < 0) = true then true else decide (v > 4611686018427387904)) = false := by rw [dF hv.1, dF hv.2]; rfl
      obtain ⟨a, rfl⟩ : ∃ a : Nat, v = a := ⟨v.toNat, by omega⟩
      have n1 := encN_9 (v := a) (by omega)
      rw [code_Num_ok (by omega) (by omega), bS, cF q, ref02_Num_ok 8 a (by omega) (by omega), bS, grd (dT (by simp only [List.length_append]; omega))]
      dsimp only
      have q2 : (if (!(ahead ++ encN a == ahead ++ encN a)) = true then true else ((0 : Int) != 0)) = false := by simp
      rw [cF q2, bS]
      exact tail


/-! ### What is read was written just so -/

theorem o8_toNat (x : UInt8) : o8 ((x.toNat : Nat) : Int) = x := o8_i8 x

theorem rdN_only : ∀ (l : List UInt8) (n acc : Nat), (rdN n acc l).1 = 0 → ∃ w, (rdN n acc l).2.1 = acc + w * 128 ^ n ∧ l.take ((rdN n acc l).2.2 - n) = encN w ∧ (0 < n → 0 < w)
  | [], n, acc, h => by
    simp only [rdN] at h
    split at h <;> simp at h
  | x :: r, n, acc, h => by
    simp only [rdN] at h ⊢
    by_cases h9 : n = 9
    · rw [if_pos h9] at h; simp at h
    · rw [if_neg h9] at h ⊢
      by_cases hx : x.toNat < 128
      · rw [if_pos hx] at h ⊢
        by_cases hz : x.toNat = 0 ∧ 0 < n
        · rw [if_pos hz] at h; simp at h
        · rw [if_neg hz] at h ⊢
          by_cases hm : 4611686018427387904 < acc + x.toNat * 128 ^ n
          · rw [if_pos hm] at h; simp at h
          · rw [if_neg hm]
            refine ⟨x.toNat, rfl, ?_, fun hn => by omega⟩
            dsimp only
            rw [show n + 1 - n = 1 by omega, encN_lt hx, o8_toNat]
            rfl
      · rw [if_neg hx] at h ⊢
        obtain ⟨w, h1, h2, h3⟩ := rdN_only r (n + 1) _ h
        obtain ⟨q1, q2, q3⟩ := rdN_le r (n + 1) _ h
        have hw := h3 (by omega)
        have hxl := x.toNat_lt
        refine ⟨x.toNat % 128 + 128 * w, ?_, ?_, fun _ => by omega⟩
        · rw [h1, Nat.pow_succ, Nat.add_mul, Nat.add_assoc]
          congr 2
          rw [Nat.mul_comm 128 w, Nat.mul_assoc, Nat.mul_comm 128]
        · have e1 : (rdN (n + 1) (acc + x.toNat % 128 * 128 ^ n) r).2.2 - n = ((rdN (n + 1) (acc + x.toNat % 128 * 128 ^ n) r).2.2 - (n + 1)) + 1 := by omega
          rw [e1, List.take_succ_cons, h2, encN_ge (v := x.toNat % 128 + 128 * w) (by omega)]
          congr 1
          · have : (x.toNat % 128 + 128 * w) % 128 + 128 = x.toNat := by omega
            rw [this, o8_toNat]
          · congr 1
            omega

theorem rdN_9 : ∀ (l : List UInt8) (n acc : Nat), n ≤ 9 → (rdN n acc l).1 = 0 → (rdN n acc l).2.2 ≤ 9
  | [], n, acc, hn, h => by
    simp only [rdN] at h
    split at h <;> simp at h
  | x :: r, n, acc, hn, h => by
    simp only [rdN] at h ⊢
    by_cases h9 : n = 9
    · rw [if_pos h9] at h; simp at h
    · rw [if_neg h9] at h ⊢
      by_cases hx : x.toNat < 128
      · rw [if_pos hx] at h ⊢
        by_cases hz : x.toNat = 0 ∧ 0 < n
        · rw [if_pos hz] at h; simp at h
        · rw [if_neg hz] at h ⊢
          by_cases hm : 4611686018427387904 < acc + x.toNat * 128 ^ n
          · rw [if_pos hm] at h; simp at h
          · rw [if_neg hm]
            dsimp only
            omega
      · rw [if_neg hx] at h ⊢
        exact rdN_9 r (n + 1) _ (by omega) h

/-- Of a beginning: as of the whole, or there is more. -/
theorem rdN_take : ∀ (l : List UInt8) (n acc j e v m : Nat), n ≤ 9 → rdN n acc l = (e, v, m) → e = 0 → (j < m - n → rdN n acc (l.take j) = (4, 0, 0)) ∧ (m - n ≤ j → rdN n acc (l.take j) = (e, v, m))
  | [], n, acc, j, e, v, m, hn, h, he => by
    simp only [rdN] at h
    split at h <;> (simp only [Prod.mk.injEq] at h; omega)
  | x :: r, n, acc, j, e, v, m, hn, h, he => by
    have h9 : ¬ n = 9 := by
      intro h9
      simp only [rdN] at h
      rw [if_pos h9] at h; simp only [Prod.mk.injEq] at h; omega
    have hlt := (rdN_le (x :: r) n acc (by rw [h]; exact he)).1
    rw [h] at hlt
    dsimp only at hlt
    cases j with
    | zero =>
      refine ⟨fun _ => ?_, fun h => by omega⟩
      simp only [List.take_zero, rdN]
      rw [if_neg h9]
    | succ j =>
      simp only [List.take_succ_cons]
      simp only [rdN] at h ⊢
      rw [if_neg h9] at h
      rw [if_neg h9]
      by_cases hx : x.toNat < 128
      · rw [if_pos hx] at h ⊢
        refine ⟨fun hj => ?_, fun _ => h⟩
        exfalso
        split at h
        · simp only [Prod.mk.injEq] at h; omega
        · split at h <;> (simp only [Prod.mk.injEq] at h; omega)
      · rw [if_neg hx] at h ⊢
        obtain ⟨g1, g2⟩ := rdN_take r (n + 1) _ j e v m (by omega) h he
        have hlt2 := (rdN_le r (n + 1) _ (by rw [h]; exact he)).1
        rw [h] at hlt2
        dsimp only at hlt2
        exact ⟨fun hj => g1 (by omega), fun hj => g2 (by omega)⟩

theorem rdC_take {most : Int} {l : List UInt8} {v m : Nat} (h : rdC most l = (0, v, m)) (j : Nat) : (j < m → rdC most (l.take j) = (4, 0, 0)) ∧ (m ≤ j → rdC most (l.take j) = (0, v, m)) := by
  obtain ⟨q1, q2, q3, q4, q5⟩ := rdC_le (most := most) (l := l) (by rw [h])
  rw [h] at q1 q2 q3 q4
  dsimp only at q1 q2 q3 q4
  rw [q5] at h
  obtain ⟨g1, g2⟩ := rdN_take l 0 0 j 0 v m (by omega) h rfl
  refine ⟨fun hj => ?_, fun hj => ?_⟩
  · unfold rdC
    rw [g1 (by omega)]
    simp
  · unfold rdC
    rw [g2 (by omega)]
    simp only
    rw [if_neg (by omega)]

/-- A text that is read, taken apart. -/
theorem rdT_parts {most : Int} {l s : List UInt8} {c : Nat} (h : rdT most l = (0, s, c)) : ∃ v m, rdC most l = (0, v, m) ∧ m + v ≤ l.length ∧ s = (l.drop m).take v ∧ c = m + v ∧ (v : Int) ≤ most ∧ 0 < m := by
  unfold rdT at h
  simp only at h
  by_cases hc : (rdC most l).1 = 0
  · rw [if_pos hc] at h
    obtain ⟨q1, q2, q3, q4, q5⟩ := rdC_le hc
    by_cases hlt : l.length < (rdC most l).2.2 + (rdC most l).2.1
    · rw [if_pos hlt] at h; simp at h
    · rw [if_neg hlt] at h
      simp only [Prod.mk.injEq, true_and] at h
      exact ⟨(rdC most l).2.1, (rdC most l).2.2, by rw [← hc], by omega, h.1.symm, h.2.symm, q4, q1⟩
  · rw [if_neg hc] at h
    simp only [Prod.mk.injEq] at h
    exact absurd h.1 hc

theorem rdT_take {most : Int} {l s : List UInt8} {c : Nat} (h : rdT most l = (0, s, c)) (j : Nat) : (j < c → rdT most (l.take j) = (4, [], 0)) ∧ (c ≤ j → rdT most (l.take j) = (0, s, c)) := by
  obtain ⟨v, m, h1, h2, rfl, rfl, h3, h4⟩ := rdT_parts h
  obtain ⟨g1, g2⟩ := rdC_take h1 j
  unfold rdT
  refine ⟨fun hj => ?_, fun hj => ?_⟩
  · by_cases hm : j < m
    · rw [g1 hm]; simp
    · rw [g2 (by omega)]
      simp only [if_true]
      rw [if_pos (by rw [List.length_take]; omega)]
  · rw [g2 (by omega)]
    simp only [if_true]
    rw [if_neg (by rw [List.length_take]; omega), List.drop_take, List.take_take]
    congr 3
    omega

theorem rdTs_parts {most : Int} {k : Nat} {l : List UInt8} {ss : List (List UInt8)} {c : Nat} (h : rdTs most (k + 1) l = (0, ss, c)) : ∃ s c1 ts c2, rdT most l = (0, s, c1) ∧ rdTs most k (l.drop c1) = (0, ts, c2) ∧ ss = s :: ts ∧ c = c1 + c2 := by
  simp only [rdTs] at h
  by_cases ht : (rdT most l).1 = 0
  · rw [if_pos ht] at h
    by_cases hq : (rdTs most k (l.drop (rdT most l).2.2)).1 = 0
    · rw [if_pos hq] at h
      simp only [Prod.mk.injEq, true_and] at h
      exact ⟨(rdT most l).2.1, (rdT most l).2.2, _, _, by rw [← ht], by rw [← hq], h.1.symm, h.2.symm⟩
    · rw [if_neg hq] at h
      simp only [Prod.mk.injEq] at h
      exact absurd h.1 hq
  · rw [if_neg ht] at h
    simp only [Prod.mk.injEq] at h
    exact absurd h.1 ht

theorem rdTs_take {most : Int} : ∀ (k : Nat) (l : List UInt8) (ss : List (List UInt8)) (c : Nat), rdTs most k l = (0, ss, c) → ∀ j, (j < c → rdTs most k (l.take j) = (4, [], 0)) ∧ (c ≤ j → rdTs most k (l.take j) = (0, ss, c))
  | 0, l, ss, c, h, j => by
    simp only [rdTs, Prod.mk.injEq, true_and] at h ⊢
    exact ⟨fun hj => by omega, fun _ => h⟩
  | k + 1, l, ss, c, h, j => by
    obtain ⟨s, c1, ts, c2, h1, h2, rfl, rfl⟩ := rdTs_parts h
    obtain ⟨g1, g2⟩ := rdT_take h1 j
    obtain ⟨p1, p2⟩ := rdTs_take k _ ts c2 h2 (j - c1)
    simp only [rdTs]
    refine ⟨fun hj => ?_, fun hj => ?_⟩
    · by_cases hm : j < c1
      · rw [g1 hm]; simp
      · rw [g2 (by omega)]
        simp only [if_true, List.drop_take]
        rw [p1 (by omega)]
        simp
    · rw [g2 (by omega)]
      simp only [if_true, List.drop_take]
      rw [p2 (by omega)]
      simp

theorem rdL_parts {many most : Int} {l : List UInt8} {ss : List (List UInt8)} {c : Nat} (h : rdL many most l = (0, ss, c)) : ∃ v m c2, rdC many l = (0, v, m) ∧ rdTs most v (l.drop m) = (0, ss, c2) ∧ c = m + c2 := by
  unfold rdL at h
  simp only at h
  by_cases hC : (rdC many l).1 = 0
  · rw [if_pos hC] at h
    by_cases hq : (rdTs most (rdC many l).2.1 (l.drop (rdC many l).2.2)).1 = 0
    · rw [if_pos hq] at h
      simp only [Prod.mk.injEq, true_and] at h
      exact ⟨(rdC many l).2.1, (rdC many l).2.2, _, by rw [← hC], by rw [← h.1, ← hq], h.2.symm⟩
    · rw [if_neg hq] at h
      simp only [Prod.mk.injEq] at h
      exact absurd h.1 hq
  · rw [if_neg hC] at h
    simp only [Prod.mk.injEq] at h
    exact absurd h.1 hC

theorem rdL_take {many most : Int} {l : List UInt8} {ss : List (List UInt8)} {c : Nat} (h : rdL many most l = (0, ss, c)) (j : Nat) (hj : j < c) : rdL many most (l.take j) = (4, [], 0) := by
  obtain ⟨v, m, c2, h1, h2, rfl⟩ := rdL_parts h
  obtain ⟨g1, g2⟩ := rdC_take h1 j
  obtain ⟨p1, p2⟩ := rdTs_take v _ ss c2 h2 (j - m)
  unfold rdL
  by_cases hm : j < m
  · rw [g1 hm]; simp
  · rw [g2 (by omega)]
    simp only [if_true, List.drop_take]
    rw [p1 (by omega)]
    simp

theorem rdC_only {most : Int} {l : List UInt8} {v m : Nat} (h : rdC most l = (0, v, m)) : l.take m = encN v := by
  obtain ⟨q1, q2, q3, q4, q5⟩ := rdC_le (most := most) (l := l) (by rw [h])
  rw [q5] at h
  obtain ⟨w, h1, h2, _⟩ := rdN_only l 0 0 (by rw [h])
  rw [h] at h1 h2
  simp at h1 h2
  rw [h1, h2]

theorem rdT_only {most : Int} {l s : List UInt8} {c : Nat} (h : rdT most l = (0, s, c)) : l.take c = encT s ∧ c ≤ l.length := by
  obtain ⟨v, m, h1, h2, rfl, rfl, h3, h4⟩ := rdT_parts h
  refine ⟨?_, h2⟩
  unfold encT
  have hl : ((l.drop m).take v).length = v := by simp; omega
  rw [hl, ← rdC_only h1, List.take_add]

theorem rdTs_only {most : Int} : ∀ (k : Nat) (l : List UInt8) (ss : List (List UInt8)) (c : Nat), rdTs most k l = (0, ss, c) → l.take c = ss.flatMap encT ∧ c ≤ l.length ∧ ss.length = k ∧ ∀ s ∈ ss, (s.length : Int) ≤ most
  | 0, l, ss, c, h => by
    simp only [rdTs, Prod.mk.injEq, true_and] at h
    obtain ⟨rfl, rfl⟩ := h
    simp
  | k + 1, l, ss, c, h => by
    obtain ⟨s, c1, ts, c2, h1, h2, rfl, rfl⟩ := rdTs_parts h
    obtain ⟨a1, a2⟩ := rdT_only h1
    obtain ⟨b1, b2, b3, b4⟩ := rdTs_only k _ ts c2 h2
    have hs := (rdT_le (most := most) (l := l) (by rw [h1])).2.2
    rw [h1] at hs
    rw [List.length_drop] at b2
    refine ⟨by rw [List.flatMap_cons, ← a1, ← b1, List.take_add], by omega, by simp [b3], fun x hx => ?_⟩
    rcases List.mem_cons.1 hx with hx | hx
    · rw [hx]; exact hs
    · exact b4 x hx

theorem rdL_only {many most : Int} {l : List UInt8} {ss : List (List UInt8)} {c : Nat} (h : rdL many most l = (0, ss, c)) : l.take c = encL ss ∧ 0 < c ∧ c ≤ l.length ∧ (ss.length : Int) ≤ many ∧ ∀ s ∈ ss, (s.length : Int) ≤ most := by
  obtain ⟨v, m, c2, h1, h2, rfl⟩ := rdL_parts h
  obtain ⟨b1, b2, b3, b4⟩ := rdTs_only _ _ _ _ h2
  have hle := rdC_le (most := many) (l := l) (by rw [h1])
  rw [h1] at hle
  dsimp only at hle
  rw [List.length_drop] at b2
  refine ⟨?_, by omega, by omega, by omega, b4⟩
  unfold encL
  rw [b3, ← rdC_only h1, ← b1, List.take_add]

theorem CodeOnly_ok {b : List UInt8} {cut : Int} : law02_CodeOnly b cut = some true := by
  refine law02_CodeOnly_of ?_
  unfold law02_CodeOnly_b
  by_cases hl : (b.length : Int) > 3000
  · rw [cT (dT hl), knows_ok]; rfl
  · rw [cF (dF hl)]
    have hb : b.length ≤ 3000 := by omega
    have h1 := code_ReadList_ok (B := b) (At := 0) (many := 50) (most := 1000) (rd_ok (by omega) (by omega) (by omega)) (by omega)
    rw [h1, bS, show (0 : Int).toNat = 0 from rfl, List.drop_zero]
    generalize ht : rdL 50 1000 b = t
    obtain ⟨e, ss, c⟩ := t
    by_cases he : e = 0
    · subst he
      obtain ⟨o1, o2, o3, o4, o5⟩ := rdL_only ht
      have htake := rdL_take ht
      simp only [resL, if_true]
      have hc0 : (0 : Int) + (c : Int) = (c : Int) := by omega
      rw [hc0, cF (by rfl)]
      have z1 : (if decide ((c : Int) < 1) = true then true else decide ((c : Int) > (b.length : Int))) = false := by rw [dF (by omega), dF (by omega)]; rfl
      rw [z1]
      have w1 : code_List [] ss = some (encL ss) := by rw [code_List_ok (by simp) (by omega) (fun s hs => by have := o5 s hs; omega)]; rfl
      rw [cT (by rfl), w1, bS]
      have z2 : ((!(!false)) || (decide ((0 : Int) ≤ 0) && (decide ((0 : Int) ≤ (c : Int)) && decide ((c : Int) ≤ (b.length : Int))))) = true := by rw [dT (show (0 : Int) ≤ (c : Int) by omega), dT (show (c : Int) ≤ (b.length : Int) by omega)]; rfl
      rw [grd z2, sub_zero, Int.toNat_natCast, o1]
      have z3 : (if false = true then true else !(encL ss == encL ss)) = false := by simp
      rw [cF z3]
      have u1 : IntKind.wrap .u64 (c : Int) = c := IntWalk.u64_in _ ⟨by omega, by omega⟩
      rw [u1]
      have z4 : (((c : Int) != 0)) = true := by simp; omega
      rw [grd z4]
      have hu := IntKind.wrap_u64 cut
      generalize hg : IntKind.wrap .u64 cut = u at hu
      have hu0 : 0 ≤ u := by omega
      have hrem : arI .rem .u64 u (c : Int) = ((u.toNat % c : Nat) : Int) := by
        show u.tmod (c : Int) = _
        rw [Int.tmod_eq_emod_of_nonneg hu0, Int.natCast_emod, Int.toNat_of_nonneg hu0]
      have hmod : u.toNat % c < c := Nat.mod_lt _ o2
      rw [hrem, W64_in (by omega) (by omega), grd (by rw [dT (show (0 : Int) ≤ 0 by omega), dT (show (0 : Int) ≤ ((u.toNat % c : Nat) : Int) by omega), dT (show ((u.toNat % c : Nat) : Int) ≤ (b.length : Int) by omega)]; rfl), sub_zero, Int.toNat_natCast]
      have h2 := code_ReadList_ok (B := b.take (u.toNat % c)) (At := 0) (many := 50) (most := 1000) (rd_ok (by omega) (by omega) (by simp; omega)) (by omega)
      rw [h2, bS, show (0 : Int).toNat = 0 from rfl, List.drop_zero, htake _ hmod]
      simp [resL, knows_ok]
    · simp only [resL, he, if_false]
      have hne : ((e : Int) != 0) = true := by simp; omega
      rw [cT hne]
      simp [knows_ok]

theorem L_CodeWrites (x0 : Int) (x1 : List UInt8) (x2 : List (List UInt8)) (x3 : List UInt8) (w0 : WF (.int .i64) x0) (w1 : WF .str x1) (w2 : WF (.lst .str) x2) (w3 : WF (.lst (.int .u8)) x3) : law02_CodeWrites x0 x1 x2 x3 = some true :=
  CodeWrites_ok (by have : x2.length ≤ maxLen := w2.1; unfold maxLen at this; omega)
theorem L_CodeBack (x0 : Int) (x1 : List UInt8) (x2 : List (List UInt8)) (x3 : List UInt8) (w0 : WF (.int .i64) x0) (w1 : WF .str x1) (w2 : WF (.lst .str) x2) (w3 : WF (.lst (.int .u8)) x3) : law02_CodeBack x0 x1 x2 x3 = some true :=
  CodeBack_ok (by have : x2.length ≤ maxLen := w2.1; unfold maxLen at this; omega)
theorem L_CodeOnly (x0 : List UInt8) (x1 : Int) (w0 : WF (.lst (.int .u8)) x0) (w1 : WF (.int .i64) x1) : law02_CodeOnly x0 x1 = some true := CodeOnly_ok

end Rk
