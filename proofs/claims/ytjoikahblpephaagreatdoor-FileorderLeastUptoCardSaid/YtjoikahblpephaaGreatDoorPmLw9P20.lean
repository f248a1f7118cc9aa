/- A part of the proof of one law: the machine on pure values and the walks of functions. -/
import Derived.Test.YtjoikahblpephaaGreatDoorPmLw9P12
import Derived.Shelf.Unicode.DecodeSlow
set_option linter.all false
section
namespace Go.Proofs.Pm
open Go
theorem byteOf_eq {n : Int} {b : UInt8} : byteOf n = b ↔ n % 256 = (b.toNat : Int) := by
  have h : (byteOf n).toNat = (n % 256).toNat := by
    rw [byteOf, UInt8.toNat_ofNat']
    omega
  constructor
  · intro e
    rw [← e, h]; omega
  · intro e
    exact UInt8.toNat_inj.1 (by rw [h]; omega)
theorem us_take {s : B} {i : Nat} : us (s.extract 0 i) = (us s).take i := by
  simp only [us]
  rw [ByteArray.data_extract, Array.toList_extract, List.extract_eq_take_drop]
  simp
theorem take_1 {s : B} (h : 1 ≤ s.size) : (us s).take 1 = [byte s 0] := by
  have := drop_byte (s := s) (i := 0) (by omega)
  rw [List.drop_zero] at this
  simp only [us]; rw [this]; rfl
theorem take_2 {s : B} (h : 2 ≤ s.size) : (us s).take 2 = [byte s 0, byte s 1] := by
  have h0 := drop_byte (s := s) (i := 0) (by omega)
  have h1 := drop_byte (s := s) (i := 1) (by omega)
  rw [List.drop_zero] at h0
  simp only [us]; rw [h0, h1]; rfl
theorem take_3 {s : B} (h : 3 ≤ s.size) : (us s).take 3 = [byte s 0, byte s 1, byte s 2] := by
  have h0 := drop_byte (s := s) (i := 0) (by omega)
  have h1 := drop_byte (s := s) (i := 1) (by omega)
  have h2 := drop_byte (s := s) (i := 2) (by omega)
  rw [List.drop_zero] at h0
  simp only [us]; rw [h0, h1, h2]; rfl
theorem ok17_iff {s : B} {i : Nat} : ok17 s i = true ↔ char17 (val17 s i) = true ∧ enc (val17 s i) = (us s).take i := by
  unfold ok17
  rw [Bool.and_eq_true, beq_iff]
  refine and_congr Iff.rfl ⟨fun h => ?_, fun h => ?_⟩
  · rw [← us_take, ← h]
  · apply us_inj; rw [us_take, ← h]
theorem char17_iff {n : Int} : char17 n = true ↔ 32 ≤ n ∧ n ≤ 65533 ∧ (n < 55296 ∨ 57343 < n) := by
  unfold char17
  simp only [Bool.and_eq_true, Bool.or_eq_true, decide_eq_true_eq]
  constructor
  · rintro ⟨⟨a, b⟩, c⟩; exact ⟨a, b, c⟩
  · rintro ⟨a, b, c⟩; exact ⟨⟨a, b⟩, c⟩
theorem ok17_1 {s : B} (h : 1 ≤ s.size) : ok17 s 1 = true ↔ 32 ≤ byteZ s 0 ∧ byteZ s 0 < 128 := by
  have hb := byteZ_lt s 0
  rw [ok17_iff, char17_iff, take_1 h]
  simp only [val17, show ¬ (1 : Nat) = 2 by decide, show ¬ (1 : Nat) = 3 by decide, if_false]
  unfold enc
  constructor
  · rintro ⟨h1, h2⟩
    split at h2
    · omega
    · split at h2 <;> simp at h2
  · intro h1
    rw [if_pos (by omega)]
    refine ⟨by omega, ?_⟩
    congr 1
    rw [byteOf_eq]
    show byteZ s 0 % 256 = byteZ s 0
    omega
theorem ok17_2 {s : B} (h : 2 ≤ s.size) : ok17 s 2 = true ↔ 194 ≤ byteZ s 0 ∧ byteZ s 0 ≤ 223 ∧ 128 ≤ byteZ s 1 ∧ byteZ s 1 ≤ 191 := by
  have hb := byteZ_lt s 0
  have hb1 := byteZ_lt s 1
  rw [ok17_iff, char17_iff, take_2 h]
  simp only [val17, if_true]
  unfold enc
  constructor
  · rintro ⟨h1, h2⟩
    split at h2
    · simp at h2
    · split at h2
      · simp only [List.cons.injEq, and_true, byteOf_eq] at h2
        obtain ⟨h3, h4⟩ := h2
        change _ = byteZ s 0 at h3
        change _ = byteZ s 1 at h4
        omega
      · simp at h2
  · intro h1
    rw [if_neg (by omega), if_pos (by omega)]
    refine ⟨by omega, ?_⟩
    simp only [List.cons.injEq, and_true, byteOf_eq]
    refine ⟨?_, ?_⟩
    · show _ = byteZ s 0; omega
    · show _ = byteZ s 1; omega
theorem ok17_3 {s : B} (h : 3 ≤ s.size) : ok17 s 3 = true ↔ 224 ≤ byteZ s 0 ∧ byteZ s 0 ≤ 239 ∧ 128 ≤ byteZ s 1 ∧ byteZ s 1 ≤ 191 ∧ 128 ≤ byteZ s 2 ∧ byteZ s 2 ≤ 191 ∧ 2048 ≤ val17 s 3 ∧ char17 (val17 s 3) = true := by
  have hb := byteZ_lt s 0
  have hb1 := byteZ_lt s 1
  have hb2 := byteZ_lt s 2
  rw [ok17_iff, char17_iff, take_3 h]
  simp only [val17, show ¬ (3 : Nat) = 2 by decide, if_false, if_true]
  unfold enc
  constructor
  · rintro ⟨h1, h2⟩
    split at h2
    · simp at h2
    · split at h2
      · simp at h2
      · simp only [List.cons.injEq, and_true, byteOf_eq] at h2
        obtain ⟨h3, h4, h5⟩ := h2
        change _ = byteZ s 0 at h3
        change _ = byteZ s 1 at h4
        change _ = byteZ s 2 at h5
        omega
  · intro h1
    rw [if_neg (by omega), if_neg (by omega)]
    refine ⟨by omega, ?_⟩
    simp only [List.cons.injEq, and_true, byteOf_eq]
    refine ⟨?_, ?_, ?_⟩
    · show _ = byteZ s 0; omega
    · show _ = byteZ s 1; omega
    · show _ = byteZ s 2; omega
theorem get_byte (s : B) (k : Nat) (h : k < s.size) : ((s.get! (0 + k)).toNat : Int) = byteZ s k := by
  rw [byteZ, byte_us s h]
  have : s.get! (0 + k) = (us s)[k]'(by simpa using h) := by
    rw [Nat.zero_add]
    cases s with
    | mk d =>
      show d[k]! = _
      rw [getElem!_pos d k h]
      simp
  rw [this]
def badC (s : B) : Bool := !char17 (Lib.decodeGo s).1 || (((Lib.decodeGo s).1 : Int) == 65533 && ((Lib.decodeGo s).2 : Int) == 1)
theorem firstR_none {s : B} (h1 : 1 ≤ s.size → ¬ ok17 s 1 = true) (h2 : 2 ≤ s.size → ¬ ok17 s 2 = true) (h3 : 3 ≤ s.size → ¬ ok17 s 3 = true) : firstR s = (0, 0) := by
  unfold firstR
  rw [if_neg (fun h => h1 h.1 h.2), if_neg (fun h => h2 h.1 h.2), if_neg (fun h => h3 h.1 h.2)]
theorem firstR_1 {s : B} (h : 1 ≤ s.size) (h1 : ok17 s 1 = true) : firstR s = (byteZ s 0, 1) := by
  unfold firstR
  rw [if_pos ⟨h, h1⟩]; rfl
theorem firstR_2 {s : B} (h : 2 ≤ s.size) (h1 : ¬ ok17 s 1 = true) (h2 : ok17 s 2 = true) : firstR s = ((byteZ s 0 - 192) * 64 + byteZ s 1 - 128, 2) := by
  unfold firstR
  rw [if_neg (fun h => h1 h.2), if_pos ⟨h, h2⟩]; rfl
theorem firstR_3 {s : B} (h : 3 ≤ s.size) (h1 : ¬ ok17 s 1 = true) (h2 : ¬ ok17 s 2 = true) (h3 : ok17 s 3 = true) : firstR s = ((byteZ s 0 - 224) * 4096 + (byteZ s 1 - 128) * 64 + byteZ s 2 - 128, 3) := by
  unfold firstR
  rw [if_neg (fun h => h1 h.2), if_neg (fun h => h2 h.2), if_pos ⟨h, h3⟩]; rfl
theorem bad_false {r n : Nat} (h : char17 r = true) (h2 : ¬ ((r : Int) = 65533 ∧ (n : Int) = 1)) : (!char17 r || ((r : Int) == 65533 && (n : Int) == 1)) = false := by
  rw [h]
  simp only [Bool.not_true, Bool.false_or, Bool.and_eq_false_iff, beq_eq_false_iff_ne, ne_eq]
  omega
theorem bad_char {r n : Nat} (h : ¬ char17 r = true) : (!char17 r || ((r : Int) == 65533 && (n : Int) == 1)) = true := by
  simp [h]
theorem val17_3 (s : B) : val17 s 3 = (byteZ s 0 - 224) * 4096 + (byteZ s 1 - 128) * 64 + byteZ s 2 - 128 := rfl
def decA (n A0 A1 A2 A3 : Nat) : Nat × Nat :=
  if A0 < 128 then (A0, 1)
  else if A0 / 32 = 6 ∧ 1 < n ∧ A1 / 64 = 2 then (if A0 % 32 * 64 + A1 % 64 ≥ 128 then (A0 % 32 * 64 + A1 % 64, 2) else (65533, 1))
  else if A0 / 16 = 14 ∧ (1 < n ∧ A1 / 64 = 2) ∧ 2 < n ∧ A2 / 64 = 2 then
    (if A0 % 16 * 4096 + A1 % 64 * 64 + A2 % 64 ≥ 2048 ∧ Utf8.valid ((A0 % 16 * 4096 + A1 % 64 * 64 + A2 % 64 : Nat) : Int) = true then (A0 % 16 * 4096 + A1 % 64 * 64 + A2 % 64, 3) else (65533, 1))
  else if A0 / 8 = 30 ∧ (1 < n ∧ A1 / 64 = 2) ∧ (2 < n ∧ A2 / 64 = 2) ∧ 3 < n ∧ A3 / 64 = 2 then
    (if A0 % 8 * 262144 + A1 % 64 * 4096 + A2 % 64 * 64 + A3 % 64 ≥ 65536 ∧ Utf8.valid ((A0 % 8 * 262144 + A1 % 64 * 4096 + A2 % 64 * 64 + A3 % 64 : Nat) : Int) = true then (A0 % 8 * 262144 + A1 % 64 * 4096 + A2 % 64 * 64 + A3 % 64, 4) else (65533, 1))
  else (65533, 1)
theorem decode_decA (s : B) : Utf8.decode s 0 = decA s.size (s.get! (0 + 0)).toNat (s.get! (0 + 1)).toNat (s.get! (0 + 2)).toNat (s.get! (0 + 3)).toNat := by
  unfold Utf8.decode decA
  simp only [Utf8.runeError, Bool.and_eq_true, beq_iff_eq, decide_eq_true_eq, Nat.zero_add, and_assoc]
theorem decA_first (s : B) (h : 0 < s.size) (A0 A1 A2 A3 : Nat) (g0 : (A0 : Int) = byteZ s 0) (g1 : 1 < s.size → (A1 : Int) = byteZ s 1) (g2 : 2 < s.size → (A2 : Int) = byteZ s 2) :
    ((!char17 (decA s.size A0 A1 A2 A3).1 || (((decA s.size A0 A1 A2 A3).1 : Int) == 65533 && ((decA s.size A0 A1 A2 A3).2 : Int) == 1)) = true ∧ firstR s = (0, 0)) ∨
    ((!char17 (decA s.size A0 A1 A2 A3).1 || (((decA s.size A0 A1 A2 A3).1 : Int) == 65533 && ((decA s.size A0 A1 A2 A3).2 : Int) == 1)) = false ∧ firstR s = (((decA s.size A0 A1 A2 A3).1 : Int), ((decA s.size A0 A1 A2 A3).2 : Int))) := by
  have hb := byteZ_lt s 0
  have hb1 := byteZ_lt s 1
  have hb2 := byteZ_lt s 2
  have e1 : 1 ≤ s.size → (ok17 s 1 = true ↔ 32 ≤ byteZ s 0 ∧ byteZ s 0 < 128) := fun h => ok17_1 h
  have e2 : 2 ≤ s.size → (ok17 s 2 = true ↔ 194 ≤ byteZ s 0 ∧ byteZ s 0 ≤ 223 ∧ 128 ≤ byteZ s 1 ∧ byteZ s 1 ≤ 191) := fun h => ok17_2 h
  have e3 : 3 ≤ s.size → (ok17 s 3 = true ↔ 224 ≤ byteZ s 0 ∧ byteZ s 0 ≤ 239 ∧ 128 ≤ byteZ s 1 ∧ byteZ s 1 ≤ 191 ∧ 128 ≤ byteZ s 2 ∧ byteZ s 2 ≤ 191 ∧ 2048 ≤ val17 s 3 ∧ 32 ≤ val17 s 3 ∧ val17 s 3 ≤ 65533 ∧ (val17 s 3 < 55296 ∨ 57343 < val17 s 3)) := fun h => by rw [ok17_3 h, char17_iff]
  rw [val17_3] at e3
  have bad : (!char17 (((65533, 1) : Nat × Nat).1 : Int) || ((((65533, 1) : Nat × Nat).1 : Int) == 65533 && (((65533, 1) : Nat × Nat).2 : Int) == 1)) = true := by simp
  unfold decA
  by_cases c1 : A0 < 128
  · rw [if_pos c1]
    by_cases c2 : 32 ≤ A0
    · right
      refine ⟨bad_false (char17_iff.2 (by omega)) (by simp; omega), ?_⟩
      rw [firstR_1 h ((e1 h).2 (by omega)), ← g0]; rfl
    · left
      refine ⟨bad_char (fun hh => by have := char17_iff.1 hh; omega), firstR_none (fun hh ho => by have := (e1 hh).1 ho; omega) (fun hh ho => by have := (e2 hh).1 ho; omega) (fun hh ho => by have := (e3 hh).1 ho; omega)⟩
  rw [if_neg c1]
  have no1 : ¬ ok17 s 1 = true := fun ho => by have := (e1 h).1 ho; omega
  by_cases c2 : A0 / 32 = 6 ∧ 1 < s.size ∧ A1 / 64 = 2
  · rw [if_pos c2]
    have g1 := g1 c2.2.1
    by_cases c3 : A0 % 32 * 64 + A1 % 64 ≥ 128
    · rw [if_pos c3]
      right
      refine ⟨bad_false (char17_iff.2 (by omega)) (by simp), ?_⟩
      rw [firstR_2 c2.2.1 no1 ((e2 c2.2.1).2 (by omega))]
      congr 1
      show (byteZ s 0 - 192) * 64 + byteZ s 1 - 128 = ((A0 % 32 * 64 + A1 % 64 : Nat) : Int)
      omega
    · rw [if_neg c3]
      left
      exact ⟨bad, firstR_none (fun _ => no1) (fun hh ho => by have := (e2 hh).1 ho; omega) (fun hh ho => by have := (e3 hh).1 ho; omega)⟩
  rw [if_neg c2]
  have no2 : 2 ≤ s.size → ¬ ok17 s 2 = true := fun hh ho => by
    have := (e2 hh).1 ho
    have := g1 hh
    exact c2 ⟨by omega, hh, by omega⟩
  by_cases c3 : A0 / 16 = 14 ∧ (1 < s.size ∧ A1 / 64 = 2) ∧ 2 < s.size ∧ A2 / 64 = 2
  · rw [if_pos c3]
    have g1 := g1 c3.2.1.1
    have g2 := g2 c3.2.2.1
    have hv : (byteZ s 0 - 224) * 4096 + (byteZ s 1 - 128) * 64 + byteZ s 2 - 128 = ((A0 % 16 * 4096 + A1 % 64 * 64 + A2 % 64 : Nat) : Int) := by omega
    by_cases c4 : A0 % 16 * 4096 + A1 % 64 * 64 + A2 % 64 ≥ 2048 ∧ (A0 % 16 * 4096 + A1 % 64 * 64 + A2 % 64 < 55296 ∨ 57344 ≤ A0 % 16 * 4096 + A1 % 64 * 64 + A2 % 64)
    · rw [if_pos (by
        simp only [Utf8.valid, Bool.and_eq_true, Bool.or_eq_true, decide_eq_true_eq]
        omega)]
      by_cases c5 : A0 % 16 * 4096 + A1 % 64 * 64 + A2 % 64 ≤ 65533
      · right
        refine ⟨bad_false (char17_iff.2 (by omega)) (by simp), ?_⟩
        rw [firstR_3 c3.2.2.1 no1 (no2 c3.2.1.1) ((e3 c3.2.2.1).2 (by rw [hv]; omega)), hv]
        rfl
      · left
        refine ⟨bad_char (fun hh => by have := char17_iff.1 hh; omega), firstR_none (fun _ => no1) no2 (fun hh ho => by have := (e3 hh).1 ho; rw [hv] at this; omega)⟩
    · rw [if_neg (by
        simp only [Utf8.valid, Bool.and_eq_true, Bool.or_eq_true, decide_eq_true_eq]
        omega)]
      left
      exact ⟨bad, firstR_none (fun _ => no1) no2 (fun hh ho => by have := (e3 hh).1 ho; rw [hv] at this; omega)⟩
  rw [if_neg c3]
  have no3 : 3 ≤ s.size → ¬ ok17 s 3 = true := fun hh ho => by
    have := (e3 hh).1 ho
    have := g1 (by omega)
    have := g2 hh
    exact c3 ⟨by omega, ⟨by omega, by omega⟩, hh, by omega⟩
  left
  refine ⟨?_, firstR_none (fun _ => no1) no2 no3⟩
  split
  · split
    · rename_i hc
      have h16 : A0 % 8 * 262144 + A1 % 64 * 4096 + A2 % 64 * 64 + A3 % 64 ≥ 65536 := by
        exact hc.1
      exact bad_char (fun hh => by have := char17_iff.1 hh; omega)
    · exact bad
  · exact bad
theorem decode_first (s : B) (h : 0 < s.size) : (badC s = true ∧ firstR s = (0, 0)) ∨ (badC s = false ∧ firstR s = (((Lib.decodeGo s).1 : Int), ((Lib.decodeGo s).2 : Int))) := by
  unfold badC
  rw [show Lib.decodeGo s = Utf8.decode s 0 by rw [Lib.decodeGo, if_neg (by omega)], decode_decA]
  exact decA_first s h _ _ _ _ (get_byte s 0 h) (get_byte s 1) (get_byte s 2)
end Go.Proofs.Pm
end
