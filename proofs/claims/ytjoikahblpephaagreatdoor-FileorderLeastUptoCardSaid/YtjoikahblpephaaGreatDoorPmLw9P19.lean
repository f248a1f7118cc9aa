/- A part of the proof of one law: the machine on pure values and the walks of functions. -/
import Derived.Test.YtjoikahblpephaaGreatDoorPmLw9P17
import Derived.Test.YtjoikahblpephaaGreatDoorPmLw9P18
set_option linter.all false
section
namespace Go.Proofs.Pm
open Go
theorem indexByte_spec (c : UInt8) : ∀ (l : List UInt8), (Lib.indexByte l c = -1 ∧ ∀ b ∈ l, b ≠ c) ∨ ∃ i : Nat, Lib.indexByte l c = i ∧ i < l.length ∧ l[i]? = some c ∧ ∀ j, j < i → l[j]? ≠ some c
  | [] => .inl ⟨rfl, fun b hb => by cases hb⟩
  | b :: l => by
    unfold Lib.indexByte
    by_cases hb : b = c
    · rw [if_pos (by simpa using hb)]
      exact .inr ⟨0, rfl, by simp, by simp [hb], fun j hj => by omega⟩
    · rw [if_neg (by simpa using hb)]
      rcases indexByte_spec c l with ⟨h1, h2⟩ | ⟨i, h1, h2, h3, h4⟩
      · rw [h1, if_pos (by decide)]
        exact .inl ⟨rfl, fun x hx => by
          rcases List.mem_cons.1 hx with rfl | hx
          · exact hb
          · exact h2 x hx⟩
      · rw [h1, if_neg (by rw [beq_iff_eq]; omega)]
        refine .inr ⟨i + 1, rfl, by simpa using h2, by simpa using h3, fun j hj => ?_⟩
        cases j with
        | zero => simpa using hb
        | succ j => simpa using h4 j (by omega)
theorem slashIn_iff (s : B) : slashIn s = true ↔ (47 : UInt8) ∈ us s := by
  unfold slashIn
  rw [List.any_eq_true]
  constructor
  · rintro ⟨i, hi, h⟩
    have hi := List.mem_range.1 hi
    rw [beq_iff_eq, byteZ, byte_us s hi] at h
    have : (us s)[i]'(by simpa using hi) = 47 := UInt8.toNat_inj.1 (by show _ = 47; omega)
    rw [← this]; exact List.getElem_mem _
  · intro h
    obtain ⟨i, hi, he⟩ := List.getElem_of_mem h
    have hi' : i < s.size := by simpa using hi
    refine ⟨i, List.mem_range.2 hi', ?_⟩
    rw [beq_iff_eq, byteZ, byte_us s hi', he]; rfl
theorem index_slash (s : B) : decide (0 ≤ Lib.indexByte (us s) 47) = slashIn s := by
  rcases indexByte_spec 47 (us s) with ⟨h1, h2⟩ | ⟨i, h1, h2, h3, _⟩
  · rw [h1]
    have : slashIn s = false := by
      rw [← Bool.not_eq_true, slashIn_iff]
      exact fun h => h2 _ h rfl
    rw [this]; rfl
  · rw [h1]
    have : slashIn s = true := (slashIn_iff s).2 (List.mem_of_getElem? h3)
    rw [this]; simp
theorem contains_slash (s : B) : FCall Tryz.prog 158 [.s (.string s), .s (.string ⟨#[47]⟩)] [] (.s (.bool (slashIn s))) [] :=
  fcall_pure (vals := [.string s, .string ⟨#[47]⟩]) Tryz.call158 (fun w => Calls.mono (Tryz.strings_Contains_one s 47 w) (fun e w' ⟨he, hw⟩ => ⟨by rw [he, ← index_slash], hw⟩)) (fun _ _ _ => .s _)
def cmpS (a b : B) : Int := Lib.compareBytes (us a) (us b)
theorem compare_spec (a b : B) : FCall Tryz.prog 161 [.s (.string a), .s (.string b)] [] (.s (.int .i64 (cmpS a b))) [] :=
  fcall_pure (vals := [.string a, .string b]) Tryz.call161 (fun w => Tryz.strings_Compare a b w) (fun _ _ _ => .s _)
theorem compareBytes_spec : ∀ (a b : List UInt8), (Lib.compareBytes a b = 0 ∧ a = b) ∨ (Lib.compareBytes a b = -1 ∧ a < b) ∨ (Lib.compareBytes a b = 1 ∧ b < a)
  | [], [] => .inl ⟨rfl, rfl⟩
  | [], _ :: _ => .inr (.inl ⟨rfl, by simp⟩)
  | _ :: _, [] => .inr (.inr ⟨rfl, by simp⟩)
  | a :: x, b :: y => by
    unfold Lib.compareBytes
    by_cases h : a < b
    · rw [if_pos h]; exact .inr (.inl ⟨rfl, List.cons_lt_cons_iff.2 (.inl h)⟩)
    · rw [if_neg h]
      by_cases h2 : b < a
      · rw [if_pos h2]; exact .inr (.inr ⟨rfl, List.cons_lt_cons_iff.2 (.inl h2)⟩)
      · rw [if_neg h2]
        have e : a = b := UInt8.toNat_inj.1 (by rw [UInt8.lt_iff_toNat_lt] at h h2; omega)
        subst e
        rcases compareBytes_spec x y with ⟨k1, k2⟩ | ⟨k1, k2⟩ | ⟨k1, k2⟩
        · exact .inl ⟨k1, by rw [k2]⟩
        · exact .inr (.inl ⟨k1, List.cons_lt_cons_iff.2 (.inr ⟨rfl, k2⟩)⟩)
        · exact .inr (.inr ⟨k1, List.cons_lt_cons_iff.2 (.inr ⟨rfl, k2⟩)⟩)
theorem trimPrefix_slash (s : B) : (⟨(Lib.trimPrefix (us s) [47]).toArray⟩ : B) = tail18 s := by
  apply us_inj
  show Lib.trimPrefix (us s) [47] = us (tail18 s)
  unfold Lib.trimPrefix Lib.hasPrefix tail18
  cases h : us s with
  | nil =>
    have hs : s = ⟨#[]⟩ := us_inj h
    subst hs
    rw [if_neg (by decide), if_neg (by decide)]
  | cons b r =>
    have hsz : 0 < s.size := by
      have := congrArg List.length h
      simp [us] at this
      omega
    have hb : byte s 0 = b := by
      rw [byte_us s hsz]
      simp [h]
    rw [hb]
    by_cases e : b = 47
    · subst e
      rw [if_pos rfl, if_pos (by rfl)]
      have : us (s.extract 1 s.size) = (us s).drop 1 := by
        simp only [us]
        rw [ByteArray.data_extract, Array.toList_extract, List.extract_eq_take_drop, List.take_of_length_le (by simp)]
      rw [this, h]; rfl
    · rw [if_neg e, if_neg (by simp [List.isPrefixOf]; exact fun h => e h.symm), h]
theorem trimPrefix_spec (s : B) : FCall Tryz.prog 160 [.s (.string s), .s (.string ⟨#[47]⟩)] [] (.s (.string (tail18 s))) [] :=
  fcall_pure (vals := [.string s, .string ⟨#[47]⟩]) Tryz.call160 (fun w => Calls.mono (Tryz.strings_TrimPrefix s ⟨#[47]⟩ w) (fun e w' ⟨he, hw⟩ => ⟨by rw [he, ← trimPrefix_slash], hw⟩)) (fun _ _ _ => .s _)
theorem us_extract (s : B) (i : Nat) : us (s.extract i s.size) = (us s).drop i := by
  simp only [us]
  rw [ByteArray.data_extract, Array.toList_extract, List.extract_eq_take_drop, List.take_of_length_le (by simp)]
theorem byte_get (s : B) {i : Nat} {c : UInt8} (h : (us s)[i]? = some c) : i < s.size ∧ byte s i = c := by
  have hi := (List.getElem?_eq_some_iff.1 h).1
  have hi' : i < s.size := by simpa using hi
  refine ⟨hi', ?_⟩
  rw [byte_us s hi']
  rw [List.getElem?_eq_getElem hi] at h
  injection h
theorem split_lib : ∀ (k : Nat) (s : B), Lib.countB s ⟨#[47]⟩ = k → Lib.splitB ⟨#[47]⟩ 0 k s = split18 s 47 := by
  intro k
  induction k with
  | zero =>
    intro s hk
    rw [Lib.splitB_zero]
    rcases indexByte_spec 47 (us s) with ⟨h1, h2⟩ | ⟨i, h1, h2, h3, h4⟩
    · rw [split18, splitAux_one _ _ h2, empty_append]
    · have hi : Lib.indexB s ⟨#[47]⟩ = i := by show Lib.index (us s) [47] = i; rw [Lib.index_one, h1]
      have := Lib.countB_hit s ⟨#[47]⟩ i (by decide) hi
      omega
  | succ k ih =>
    intro s hk
    rcases indexByte_spec 47 (us s) with ⟨h1, h2⟩ | ⟨i, h1, h2, h3, h4⟩
    · have hi : Lib.indexB s ⟨#[47]⟩ = -1 := by show Lib.index (us s) [47] = -1; rw [Lib.index_one, h1]
      have := Lib.countB_miss s ⟨#[47]⟩ hi
      omega
    · have hi : Lib.indexB s ⟨#[47]⟩ = i := by show Lib.index (us s) [47] = i; rw [Lib.index_one, h1]
      have hc := Lib.countB_hit s ⟨#[47]⟩ i (by decide) hi
      rw [Lib.splitB_hit _ _ _ _ _ hi, ih _ (by omega)]
      obtain ⟨his, hb⟩ := byte_get s h3
      have hs := split_at (s := s) (c := 47) i 0 i ⟨#[]⟩ rfl (Nat.zero_le _) (by omega) (fun j _ hj e => by
        refine h4 j hj ?_
        have hjs : j < s.size := by omega
        rw [byte_us s hjs] at e
        rw [List.getElem?_eq_getElem (by simpa using hjs), e]) (fun _ => hb)
      rw [if_pos his, List.drop_zero] at hs
      have ep : (⟨#[]⟩ : B) ++ s.extract 0 i = s.extract 0 i := by apply ByteArray.ext; simp
      show _ = splitAux 47 s.data.toList ⟨#[]⟩
      rw [hs, ep]
      congr 1
      show splitAux 47 (us (s.extract (i + 1) s.size)) _ = _
      rw [us_extract]
theorem splitS_spec (s : B) (hs : s.size < 4294967281) : FCall Tryz.prog 110 [.s (.string s), .s (.string ⟨#[47]⟩)] [] (.list (strL (split18 s 47))) [] := by
  refine fcall_below (vals := [.string s, .string ⟨#[47]⟩]) (K := fun w v w' => v = .slice (some ⟨w.heap.size, 0, none⟩) (Lib.countB s ⟨#[47]⟩ + 1) (Lib.countB s ⟨#[47]⟩ + 1) ∧ w' = w.alloc (.cells ((Lib.splitB ⟨#[47]⟩ 0 (Lib.countB s ⟨#[47]⟩) s).map Value.string).toArray 9)) Tryz.call110 (fun w G hB hG => ?_) (fun v w w' G hK hG => ?_)
  · obtain ⟨m, hm, _⟩ := hB.len
    refine Calls.mono (Tryz.strings_Split s ⟨#[47]⟩ m w hs hm (by decide)) (fun e w' ⟨he, hw⟩ => ⟨_, he, ⟨rfl, hw⟩, ?_⟩)
    subst hw
    exact ⟨rfl, rfl, rfl, by simp, fun b hb => Go.RowKit.Below.heap_alloc w _ b hb⟩
  · obtain ⟨rfl, rfl⟩ := hK
    have hl := Lib.splitB_all ⟨#[47]⟩ (by decide) 0 _ s rfl
    rw [split_lib _ s rfl] at hl ⊢
    have hc : Lib.countB s ⟨#[47]⟩ ≤ s.size := Lib.countB_le ⟨#[47]⟩ (by decide) s.size s (Nat.le_refl _)
    refine .list 1 (fun i _ => .string ((split18 s 47).getD i ⟨#[]⟩)) (by rw [strL_length]; exact hl.symm) (Nat.le_refl _) (by simp only [maxLen]; omega) (strL_len _) (fun h0 => ⟨_, rfl, fun i j x hx hj => ?_⟩) (fun i j x p hx hp => ?_)
    · have hj0 : j = 0 := by omega
      subst hj0
      have hi : i < (split18 s 47).length := by rw [← strL_length]; exact (List.getElem?_eq_some_iff.1 hx).1
      have hadd : (⟨w.heap.size, 0, none⟩ : Addr).add (i * 1 + 0) = ⟨w.heap.size, i, none⟩ := by unfold Addr.add; split <;> simp_all
      refine ⟨?_, rfl, hG _ _ (Nat.le_refl _)⟩
      have := cell_alloc_new w ((split18 s 47).map Value.string).toArray 9 (i * 1 + 0)
      rw [this]
      simp [hi]
    · simp only [strL, List.getElem?_map, Option.map_eq_some_iff] at hx
      obtain ⟨y, hy, rfl⟩ := hx
      have hj : j = 0 := by
        have := (List.getElem?_eq_some_iff.1 hp).1
        simpa using this
      subst hj
      simp at hp
      subst hp
      simp only [List.getD_eq_getElem?_getD, hy, Option.getD_some]
      exact .s _
theorem decode_spec (s : B) : FCall Tryz.prog 164 [.s (.string s)] [] (.tup [.s (.int .i32 (Lib.decodeGo s).1), .s (.int .i64 (Lib.decodeGo s).2)]) [] := by
  refine fcall_below (vals := [.string s]) (K := fun w v w' => v = .tuple #[.int .i32 (Lib.decodeGo s).1, .int .i64 (Lib.decodeGo s).2]) Tryz.call164 (fun w G hB hG => ?_) (fun v w w' G hK hG => ?_)
  · refine Calls.mono (Tryz.utf8_DecodeRuneInString s w ⟨fun c hc => (hB.first c hc).1, fun i hi => ⟨(hB.lo i hi).1, (hB.hi i hi).1⟩⟩) (fun e w' ⟨he, hw⟩ => ⟨_, he, rfl, hw.os, hw.tape, hw.output, hw.size, hw.block⟩)
  · subst hK
    refine .tup rfl (fun j x v hx hv => ?_)
    match j, hx, hv with
    | 0, hx, hv => simp at hx hv; subst hx hv; exact .s _
    | 1, hx, hv => simp at hx hv; subst hx hv; exact .s _
    | j + 2, hx, hv => simp at hx
theorem repeat_spec (s : B) (c : Nat) (hc : c ≤ 1099511627776) (hl : s.size * c ≤ 140737488355328) : FCall Tryz.prog 74 [.s (.string s), .s (.int .i64 c)] [] (.s (.string ⟨(Lib.repeatL s.data.toList c).toArray⟩)) [] := by
  refine fcall_below (vals := [.string s, .int .i64 c]) (K := fun w v w' => v = .string ⟨(Lib.repeatL s.data.toList c).toArray⟩) Tryz.call74 (fun w G hB hG => ?_) (fun v w w' G hK hG => by subst hK; exact .s _)
  exact Calls.mono (Tryz.strings_Repeat s c w (by omega) hl) (fun e w' ⟨he, hw⟩ => ⟨_, he, rfl, hw.os, hw.tape, hw.output, hw.size, hw.block⟩)
theorem lastIndex_spec (s : B) (hs : s.size < 4611686018427387904) : FCall Tryz.prog 36 [.s (.string s), .s (.int .u8 47)] [] (.s (.int .i64 (Lib.lastIndexByte s 47))) [] :=
  fcall_pure (vals := [.string s, .int .u8 47]) Tryz.call36 (fun w => Tryz.strings_LastIndexByte s 47 hs w) (fun _ _ _ => .s _)
end Go.Proofs.Pm
end
