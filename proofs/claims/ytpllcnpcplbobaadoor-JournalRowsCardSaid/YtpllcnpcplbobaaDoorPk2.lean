import Derived.Test.YtpllcnpcplbobaaDoorPk1
import Derived.Test.YtpllcnpcplbobaaDoorJour5
import Derived.RegionTactic
namespace Go.Proofs.YtpllcnpcplbobaaDoor
open Go.RowKit
set_option linter.unusedVariables false
/-- A number's digits stand ahead, then a colon: v are the numbers that the first digits say. -/
structure NumAhead (b : ByteArray) (m n : Nat) (v : Nat → Nat) : Prop where
  one : 1 ≤ m
  few : m ≤ 8
  fits : m < b.size
  digit : ∀ i, i < m → 48 ≤ bat b i ∧ bat b i ≤ 57
  colon : bat b m = 58
  zero : v 0 = 0
  step : ∀ i, i < m → v (i + 1) = 10 * v i + (bat b i - 48)
  nz : ∀ i, 0 < i → i < m → v i ≠ 0
  last : v m = n
  low : ∀ i, i ≤ m → v i ≤ 100000000
theorem bat_mk (l : List UInt8) (i : Nat) (h : i < l.length) : bat ⟨l.toArray⟩ i = l[i].toNat := by
  have h1 : i < (⟨l.toArray⟩ : ByteArray).size := by simpa [ByteArray.size] using h
  unfold bat
  rw [dif_pos h1]
  rfl
theorem u8_digit (n : Nat) (h : n < 10) : (UInt8.ofNat (48 + n)).toNat = 48 + n := by
  rw [UInt8.toNat_ofNat']
  omega
theorem numAhead_of (n : Nat) (hn : n ≤ 100) (t : List UInt8) : ∃ v, NumAhead ⟨(Lib.itoa (n : Int) ++ 58 :: t).toArray⟩ (Lib.itoa (n : Int)).length n v := by
  rw [Lib.itoa_nonneg]
  by_cases h1 : n < 10
  · rw [Lib.decDigits_one h1]
    have b0 : bat ⟨([UInt8.ofNat (48 + n)] ++ 58 :: t).toArray⟩ 0 = 48 + n := (bat_mk _ 0 (by simp)).trans (u8_digit n h1)
    have b1 : bat ⟨([UInt8.ofNat (48 + n)] ++ 58 :: t).toArray⟩ 1 = 58 := bat_mk _ 1 (by simp)
    refine ⟨fun i => if i = 0 then 0 else n, ⟨by simp, by simp, by simp [ByteArray.size], ?_, b1, rfl, ?_, ?_, rfl, ?_⟩⟩
    · intro i hi
      obtain rfl : i = 0 := by simp at hi; omega
      rw [b0]; omega
    · intro i hi
      obtain rfl : i = 0 := by simp at hi; omega
      rw [b0]; simp
    · intro i h0 hi
      simp at hi; omega
    · intro i _
      show (if i = 0 then 0 else n) ≤ _
      split <;> omega
  · by_cases h2 : n < 100
    · rw [Lib.decDigits_two h1 h2]
      have b0 : bat ⟨([UInt8.ofNat (48 + n / 10), UInt8.ofNat (48 + n % 10)] ++ 58 :: t).toArray⟩ 0 = 48 + n / 10 := (bat_mk _ 0 (by simp)).trans (u8_digit _ (by omega))
      have b1 : bat ⟨([UInt8.ofNat (48 + n / 10), UInt8.ofNat (48 + n % 10)] ++ 58 :: t).toArray⟩ 1 = 48 + n % 10 := (bat_mk _ 1 (by simp)).trans (u8_digit _ (by omega))
      have b2 : bat ⟨([UInt8.ofNat (48 + n / 10), UInt8.ofNat (48 + n % 10)] ++ 58 :: t).toArray⟩ 2 = 58 := bat_mk _ 2 (by simp)
      refine ⟨fun i => if i = 0 then 0 else if i = 1 then n / 10 else n, ⟨by simp, by simp, by simp [ByteArray.size], ?_, b2, rfl, ?_, ?_, rfl, ?_⟩⟩
      · intro i hi
        have hi2 : i = 0 ∨ i = 1 := by simp at hi; omega
        rcases hi2 with rfl | rfl
        · rw [b0]; omega
        · rw [b1]; omega
      · intro i hi
        have hi2 : i = 0 ∨ i = 1 := by simp at hi; omega
        rcases hi2 with rfl | rfl
        · rw [b0]; simp
        · rw [b1]; simp; omega
      · intro i h0 hi
        have hi2 : i = 1 := by simp at hi; omega
        subst hi2
        simp; omega
      · intro i _
        show (if i = 0 then 0 else if i = 1 then n / 10 else n) ≤ _
        split
        · omega
        · split <;> omega
    · obtain rfl : n = 100 := by omega
      have hd : Lib.decDigits 100 = [49, 48, 48] := by
        rw [Lib.decDigits, dif_neg (by omega), Lib.decDigits_two (by omega) (by omega)]
        decide
      rw [hd]
      have b0 : bat ⟨([49, 48, 48] ++ 58 :: t).toArray⟩ 0 = 49 := bat_mk _ 0 (by simp)
      have b1 : bat ⟨([49, 48, 48] ++ 58 :: t).toArray⟩ 1 = 48 := bat_mk _ 1 (by simp)
      have b2 : bat ⟨([49, 48, 48] ++ 58 :: t).toArray⟩ 2 = 48 := bat_mk _ 2 (by simp)
      have b3 : bat ⟨([49, 48, 48] ++ 58 :: t).toArray⟩ 3 = 58 := bat_mk _ 3 (by simp)
      refine ⟨fun i => if i = 0 then 0 else if i = 1 then 1 else if i = 2 then 10 else 100, ⟨by simp, by simp, by simp [ByteArray.size], ?_, b3, rfl, ?_, ?_, rfl, ?_⟩⟩
      · intro i hi
        have hi2 : i = 0 ∨ i = 1 ∨ i = 2 := by simp at hi; omega
        rcases hi2 with rfl | rfl | rfl
        · rw [b0]; omega
        · rw [b1]; omega
        · rw [b2]; omega
      · intro i hi
        have hi2 : i = 0 ∨ i = 1 ∨ i = 2 := by simp at hi; omega
        rcases hi2 with rfl | rfl | rfl
        · rw [b0]; simp
        · rw [b1]; simp
        · rw [b2]; simp
      · intro i h0 hi
        have hi2 : i = 1 ∨ i = 2 := by simp at hi; omega
        rcases hi2 with rfl | rfl <;> simp
      · intro i _
        show (if i = 0 then 0 else if i = 1 then 1 else if i = 2 then 10 else 100) ≤ _
        split
        · omega
        · split
          · omega
          · split <;> omega
theorem index_batk (s : ByteArray) (k : Nat) (h : k < s.size) (w : World) : (Instr.index 9 (.string s) (.int .i64 (k : Int))).run Tryd.prog w = .ok (.int .u8 (bat s k : Nat)) w := by
  rw [run_index_string _ _ _ _ _ Tryd.underlying9, dif_pos (by omega)]
  have e : ((k : Int)).toNat = k := by omega
  simp only [e, bat_eq s k h]
set_option maxRecDepth 100000 in
set_option maxHeartbeats 2000000 in
theorem head_any (b : ByteArray) (hb : b.size ≤ 1099511627776) (m n : Nat) (v : Nat → Nat) (h : NumAhead b m n v) (w : World) :
    Calls Tryd.prog 29 #[.string b] w fun e w' => e = .returned (.tuple #[.int .i64 n, .string (b.extract (m + 1) b.size), .int .i64 0]) ∧ Below w.heap.size w w' := by
  have HH := Lib.hid h
  have hfit := h.fits
  have hfew := h.few
  have hone := h.one
  clear h
  go_enter Tryd.func29, Tryd.ntmps29
  go_wp2_with fail
  go_loopw [5, 10] (fun nv i wr => ∃ k : Nat, k ≤ m ∧ i = .int .i64 k ∧ nv = .int .i64 (v k) ∧ wr = w) (fun _ i _ => b.size - (intOf i).toNat)
  case atStart => exact ⟨0, by omega, rfl, by rw [HH.out.zero]; rfl, rfl⟩
  case round =>
    obtain ⟨k, hk, rfl, rfl, rfl⟩ := hrel
    have hkb : k < b.size := by omega
    have hix := index_batk b k hkb
    obtain ⟨c, hc⟩ : ∃ c, c = bat b k := ⟨_, rfl⟩
    rw [← hc] at hix
    by_cases hlt : k < m
    · obtain ⟨d1, d2⟩ := HH.out.digit k hlt
      have hst := HH.out.step k hlt
      have hlo := HH.out.low k (by omega)
      have hnz := HH.out.nz k
      rw [← hc] at d1 d2 hst
      obtain ⟨a, ha⟩ : ∃ a, a = v k := ⟨_, rfl⟩
      rw [← ha] at hst hlo hnz ⊢
      have HST := Lib.hid hst
      clear hst ha hc
      have q1 : ((c : Int) == 58) = false := by simp; omega
      have q2 : ¬ (c : Int) < 48 := by omega
      have q3 : ¬ 57 < (c : Int) := by omega
      have q4 : ((k : Int) == 9) = false := by simp; omega
      by_cases hk0 : k = 0
      · have q5 : ¬ (0 : Int) < (k : Int) := by omega
        have HK0 := Lib.hid hk0
        clear hnz hk0
        go_wp2_with fail
        go_roundw
        case measure => simp [intOf]; omega
        case rel => exact ⟨k + 1, by omega, by go_num, by rw [HST.out]; go_num, by first | rfl | trivial⟩
      · have hz := hnz (by omega) hlt
        have q5 : (0 : Int) < (k : Int) := by omega
        have q6 : ((a : Int) == 0) = false := by simp; omega
        clear hnz hz
        go_wp2_with fail
        go_roundw
        case measure => simp [intOf]; omega
        case rel => exact ⟨k + 1, by omega, by go_num, by rw [HST.out]; go_num, by first | rfl | trivial⟩
    · obtain rfl : k = m := by omega
      rw [HH.out.colon] at hc
      subst hc
      rw [HH.out.last]
      have hcut := run_cut_low (P := Tryd.prog) 9 Tryd.underlying9 b (k + 1) (by omega) ((k : Int) + 1) (by omega)
      obtain ⟨r, hr⟩ : ∃ r, r = b.extract (k + 1) b.size := ⟨_, rfl⟩
      rw [← hr] at hcut
      have HR := Lib.hid hr
      clear hr
      have q5 : (0 : Int) < (k : Int) := by omega
      go_upto_region 7 with fail
      go_quiet (fail)
      go_wp2_with fail
      go_ret3
      exact ⟨by rw [← HR.out]; first | rfl | simp, below_drewN (Below.refl _ _) _⟩
theorem extract_list (l : List UInt8) (a b : Nat) : (⟨l.toArray⟩ : ByteArray).extract a b = ⟨((l.drop a).take (b - a)).toArray⟩ := by
  apply ByteArray.ext
  apply Array.ext'
  simp [ByteArray.data_extract, List.extract]
theorem rowB_rest (x : ByteArray) (l : List ByteArray) : (rowB (x :: l)).extract ((Lib.itoa (x.size : Int)).length + 1) (rowB (x :: l)).size = ⟨(x.data.toList ++ rowL l).toArray⟩ := by
  rw [rowB_size]
  unfold rowB
  rw [extract_list]
  congr 2
  have e : rowL (x :: l) = (Lib.itoa (x.size : Int) ++ [58]) ++ (x.data.toList ++ rowL l) := by simp [rowL]
  have hl : (Lib.itoa (x.size : Int)).length + 1 = (Lib.itoa (x.size : Int) ++ [58]).length := by simp
  rw [e, hl, List.drop_left, List.take_of_length_le]
  have h3 : ((Lib.itoa (x.size : Int) ++ [58]) ++ (x.data.toList ++ rowL l)).length = (Lib.itoa (x.size : Int) ++ [58]).length + (x.data.toList ++ rowL l).length := List.length_append
  omega
theorem rest_take (x : ByteArray) (t : List UInt8) : (⟨(x.data.toList ++ t).toArray⟩ : ByteArray).extract 0 x.size = x := by
  rw [extract_list]
  have hl : x.size - 0 = x.data.toList.length := (bytes_len x).symm
  rw [List.drop_zero, hl, List.take_left]
theorem rest_drop (x : ByteArray) (l : List ByteArray) : (⟨(x.data.toList ++ rowL l).toArray⟩ : ByteArray).extract x.size (⟨(x.data.toList ++ rowL l).toArray⟩ : ByteArray).size = rowB l := by
  rw [extract_list]
  have hl : x.size = x.data.toList.length := (bytes_len x).symm
  have h2 : (⟨(x.data.toList ++ rowL l).toArray⟩ : ByteArray).size = x.data.toList.length + (rowL l).length := by rw [← List.length_append]; rfl
  rw [h2, hl, List.drop_left, List.take_of_length_le (by omega)]
  rfl
theorem rest_size (x : ByteArray) (t : List UInt8) : (⟨(x.data.toList ++ t).toArray⟩ : ByteArray).size = x.size + t.length := by rw [← bytes_len x, ← List.length_append]; rfl
theorem rowB_some (x : ByteArray) (l : List ByteArray) : (rowB (x :: l)).toList.isEmpty = false := by
  rw [ByteArray.toList_eq]
  simp [rowB, rowL]
set_option maxRecDepth 100000 in
set_option maxHeartbeats 4000000 in
theorem ptexts_any (A : List ByteArray) (hA12 : A.length ≤ 12) (hA100 : ∀ x ∈ A, x.size ≤ 100) (w : World) :
    Calls Tryd.prog 11 #[.string (rowB A)] w fun e w' => ∃ v, e = .returned (.tuple #[v, .int .i64 0]) ∧ w'.ownsRow w.heap.size 9 1 v A.length (strs A) ∧ Below w.heap.size w w' := by
  obtain ⟨i0, hi, hz0, hz1, hz2⟩ := info_parts infoStr
  have HI := Lib.hid hi
  have HZ0 := Lib.hid hz0
  have HZ1 := Lib.hid hz1
  have HZ2 := Lib.hid hz2
  have H100 := Lib.hid hA100
  obtain ⟨n, hn⟩ : ∃ n, n = A.length := ⟨_, rfl⟩
  rw [← hn] at hA12 ⊢
  have HN := Lib.hid hn
  clear hi hz0 hz1 hz2 hA100 hn
  obtain ⟨b0, hb0⟩ : ∃ b0, b0 = rowB A := ⟨_, rfl⟩
  rw [← hb0]
  have HB0 := Lib.hid hb0
  clear hb0
  go_enter Tryd.func11, Tryd.ntmps11
  go_wp2_with fail
  go_loopg [0, 4] n (fun gk b v wr => ∃ k : Nat, k ≤ n ∧ gk + k = n ∧ b = .string (rowB (A.drop k)) ∧ wr.ownsRow w.heap.size 9 1 v k (strs (A.take k)) ∧ Below w.heap.size w wr)
  case atStart => exact ⟨0, by omega, by omega, by rw [HB0.out]; rfl, World.ownsRow_nil _ _ _ _, Below.refl _ _⟩
  case round =>
    obtain ⟨k, hk, hgk, rfl, hown, hbel⟩ := hrel
    have HO := Lib.hid hown
    have HB := Lib.hid hbel
    have hbase := hbel.size
    have HGK := Lib.hid hgk
    clear hown hbel hgk
    by_cases hlt : k < n
    · have hAk : k < A.length := by rw [← HN.out]; exact hlt
      have hdr : A.drop k = A[k] :: A.drop (k + 1) := List.drop_eq_getElem_cons hAk
      have htk : strs (A.take (k + 1)) = strs (A.take k) ++ [.string A[k]] := by rw [List.take_succ_eq_append_getElem hAk]; simp only [strs, List.map_append, List.map_cons, List.map_nil]
      have hsm := H100.out A[k] (List.getElem_mem hAk)
      have hle := rowL_len (A.drop (k + 1)) fun y hy => H100.out y (List.mem_of_mem_drop hy)
      have hle0 := rowL_len (A.drop k) fun y hy => H100.out y (List.mem_of_mem_drop hy)
      have hl1 : (A.drop (k + 1)).length ≤ 12 := by rw [List.length_drop, ← HN.out]; omega
      have hl0 : (A.drop k).length ≤ 12 := by rw [List.length_drop, ← HN.out]; omega
      rw [hdr] at hle0 hl0 ⊢
      obtain ⟨x, hx⟩ : ∃ x, x = A[k] := ⟨_, rfl⟩
      obtain ⟨l, hl⟩ : ∃ l, l = A.drop (k + 1) := ⟨_, rfl⟩
      rw [← hx] at htk hsm hle0 hl0 ⊢
      rw [← hl] at hle hl1 hle0 hl0 ⊢
      obtain ⟨v, hv⟩ := numAhead_of x.size hsm (x.data.toList ++ rowL l)
      have hbe : (⟨(Lib.itoa (x.size : Int) ++ 58 :: (x.data.toList ++ rowL l)).toArray⟩ : ByteArray) = rowB (x :: l) := by simp [rowB, rowL]
      rw [hbe] at hv
      have hbs := rowB_size (x :: l)
      have hne := rowB_some x l
      have hrs := rowB_rest x l
      have hh := fun W => head_any (rowB (x :: l)) (by omega) _ _ v hv W
      have ht := rest_take x (rowL l)
      have hd := rest_drop x l
      have hz := rest_size x (rowL l)
      rw [hrs] at hh
      obtain ⟨r, hr⟩ : ∃ r : ByteArray, r = ⟨(x.data.toList ++ rowL l).toArray⟩ := ⟨_, rfl⟩
      rw [← hr] at hh ht hd hz
      obtain ⟨b, hb⟩ : ∃ b, b = rowB (x :: l) := ⟨_, rfl⟩
      rw [← hb] at hne hh ⊢
      have c1 := run_cut_high (P := Tryd.prog) 9 Tryd.underlying9 r x.size (by omega) (x.size : Int) rfl
      have c2 := run_cut_low (P := Tryd.prog) 9 Tryd.underlying9 r x.size (by omega) (x.size : Int) rfl
      rw [ht] at c1
      rw [hd] at c2
      obtain ⟨b2, hb2⟩ : ∃ b2, b2 = rowB l := ⟨_, rfl⟩
      rw [← hb2] at c2
      obtain ⟨rs, hrz⟩ : ∃ rs, rs = r.size := ⟨_, rfl⟩
      have hrle : ¬ (r.size : Int) < (x.size : Int) := by omega
      have HH := Lib.hid hh
      have HTK := Lib.hid htk
      have HB2 := Lib.hid hb2
      have HL := Lib.hid hl
      clear hh htk hb2 hl hdr hrs hx hr hb ht hd hz hv hbe hbs hle hle0 hl1 hl0 hrz
      go_wp2_with (first | (go_at_call 29; refine (HH.out _).mono ?_; rintro e w1 ⟨rfl, hb1⟩; have B1 := Lib.hid hb1; clear hb1) | (at_builtin; go_must (refine wpList_append_own_at _ rfl _ _ 28 rfl w.heap.size 9 i0 (.string ⟨#[]⟩) 1 16 Tryd.underlying28 HI.out HZ0.out HZ1.out HZ2.out rfl (by omega) _ k (strs (A.take k)) rfl ((owns_below HO.out B1.out).alloc _) ⟨_, 0, none⟩ 1 1 [.string x] rfl rfl (World.news_of_block (heap_alloc_new _ _)) (by simp [Value.oneCell']) ?g1 ?g2 ?g3 ?g4)))
      case g1 => simp only [maxLen]; omega
      case g2 => omega
      case g3 => have := B1.out.size; simp; omega
      intro v' w' hown' hgrow' _ _
      go_wp2
      go_roundg (gk - 1)
      case measure => have := HGK.out; omega
      case rel =>
        have hgk := HGK.out
        have hb1 := B1.out
        refine ⟨k + 1, by omega, by omega, by rw [HB2.out, HL.out], ?_, ?_⟩
        · rw [HTK.out]; exact hown'
        · exact below_grow ((HB.out.trans (hb1.mono hbase)).alloc (by have := hb1.size; omega) _) hgrow' (fun g e => ((owns_below HO.out hb1).lt g e).1) (by have := hb1.size; simp; omega)
    · have hdr : A.drop k = [] := List.drop_eq_nil_of_le (by rw [← HN.out]; omega)
      have htk : A.take k = A := List.take_of_length_le (by rw [← HN.out]; omega)
      obtain rfl : k = n := by omega
      have hO := HO.out
      rw [htk] at hO
      have HO2 := Lib.hid hO
      rw [hdr]
      have e0 : rowB [] = ⟨#[]⟩ := rfl
      rw [e0]
      clear hdr htk hO HO e0
      go_wp2_with fail
      go_ret2
      exact ⟨_, rfl, HO2.out, HB.out⟩
end Go.Proofs.YtpllcnpcplbobaaDoor
