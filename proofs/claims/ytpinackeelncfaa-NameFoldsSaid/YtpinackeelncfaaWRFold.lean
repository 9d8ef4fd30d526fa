/- The walks of the reference's Bytes and Fold. -/
import Derived.Test.YtpinackeelncfaaWRRunes
import Derived.Test.YtpinackeelncfaaPureTwice
namespace Go.Proofs.Ytpinackeelncfaa
open Go.RowKit

theorem u8v (x : Nat) (y : Int) (h : x < 256) (hy : y = (x : Int)) : Value.int .u8 y = byteV (UInt8.ofNat x) := by
  unfold byteV
  rw [N.ofNat_toNat x h, hy]
theorem bytes_str (w : World) (l : List UInt8) (cs : Array Value) (n : Nat) (hc : cs = (l.map byteV).toArray) (hn : l.length = n) (h4 : n ≤ 4) : (convert 33 9 (.slice (some ⟨w.heap.size, 0, none⟩) n n)).run Try.prog (w.alloc (.cells cs 5)) = .ok (.string ⟨l.toArray⟩) (w.alloc (.cells cs 5)) :=
  (buf_build w l cs n hc hn (by omega)).string Try.underlying33 Try.underlying9
set_option maxRecDepth 100000 in
set_option maxHeartbeats 1000000 in
theorem rbytes_any (c : Nat) (hc : N.okC c) (w : World) :
    Calls Try.prog 25 #[.int .i64 (c : Int)] w fun e w' => e = .returned (.string ⟨(N.enc (c : Int)).toArray⟩) ∧ Below w.heap.size w w' := by
  have he := N.enc_eq c hc
  have hb : c ≤ 1114111 := by unfold N.okC at hc; omega
  generalize N.enc (c : Int) = E at *
  have c0 : (0 : Int) ≤ (c : Int) := by omega
  have c9 : (c : Int) ≤ 1114111 := by omega
  by_cases h1 : c < 128
  · have d1 : decide ((c : Int) < 128) = true := by simp; omega
    have d1' : decide (c < 128) = true := by simpa using h1
    rw [if_pos h1] at he
    subst he
    have v := bytes_str w [UInt8.ofNat c] #[.int .u8 (c : Int)] 1 (by rw [u8v c _ (by omega) rfl]; rfl) rfl (by omega)
    generalize (⟨[UInt8.ofNat c].toArray⟩ : ByteArray) = R at *
    go_enter Try.func25, Try.ntmps25
    go_wp2
    go_ret
    exact ⟨rfl, (Below.refl _ _).alloc (Nat.le_refl _) _⟩
  have d1 : decide ((c : Int) < 128) = false := by simp; omega
  have d1' : decide (c < 128) = false := by simpa using h1
  rw [if_neg h1] at he
  by_cases h2 : c < 2048
  · have d2 : decide ((c : Int) < 2048) = true := by simp; omega
    have d2' : decide (c < 2048) = true := by simpa using h2
    rw [if_pos h2] at he
    have v := bytes_str w E #[.int .u8 (192 + (c : Int) / 64), .int .u8 (128 + (c : Int) % 64)] 2 (by rw [he, u8v (192 + c / 64) _ (by omega) (by omega), u8v (128 + c % 64) _ (by omega) (by omega)]; rfl) (by rw [he]; rfl) (by omega)
    clear he
    generalize (⟨E.toArray⟩ : ByteArray) = R at *
    go_enter Try.func25, Try.ntmps25
    go_wp2
    go_ret
    exact ⟨rfl, (Below.refl _ _).alloc (Nat.le_refl _) _⟩
  have d2 : decide ((c : Int) < 2048) = false := by simp; omega
  have d2' : decide (c < 2048) = false := by simpa using h2
  rw [if_neg h2] at he
  by_cases h3 : c < 65536
  · have d3 : decide ((c : Int) < 65536) = true := by simp; omega
    have d3' : decide (c < 65536) = true := by simpa using h3
    rw [if_pos h3] at he
    have v := bytes_str w E #[.int .u8 (224 + (c : Int) / 4096), .int .u8 (128 + (c : Int) / 64 % 64), .int .u8 (128 + (c : Int) % 64)] 3 (by rw [he, u8v (224 + c / 4096) _ (by omega) (by omega), u8v (128 + c / 64 % 64) _ (by omega) (by omega), u8v (128 + c % 64) _ (by omega) (by omega)]; rfl) (by rw [he]; rfl) (by omega)
    clear he
    generalize (⟨E.toArray⟩ : ByteArray) = R at *
    go_enter Try.func25, Try.ntmps25
    go_wp2
    go_ret
    exact ⟨rfl, (Below.refl _ _).alloc (Nat.le_refl _) _⟩
  have d3 : decide ((c : Int) < 65536) = false := by simp; omega
  have d3' : decide (c < 65536) = false := by simpa using h3
  rw [if_neg h3] at he
  have v := bytes_str w E #[.int .u8 (240 + (c : Int) / 262144), .int .u8 (128 + (c : Int) / 4096 % 64), .int .u8 (128 + (c : Int) / 64 % 64), .int .u8 (128 + (c : Int) % 64)] 4 (by rw [he, u8v (240 + c / 262144) _ (by omega) (by omega), u8v (128 + c / 4096 % 64) _ (by omega) (by omega), u8v (128 + c / 64 % 64) _ (by omega) (by omega), u8v (128 + c % 64) _ (by omega) (by omega)]; rfl) (by rw [he]; rfl) (by omega)
  clear he
  generalize (⟨E.toArray⟩ : ByteArray) = R at *
  go_enter Try.func25, Try.ntmps25
  go_wp2
  go_ret
  exact ⟨rfl, (Below.refl _ _).alloc (Nat.le_refl _) _⟩
set_option maxRecDepth 100000 in
set_option maxHeartbeats 1000000 in
theorem rfold_any (s : List UInt8) (w : World) (hs : s.length ≤ 10000000) :
    Calls Try.prog 18 #[.string ⟨s.toArray⟩] w fun e w' => e = .returned (.string ⟨(N.fold s).toArray⟩) ∧ Below w.heap.size w w' := by
  have hrl := N.runes_len s
  have RR := Lib.hid (fun W => rrunes_any s W (by omega))
  have hok := N.cds_ok _ s (Nat.le_refl _)
  rw [N.fold_eq]
  unfold N.cds at hok ⊢
  generalize N.runes s = T at *
  obtain ⟨n, hn⟩ : ∃ n, n = T.length := ⟨_, rfl⟩
  rw [← hn] at RR hrl
  have Hn := Lib.hid hn
  have HE : Hid (∀ E, E = N.encs ((T.map (·.1)).map N.smallN) → N.encs ((T.map (·.1)).map N.smallN) = E) := fun E h => h.symm
  have n0 : (0 : Int) ≤ (n : Int) := by omega
  have n1 : (n : Int) ≤ 100000000000 := by omega
  clear hn
  go_enter Try.func18, Try.ntmps18
  go_wp2_with (go_at_call 19; with_reducible refine (RR.out _).mono ?_; rintro e w1 ⟨g, cap, rfl, hcap, hra, hb1⟩)
  go_loopw [3, 10] (fun y x wr => ∃ (i : Nat) (acc : List UInt8) (A : ByteArray), x = .int .i64 (i : Int) ∧ y = .string A ∧ A = ⟨acc.toArray⟩ ∧ i ≤ n ∧ acc.length ≤ 4 * i ∧ RunesAt wr g T ∧ acc ++ N.encs (((T.drop i).map (·.1)).map N.smallN) = N.encs ((T.map (·.1)).map N.smallN) ∧ Below w.heap.size w wr) (fun _ x _ => n - (intOf x).toNat)
  case atStart => exact ⟨0, [], _, rfl, rfl, rfl, by omega, by simp, hra, rfl, hb1⟩
  case round =>
    clear hra hb1 HE
    obtain ⟨i, acc, A, rfl, rfl, hA, hi, hal, hra, hch, hB⟩ := hrel
    have i0 : (0 : Int) ≤ (i : Int) := by omega
    have i1 : (i : Int) ≤ 10000000 := by omega
    by_cases hlt : i < n
    · have hl : i < T.length := by rw [← Hn.out]; exact hlt
      obtain ⟨r, hr⟩ : ∃ r, T[i]? = some r := ⟨_, List.getElem?_eq_getElem hl⟩
      have hrg := hra.2 i r hr
      have hdr : T.drop i = r :: T.drop (i + 1) := by
        rw [List.drop_eq_getElem_cons hl]
        congr 1
        exact Option.some.inj ((List.getElem?_eq_getElem hl).symm.trans hr)
      have hrc := hok r.1 (List.mem_map_of_mem (List.mem_of_getElem? hr))
      rw [hdr, List.map_cons, List.map_cons, N.encs_cons, ← List.append_assoc] at hch
      obtain ⟨c, q, z⟩ := r
      dsimp only at hch hrc
      unfold runeL at hrg
      dsimp only at hrg
      have d0 : decide ((i : Int) < (n : Int)) = true := by simp; omega
      have d0' : decide (i < n) = true := by simpa using hlt
      have iN : (i : Int) < (n : Int) := by omega
      have GC := Lib.hid (fun W => great_any (c : Int) W)
      have hsk := N.small_ok c hrc
      have hel := N.enc_len _ hsk
      have BC := Lib.hid (fun W => rbytes_any (N.smallN c) hsk W)
      have sa := str_add acc (N.enc (N.smallN c : Int)) (by omega)
      rw [← hA] at sa
      clear hA
      have hal2 : (acc ++ N.enc (N.smallN c : Int)).length ≤ 4 * (i + 1) := by rw [List.length_append]; omega
      have Hch := Lib.hid hch
      have cb : (c : Int) ≤ 1114111 := by unfold N.okC at hrc; omega
      clear hch hdr hr hl hrc hsk hel
      have hsm : N.smallN c = if N.great (c : Int) then c + 32 else c := rfl
      by_cases hg : N.great (c : Int) = true
      · rw [if_pos hg] at hsm
        rw [hg] at GC
        generalize N.enc (N.smallN c : Int) = E at *
        rw [show ((N.smallN c : Nat) : Int) = (c : Int) + 32 by rw [hsm]; simp] at BC
        clear hsm hg
        generalize hR : (⟨(acc ++ E).toArray⟩ : ByteArray) = R at *
        generalize (⟨E.toArray⟩ : ByteArray) = EE at *
        have HR := Lib.hid hR
        clear hR
        go_wp2_with (refine wpList_load_mid rfl 43 (.tmp 12) rfl g (i * 3) (by rfl) [.int .i64 (c : Int), .int .i64 (q : Int), .int .i64 (z : Int)] _ hrg Try.underlying43 (by rfl) info_rune ?_; simp only [Act.put, List.setIfInBounds_toArray, List.set_cons_succ, List.set_cons_zero])
        go_wp2_with (first | (go_at_call 21; with_reducible refine (GC.out _).mono ?_; rintro e w2 ⟨rfl, hb2⟩) | (go_at_call 25; with_reducible refine (BC.out _).mono ?_; rintro e w3 ⟨rfl, hb3⟩))
        go_roundw
        case rel => exact ⟨i + 1, acc ++ E, _, by go_num, rfl, HR.out.symm, by omega, hal2, ((hra.at_ (below_alloc1 wr _)).at_ hb2).at_ hb3, Hch.out, ((hB.alloc hB.size _).trans (hb2.mono (by have := hB.size; simp; omega))).trans (hb3.mono (by have := hB.size; have := hb2.size; simp at *; omega))⟩
        case measure => simp [intOf]; omega
      · have hg : N.great (c : Int) = false := by simpa using hg
        rw [hg] at GC hsm
        generalize N.enc (N.smallN c : Int) = E at *
        rw [show ((N.smallN c : Nat) : Int) = (c : Int) by rw [hsm]; rfl] at BC
        clear hsm hg
        generalize hR : (⟨(acc ++ E).toArray⟩ : ByteArray) = R at *
        generalize (⟨E.toArray⟩ : ByteArray) = EE at *
        have HR := Lib.hid hR
        clear hR
        go_wp2_with (refine wpList_load_mid rfl 43 (.tmp 12) rfl g (i * 3) (by rfl) [.int .i64 (c : Int), .int .i64 (q : Int), .int .i64 (z : Int)] _ hrg Try.underlying43 (by rfl) info_rune ?_; simp only [Act.put, List.setIfInBounds_toArray, List.set_cons_succ, List.set_cons_zero])
        go_wp2_with (first | (go_at_call 21; with_reducible refine (GC.out _).mono ?_; rintro e w2 ⟨rfl, hb2⟩) | (go_at_call 25; with_reducible refine (BC.out _).mono ?_; rintro e w3 ⟨rfl, hb3⟩))
        go_roundw
        case rel => exact ⟨i + 1, acc ++ E, _, by go_num, rfl, HR.out.symm, by omega, hal2, ((hra.at_ (below_alloc1 wr _)).at_ hb2).at_ hb3, Hch.out, ((hB.alloc hB.size _).trans (hb2.mono (by have := hB.size; simp; omega))).trans (hb3.mono (by have := hB.size; have := hb2.size; simp at *; omega))⟩
        case measure => simp [intOf]; omega
    · have d0 : decide ((i : Int) < (n : Int)) = false := by simp; omega
      have d0' : decide (i < n) = false := by simpa using hlt
      rw [List.drop_eq_nil_of_le (by have := Hn.out; omega)] at hch
      rw [show acc ++ N.encs (([] : List (Nat × Nat × Nat)).map (·.1) |>.map N.smallN) = acc from List.append_nil _] at hch
      subst hA
      subst hch
      go_wp2
      go_ret
      exact ⟨rfl, hB⟩
end Go.Proofs.Ytpinackeelncfaa
