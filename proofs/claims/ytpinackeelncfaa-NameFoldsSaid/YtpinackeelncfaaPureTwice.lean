/- Plain laws: texts folded, and an identity's parts. -/
import Derived.Test.YtpinackeelncfaaPureJoins
import Derived.Test.YtpinackeelncfaaWFold
import Derived.Test.YtpinackeelncfaaWParts
namespace Go.Proofs.Ytpinackeelncfaa
open Go.RowKit
namespace N
def okC (c : Nat) : Prop := c < 55296 ∨ (57343 < c ∧ c ≤ 1114111)
theorem rnc_ok (b0 b1 b2 b3 n : Nat) : okC (rnc b0 b1 b2 b3 n).1 := by
  unfold rnc okC
  repeat' split
  all_goals simp only
  all_goals omega
theorem rn_ok (l : List UInt8) : okC (rn l).1 := rnc_ok ..
theorem ok_valid (c : Nat) (h : okC c) : Utf8.valid (c : Int) = true := by
  unfold Utf8.valid
  unfold okC at h
  rw [Bool.or_eq_true, Bool.and_eq_true, Bool.and_eq_true, decide_eq_true_iff, decide_eq_true_iff, decide_eq_true_iff, decide_eq_true_iff]
  omega

set_option maxRecDepth 1000000 in
theorem enc_eq (c : Nat) (h : okC c) : enc (c : Int) = if c < 128 then [UInt8.ofNat c] else if c < 2048 then [UInt8.ofNat (192 + c / 64), UInt8.ofNat (128 + c % 64)] else if c < 65536 then [UInt8.ofNat (224 + c / 4096), UInt8.ofNat (128 + c / 64 % 64), UInt8.ofNat (128 + c % 64)] else [UInt8.ofNat (240 + c / 262144), UInt8.ofNat (128 + c / 4096 % 64), UInt8.ofNat (128 + c / 64 % 64), UInt8.ofNat (128 + c % 64)] := by
  unfold enc Utf8.encode
  rw [ok_valid c h, if_pos rfl, Int.toNat_natCast]
  dsimp only
  by_cases h1 : c < 128
  · rw [if_pos h1, if_pos (show c < 0x80 from h1)]
  · rw [if_neg h1, if_neg (show ¬ c < 0x80 from h1)]
    by_cases h2 : c < 2048
    · rw [if_pos h2, if_pos (show c < 0x800 from h2)]
    · rw [if_neg h2, if_neg (show ¬ c < 0x800 from h2)]
      by_cases h3 : c < 65536
      · rw [if_pos h3, if_pos (show c < 0x10000 from h3)]
      · rw [if_neg h3, if_neg (show ¬ c < 0x10000 from h3)]
theorem ofNat_toNat (x : Nat) (h : x < 256) : (UInt8.ofNat x).toNat = x := by rw [UInt8.toNat_ofNat']; omega
theorem rn_enc (c : Nat) (t : List UInt8) (h : okC c) : rn (enc (c : Int) ++ t) = (c, (enc (c : Int)).length) := by
  rw [enc_eq c h]
  unfold okC at h
  by_cases h1 : c < 128
  · rw [if_pos h1]
    show rnc (UInt8.ofNat c).toNat _ _ _ _ = (c, 1)
    rw [ofNat_toNat _ (by omega), rnc, if_pos h1]
  · rw [if_neg h1]
    by_cases h2 : c < 2048
    · rw [if_pos h2]
      show rnc (UInt8.ofNat (192 + c / 64)).toNat (UInt8.ofNat (128 + c % 64)).toNat _ _ (t.length + 2) = (c, 2)
      rw [ofNat_toNat _ (by omega), ofNat_toNat _ (by omega), rnc, if_neg (by omega), if_pos (by omega), if_pos (by omega)]
      exact Prod.ext (by simp only; omega) rfl
    · rw [if_neg h2]
      by_cases h3 : c < 65536
      · rw [if_pos h3]
        show rnc (UInt8.ofNat (224 + c / 4096)).toNat (UInt8.ofNat (128 + c / 64 % 64)).toNat (UInt8.ofNat (128 + c % 64)).toNat _ (t.length + 3) = (c, 3)
        rw [ofNat_toNat _ (by omega), ofNat_toNat _ (by omega), ofNat_toNat _ (by omega), rnc, if_neg (by omega), if_neg (by omega), if_pos (by omega), if_pos (by omega)]
        exact Prod.ext (by simp only; omega) rfl
      · rw [if_neg h3]
        show rnc (UInt8.ofNat (240 + c / 262144)).toNat (UInt8.ofNat (128 + c / 4096 % 64)).toNat (UInt8.ofNat (128 + c / 64 % 64)).toNat (UInt8.ofNat (128 + c % 64)).toNat (t.length + 4) = (c, 4)
        rw [ofNat_toNat _ (by omega), ofNat_toNat _ (by omega), ofNat_toNat _ (by omega), ofNat_toNat _ (by omega), rnc, if_neg (by omega), if_neg (by omega), if_neg (by omega), if_pos (by omega), if_pos (by omega)]
        exact Prod.ext (by simp only; omega) rfl
theorem enc_len (c : Nat) (h : okC c) : 1 ≤ (enc (c : Int)).length ∧ (enc (c : Int)).length ≤ 4 := by
  rw [enc_eq c h]
  repeat' split
  all_goals simp
theorem rnc_inv (b0 b1 b2 b3 n : Nat) (h : (rnc b0 b1 b2 b3 n).1 ≠ 65533) :
    (b0 < 128 ∧ rnc b0 b1 b2 b3 n = (b0, 1)) ∨
    (∃ c, rnc b0 b1 b2 b3 n = (c, 2) ∧ 1 < n ∧ ¬ c < 128 ∧ c < 2048 ∧ b0 = 192 + c / 64 ∧ b1 = 128 + c % 64) ∨
    (∃ c, rnc b0 b1 b2 b3 n = (c, 3) ∧ 2 < n ∧ ¬ c < 128 ∧ ¬ c < 2048 ∧ c < 65536 ∧ b0 = 224 + c / 4096 ∧ b1 = 128 + c / 64 % 64 ∧ b2 = 128 + c % 64) ∨
    (∃ c, rnc b0 b1 b2 b3 n = (c, 4) ∧ 3 < n ∧ ¬ c < 128 ∧ ¬ c < 2048 ∧ ¬ c < 65536 ∧ b0 = 240 + c / 262144 ∧ b1 = 128 + c / 4096 % 64 ∧ b2 = 128 + c / 64 % 64 ∧ b3 = 128 + c % 64) := by
  unfold rnc at h ⊢
  by_cases c0 : b0 < 128
  · rw [if_pos c0]; exact .inl ⟨c0, rfl⟩
  · rw [if_neg c0] at h ⊢
    by_cases c1 : 192 ≤ b0 ∧ b0 < 224
    · rw [if_pos c1] at h ⊢
      split at h
      · rename_i k
        rw [if_pos k]
        exact .inr (.inl ⟨_, rfl, by omega, by omega, by omega, by omega, by omega⟩)
      · exact absurd rfl h
    · rw [if_neg c1] at h ⊢
      by_cases c2 : 224 ≤ b0 ∧ b0 < 240
      · rw [if_pos c2] at h ⊢
        split at h
        · rename_i k
          rw [if_pos k]
          exact .inr (.inr (.inl ⟨_, rfl, by omega, by omega, by omega, by omega, by omega, by omega, by omega⟩))
        · exact absurd rfl h
      · rw [if_neg c2] at h ⊢
        by_cases c3 : 240 ≤ b0 ∧ b0 < 248
        · rw [if_pos c3] at h ⊢
          split at h
          · rename_i k
            rw [if_pos k]
            exact .inr (.inr (.inr ⟨_, rfl, by omega, by omega, by omega, by omega, by omega, by omega, by omega, by omega⟩))
          · exact absurd rfl h
        · rw [if_neg c3] at h
          exact absurd rfl h
theorem u8_of (b : UInt8) (x : Nat) (h : b.toNat = x) : UInt8.ofNat x = b := by subst h; simp
/-- A whole rune's bytes are those that it was read of. -/
theorem enc_rn (l : List UInt8) (hl : 0 < l.length) (h : (rn l).1 ≠ 65533) : enc ((rn l).1 : Int) = l.take (rn l).2 := by
  rw [enc_eq _ (rn_ok l)]
  have hi : _ := rnc_inv _ _ _ _ _ h
  rcases hi with ⟨c0, e⟩ | ⟨c, e, hn, k1, k2, e0, e1⟩ | ⟨c, e, hn, k1, k2, k3, e0, e1, e2⟩ | ⟨c, e, hn, k1, k2, k3, e0, e1, e2, e3⟩
  · have e' : rn l = ((l.getD 0 0).toNat, 1) := e
    rw [e', if_pos c0]
    match l, hl with
    | a :: t, _ => simp
  · have e' : rn l = (c, 2) := e
    rw [e', if_neg k1, if_pos k2, u8_of _ _ e0, u8_of _ _ e1]
    match l, hn with
    | a :: b :: t, _ => rfl
  · have e' : rn l = (c, 3) := e
    rw [e', if_neg k1, if_neg k2, if_pos k3, u8_of _ _ e0, u8_of _ _ e1, u8_of _ _ e2]
    match l, hn with
    | a :: b :: d :: t, _ => rfl
  · have e' : rn l = (c, 4) := e
    rw [e', if_neg k1, if_neg k2, if_neg k3, u8_of _ _ e0, u8_of _ _ e1, u8_of _ _ e2, u8_of _ _ e3]
    match l, hn with
    | a :: b :: d :: f :: t, _ => rfl
/-- The bytes of runes. -/
def encs (ns : List Nat) : List UInt8 := ns.flatMap fun c : Nat => enc (c : Int)
theorem encs_cons (c : Nat) (t : List Nat) : encs (c :: t) = enc (c : Int) ++ encs t := rfl
theorem encs_app (a b : List Nat) : encs (a ++ b) = encs a ++ encs b := List.flatMap_append ..
theorem cds_encs : ∀ ns : List Nat, (∀ c ∈ ns, okC c) → cds (encs ns) = ns
  | [], _ => rfl
  | c :: t, h => by
    have hc := h c (List.mem_cons_self ..)
    have hl := enc_len c hc
    rw [encs_cons, cds_next _ (by rw [List.length_append]; omega), rn_enc c _ hc]
    dsimp only
    rw [List.drop_left, cds_encs t fun x hx => h x (List.mem_cons_of_mem _ hx)]
theorem encs_cds : ∀ (m : Nat) (s : List UInt8), s.length ≤ m → (∀ c ∈ cds s, c ≠ 65533) → encs (cds s) = s
  | m, s, hm, h => by
    by_cases hs : 0 < s.length
    · match m, hm with
      | 0, hm => omega
      | m + 1, hm =>
        have hz := rn_size s
        rw [cds_next s hs] at h ⊢
        rw [encs_cons, enc_rn s hs (h _ (List.mem_cons_self ..)), encs_cds m (s.drop (rn s).2) (by rw [List.length_drop]; omega) fun c hc => h c (List.mem_cons_of_mem _ hc), List.take_append_drop]
    · obtain rfl : s = [] := List.eq_nil_of_length_eq_zero (by omega)
      rfl
theorem cds_ok : ∀ (m : Nat) (s : List UInt8), s.length ≤ m → ∀ c ∈ cds s, okC c
  | m, s, hm => by
    by_cases hs : 0 < s.length
    · match m, hm with
      | 0, hm => omega
      | m + 1, hm =>
        have hz := rn_size s
        rw [cds_next s hs]
        intro c hc
        rcases List.mem_cons.1 hc with rfl | hc
        · exact rn_ok s
        · exact cds_ok m (s.drop (rn s).2) (by rw [List.length_drop]; omega) c hc
    · obtain rfl : s = [] := List.eq_nil_of_length_eq_zero (by omega)
      intro c hc
      rw [cds_nil] at hc
      cases hc
def smallN (c : Nat) : Nat := if great (c : Int) then c + 32 else c
theorem smallN_eq (c : Nat) : small (c : Int) = ((smallN c : Nat) : Int) := by
  unfold small smallN
  split <;> simp
theorem great_in {c : Int} (h : great c = true) : (65 ≤ c ∧ c ≤ 90) ∨ (192 ≤ c ∧ c ≤ 214) ∨ (216 ≤ c ∧ c ≤ 222) ∨ (913 ≤ c ∧ c ≤ 929) ∨ (931 ≤ c ∧ c ≤ 937) ∨ (1040 ≤ c ∧ c ≤ 1071) := by
  simp [great, inB, greatR] at h
  omega
theorem great_out {c : Int} (h : ¬ ((65 ≤ c ∧ c ≤ 90) ∨ (192 ≤ c ∧ c ≤ 214) ∨ (216 ≤ c ∧ c ≤ 222) ∨ (913 ≤ c ∧ c ≤ 929) ∨ (931 ≤ c ∧ c ≤ 937) ∨ (1040 ≤ c ∧ c ≤ 1071))) : great c = false := by
  cases hg : great c with
  | false => rfl
  | true => exact absurd (great_in hg) h
theorem small_ok (c : Nat) (h : okC c) : okC (smallN c) := by
  unfold smallN
  split
  · rename_i hg
    have := great_in hg
    unfold okC
    omega
  · exact h
theorem small_small (c : Nat) : smallN (smallN c) = smallN c := by
  by_cases hg : great (c : Int) = true
  · have h := great_in hg
    have e : smallN c = c + 32 := if_pos hg
    rw [e]
    unfold smallN
    rw [great_out (by omega)]
    rfl
  · have e : smallN c = c := if_neg hg
    rw [e, e]
theorem fold_eq (s : List UInt8) : fold s = encs ((cds s).map smallN) := by
  unfold fold lows encs cds
  rw [List.flatMap_map, List.map_map, List.flatMap_map]
  simp only [Function.comp, smallN_eq]
theorem fold_cds (s : List UInt8) : cds (fold s) = (cds s).map smallN := by
  rw [fold_eq, cds_encs]
  intro c hc
  obtain ⟨d, hd, rfl⟩ := List.mem_map.1 hc
  exact small_ok d (cds_ok _ s (Nat.le_refl _) d hd)
theorem fold_fold (s : List UInt8) : fold (fold s) = fold s := by
  rw [fold_eq (fold s), fold_cds, fold_eq s, List.map_map]
  congr 1
  exact List.map_congr_left fun c _ => small_small c
theorem cds_length (s : List UInt8) : (cds s).length = (runes s).length := List.length_map ..
theorem fold_runes (s : List UInt8) : (runes (fold s)).length = (runes s).length := by
  rw [← cds_length, fold_cds, List.length_map, cds_length]
theorem encs_len : ∀ ns : List Nat, (∀ c ∈ ns, okC c) → (encs ns).length ≤ 4 * ns.length
  | [], _ => by simp [encs]
  | c :: t, h => by
    have := enc_len c (h c (List.mem_cons_self ..))
    have := encs_len t fun x hx => h x (List.mem_cons_of_mem _ hx)
    rw [encs_cons, List.length_append, List.length_cons]
    omega
theorem fold_len (s : List UInt8) : (fold s).length ≤ 4 * s.length := by
  rw [fold_eq]
  have h := encs_len ((cds s).map smallN) (by
    intro c hc
    obtain ⟨d, hd, rfl⟩ := List.mem_map.1 hc
    exact small_ok d (cds_ok _ s (Nat.le_refl _) d hd))
  rw [List.length_map, cds_length] at h
  have := runes_len s
  omega
theorem okA_small : ∀ (l : List Nat) (last : Nat), okA l last = true → l.map smallN = l
  | [], _, _ => rfl
  | c :: t, last, h => by
    rw [okA] at h
    simp only [Bool.and_eq_true, Bool.not_eq_true'] at h
    have hg : great (c : Int) = false := by
      have hb := h.1.2
      unfold bad at hb
      simp only [Bool.or_eq_false_iff] at hb
      exact hb.2
    rw [List.map_cons, okA_small t _ h.2, show smallN c = c by unfold smallN; rw [hg]; rfl]
theorem fold_ident (s : List UInt8) (h : (check s).2 = 0) : fold s = s := by
  rw [check_ok2] at h
  rw [fold_eq, okA_small _ _ h.1, encs_cds _ s (Nat.le_refl _) (okA_good _ _ h.1)]
theorem ident_len (s : List UInt8) (h : (check s).2 = 0) : (runes s).length ≤ 40 := by
  rw [check_ok2] at h
  rw [← cds_length]
  exact h.2.1
/-- Runes parted at joints. -/
def splitGo : List Nat → List Nat → List (List Nat)
  | d, [] => [d]
  | d, c :: t => if kind (c : Int) = 3 then d :: splitGo [] t else splitGo (d ++ [c]) t
theorem parts_split (s : List UInt8) : ∀ (m p fr : Nat) (d : List Nat), s.length ≤ m + p → fr ≤ p → p ≤ s.length → (s.drop fr).take (p - fr) = encs d → (∀ r ∈ rest s p, r.1 ≠ 65533) → partsGo s (rest s p) fr = (splitGo d ((rest s p).map (·.1))).map encs
  | m, p, fr, d, hm, h1, h2, hd, hr => by
    by_cases hlt : p < s.length
    · match m, hm with
      | 0, hm => omega
      | m + 1, hm =>
        have hst := step_le s p hlt
        rw [rest_next s p hlt] at hr ⊢
        have hc := hr _ (List.mem_cons_self ..)
        have hr' := fun r hx => hr r (List.mem_cons_of_mem _ hx)
        have he := enc_rn (s.drop p) (by rw [List.length_drop]; omega) hc
        rw [partsGo, List.map_cons, splitGo]
        dsimp only at hc ⊢
        by_cases hk : kind ((rn (s.drop p)).1 : Int) = 3
        · have hz : (rn (s.drop p)).2 = 1 := rn_small _ (by have := kind_joint hk; omega)
          rw [if_pos hk, if_pos hk, List.map_cons, hd]
          rw [hz] at hr' hst ⊢
          rw [parts_split s m (p + 1) (p + 1) [] (by omega) (Nat.le_refl _) (by omega) (by simp [encs]) hr']
        · rw [if_neg hk, if_neg hk]
          refine parts_split s m _ fr _ (by omega) (by omega) (by omega) ?_ hr'
          rw [encs_app, ← hd, show encs [(rn (s.drop p)).1] = enc ((rn (s.drop p)).1 : Int) by simp [encs], he]
          generalize (rn (s.drop p)).2 = z at *
          rw [show p + z - fr = (p - fr) + z by omega, List.take_add, List.drop_drop, show fr + (p - fr) = p by omega]
    · rw [rest_end s p hlt]
      rw [List.take_of_length_le (by rw [List.length_drop]; omega)] at hd
      show [s.drop fr] = [encs d]
      rw [hd]
theorem split_ok : ∀ (l d : List Nat), okA d 3 = true → okA l (lastK d 3) = true → lastK l (lastK d 3) ≠ 3 → d.length + l.length ≤ 40 → ∀ t ∈ splitGo d l, okA t 3 = true ∧ t.length ≤ 40 ∧ lastK t 3 ≠ 3
  | [], d, h1, _, h3, h4, t, ht => by
    rw [splitGo] at ht
    obtain rfl := List.mem_singleton.1 ht
    exact ⟨h1, by simp at h4; omega, h3⟩
  | c :: l, d, h1, h2, h3, h4, t, ht => by
    rw [okA] at h2
    simp only [Bool.and_eq_true, Bool.not_eq_true'] at h2
    obtain ⟨⟨g1, g2⟩, g3⟩ := h2
    rw [lastK] at h3
    rw [List.length_cons] at h4
    rw [splitGo] at ht
    by_cases hk : kind (c : Int) = 3
    · rw [if_pos hk] at ht
      rw [hk] at g3 h3
      rcases List.mem_cons.1 ht with rfl | ht
      · refine ⟨h1, by omega, ?_⟩
        intro e
        unfold bad at g2
        rw [hk, e] at g2
        simp at g2
      · exact split_ok l [] rfl g3 h3 (by simp; omega) t ht
    · rw [if_neg hk] at ht
      have e : lastK (d ++ [c]) 3 = kind (c : Int) := by rw [lastK_app]; rfl
      refine split_ok l (d ++ [c]) ?_ (by rw [e]; exact g3) (by rw [e]; exact h3) (by simp; omega) t ht
      rw [okA_app, h1, okA, g1, g2]
      rfl
theorem parts_ident (s : List UInt8) (h : (check s).2 = 0) : ∀ t ∈ parts s, (check t).2 = 0 := by
  rw [check_ok2] at h
  obtain ⟨h1, h2, h3⟩ := h
  have hg := okA_good _ _ h1
  have hok := cds_ok _ s (Nat.le_refl _)
  have hp : parts s = (splitGo [] (cds s)).map encs := parts_split s s.length 0 0 [] (by omega) (Nat.le_refl _) (by omega) (by simp [encs]) (fun r hr => hg r.1 (List.mem_map_of_mem hr))
  intro t ht
  rw [hp] at ht
  obtain ⟨u, hu, rfl⟩ := List.mem_map.1 ht
  have hq := split_ok (cds s) [] rfl h1 h3 (by simpa using h2) u hu
  have hsub : ∀ (l d : List Nat), (∀ c ∈ d, okC c) → (∀ c ∈ l, okC c) → ∀ t ∈ splitGo d l, ∀ c ∈ t, okC c := by
    intro l
    induction l with
    | nil =>
      intro d hd _ t ht
      obtain rfl := List.mem_singleton.1 ht
      exact hd
    | cons x l ih =>
      intro d hd hl t ht
      rw [splitGo] at ht
      have hl' : ∀ c ∈ l, okC c := fun c hc => hl c (List.mem_cons_of_mem _ hc)
      split at ht
      · rcases List.mem_cons.1 ht with rfl | ht
        · exact hd
        · exact ih [] (by intro c hc; cases hc) hl' t ht
      · refine ih _ ?_ hl' t ht
        intro c hc
        rcases List.mem_append.1 hc with hc | hc
        · exact hd c hc
        · obtain rfl := List.mem_singleton.1 hc
          exact hl _ (List.mem_cons_self ..)
  rw [check_ok2, cds_encs u (hsub (cds s) [] (by intro c hc; cases hc) hok u hu)]
  exact hq
theorem parts_lens (s : List UInt8) : ∀ (l : List (Nat × Nat × Nat)) (fr : Nat), ∀ t ∈ partsGo s l fr, t.length ≤ s.length
  | [], fr, t, ht => by
    obtain rfl := List.mem_singleton.1 ht
    rw [List.length_drop]; omega
  | r :: l, fr, t, ht => by
    rw [partsGo] at ht
    split at ht
    · rcases List.mem_cons.1 ht with rfl | ht
      · rw [List.length_take, List.length_drop]; omega
      · exact parts_lens s l _ t ht
    · exact parts_lens s l _ t ht
theorem partsGo_len (s : List UInt8) : ∀ (l : List (Nat × Nat × Nat)) (fr : Nat), (partsGo s l fr).length ≤ l.length + 1
  | [], fr => by simp [partsGo]
  | x :: t, fr => by
    have h1 := partsGo_len s t fr
    have h2 := partsGo_len s t (x.2.1 + 1)
    rw [partsGo]
    split <;> simp <;> omega
theorem partsGo_ne2 (s : List UInt8) : ∀ (l : List (Nat × Nat × Nat)) (fr : Nat), ∃ t r, partsGo s l fr = t :: r
  | [], fr => ⟨_, _, rfl⟩
  | x :: t, fr => by
    rw [partsGo]
    split
    · exact ⟨_, _, rfl⟩
    · exact partsGo_ne2 s t fr
end N
end Go.Proofs.Ytpinackeelncfaa
