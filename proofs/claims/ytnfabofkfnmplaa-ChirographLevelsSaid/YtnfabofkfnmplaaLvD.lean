/- The walks of IndexFunc and ContainsFunc (of files, with a closure), of Index and Contains (of numbers). -/
import Derived.Test.YtnfabofkfnmplaaLvC
import Derived.Shelf.GgClosure.Gives
namespace Go.Proofs.Ytnfabofkfnmplaa
open Go.RowKit

/-- What is asked of a closure: it says p of each file, in every later world. -/
def Says (w : World) (g : Nat) (lb : Array Value) (p : L.Fi → Bool) : Prop := ∀ (W : World) (f : L.Fi), Below w.heap.size w W → Calls Try.prog g (#[fiV f] ++ lb) W fun e w' => e = .returned (.bool (p f)) ∧ Below W.heap.size W w'
theorem any_take_false {α : Type} (p : α → Bool) (l : List α) (h : ∀ (j : Nat) (x : α), l[j]? = some x → p x = false) : l.any p = false := by
  rw [List.any_eq_false]
  intro x hx
  obtain ⟨j, hj⟩ := List.getElem?_of_mem hx
  rw [h j x hj]; simp
set_option maxRecDepth 100000 in
set_option maxHeartbeats 2000000 in
theorem indexf_any (fs : List L.Fi) (v : Value) (g : Nat) (lb : Array Value) (p : L.Fi → Bool) (w : World) (h : FRead w v fs) (hl : fs.length ≤ 1000) (eg : ∀ args w, (callFunc g args).run Try.prog w = .ok (.enter g args) w) (hs : Says w g lb p) :
    Calls Try.prog 27 #[v, .func (.func g) #[] lb] w fun e w' => ∃ r : Int, e = .returned (.int .i64 r) ∧ Hid (decide (0 ≤ r) = fs.any p) ∧ Below w.heap.size w w' := by
  obtain ⟨A, c, rfl, hcap, h⟩ := fread_open h
  have Hs := Lib.hid hs
  clear hs
  go_enter Try.func27, Try.ntmps27
  go_wp2
  go_loopw [8] (fun i wr => ∃ k : Nat, k ≤ fs.length ∧ i = .int .i64 (k : Int) ∧ Hid (∀ (j : Nat) (x : L.Fi), j < k → fs[j]? = some x → p x = false) ∧ Below w.heap.size w wr) (fun i _ => fs.length - (intOf i).toNat)
  case atStart => exact ⟨0, Nat.zero_le _, rfl, Lib.hid (fun j x hj => by omega), Below.refl _ _⟩
  case round =>
    obtain ⟨k, hk, rfl, hno, hB⟩ := hrel
    have q0 : (0 : Int) ≤ (k : Int) := by omega
    by_cases hm : k < fs.length
    · have d1 : decide ((k : Int) < (fs.length : Int)) = true := decide_eq_true (by omega)
      have d1' : decide (k < fs.length) = true := decide_eq_true hm
      have q1 : (k : Int) < (fs.length : Int) := by omega
      obtain ⟨f, hf⟩ : ∃ f, fs[k]? = some f := ⟨_, List.getElem?_eq_getElem hm⟩
      obtain ⟨ga, o, rfl, hg, cR⟩ := fread_at (h.at_ hB) hf
      have cR' : wr.rangeAt ga (o + k * 5) [.int .i64 (f.num : Int), .int .i64 (f.lev : Int), .int .i64 (f.size : Int), .string ⟨f.first.toArray⟩, .string ⟨f.last.toArray⟩] := cR
      have hsz : (Try.prog.info? 33).map (·.size) = some [Value.int .i64 (f.num : Int), .int .i64 (f.lev : Int), .int .i64 (f.size : Int), .string ⟨f.first.toArray⟩, .string ⟨f.last.toArray⟩].length := size_fi
      have hw1 : IntKind.i64.wrap ((k : Int) + 1) = ((k + 1 : Nat) : Int) := by rw [IntWalk.i64_in _ (by omega)]; omega
      have CC := Lib.hid (Hs.out wr f hB)
      have hfm := Lib.hid (List.mem_of_getElem? hf)
      have hf := Lib.hid hf
      clear cR hg
      cases hp : p f with
      | true =>
        rw [hp] at CC
        have hany := Lib.hid (show fs.any p = true from List.any_eq_true.2 ⟨f, hfm.out, hp⟩)
        clear hp
        go_wp2_with (first | (refine wpList_load_mid rfl 33 (.tmp 14) rfl ga (o + k * 5) rfl _ _ cR' Try.underlying33 rfl hsz ?_; go_frame) | (go_at_fn g; refine CC.out.mono ?_; rintro e w2 ⟨rfl, hb2⟩))
        go_ret
        exact ⟨(k : Int), rfl, Lib.hid (by rw [hany.out]; exact decide_eq_true q0), hB.trans (hb2.mono hB.size)⟩
      | false =>
        rw [hp] at CC
        have hno2 : Hid (∀ (j : Nat) (x : L.Fi), j < k + 1 → fs[j]? = some x → p x = false) := Lib.hid (fun j x hj hx => by
          rcases Nat.lt_or_ge j k with h9 | h9
          · exact hno.out j x h9 hx
          · obtain rfl : j = k := by omega
            have := hf.out
            rw [hx] at this
            injection this with this
            rw [this]; exact hp)
        clear hp hno
        go_wp2_with (first | (refine wpList_load_mid rfl 33 (.tmp 14) rfl ga (o + k * 5) rfl _ _ cR' Try.underlying33 rfl hsz ?_; go_frame) | (go_at_fn g; refine CC.out.mono ?_; rintro e w2 ⟨rfl, hb2⟩))
        go_roundw
        case rel => exact ⟨k + 1, by omega, rfl, hno2, hB.trans (hb2.mono hB.size)⟩
        case measure => simp [intOf]; omega
    · have d1 : decide ((k : Int) < (fs.length : Int)) = false := decide_eq_false (by omega)
      have d1' : decide (k < fs.length) = false := decide_eq_false hm
      have hany := Lib.hid (any_take_false p fs fun j x hx => hno.out j x (by have := (List.getElem?_eq_some_iff.1 hx).1; omega) hx)
      clear hno hm
      go_wp2
      go_ret
      exact ⟨-1, rfl, Lib.hid (by rw [hany.out]; rfl), hB⟩
set_option maxRecDepth 100000 in
set_option maxHeartbeats 2000000 in
theorem containsf_any (fs : List L.Fi) (v : Value) (g : Nat) (lb : Array Value) (p : L.Fi → Bool) (w : World) (h : FRead w v fs) (hl : fs.length ≤ 1000) (eg : ∀ args w, (callFunc g args).run Try.prog w = .ok (.enter g args) w) (hs : Says w g lb p) :
    Calls Try.prog 14 #[v, .func (.func g) #[] lb] w fun e w' => e = .returned (.bool (fs.any p)) ∧ Below w.heap.size w w' := by
  have IX := Lib.hid (indexf_any fs v g lb p w h hl eg hs)
  clear hs h
  go_enter Try.func14, Try.ntmps14
  go_wp2_with (go_at_call 27; refine IX.out.mono ?_; rintro e w2 ⟨r, rfl, hr, hb2⟩)
  go_ret
  exact ⟨by rw [← hr.out]; rfl, hb2⟩
def numV (n : Nat) : Value := .int .i64 (n : Int)
set_option maxRecDepth 100000 in
set_option maxHeartbeats 2000000 in
theorem index_any (ns : List Nat) (v : Value) (x : Nat) (w : World) (h : SRead w v (ns.map numV)) (hl : ns.length ≤ 1000) :
    Calls Try.prog 28 #[v, .int .i64 (x : Int)] w fun e w' => ∃ r : Int, e = .returned (.int .i64 r) ∧ Hid (0 ≤ r ↔ x ∈ ns) ∧ w' = w := by
  obtain ⟨A, c, rfl, hcap, h⟩ := h
  have hlm : (ns.map numV).length = ns.length := List.length_map _
  rw [hlm] at hcap ⊢
  go_enter Try.func28, Try.ntmps28
  go_wp2
  go_loop [8] (fun i => ∃ k : Nat, k ≤ ns.length ∧ i = .int .i64 (k : Int) ∧ Hid (∀ (j : Nat) (y : Nat), j < k → ns[j]? = some y → y ≠ x)) (fun i => ns.length - (intOf i).toNat)
  case atStart => exact ⟨0, Nat.zero_le _, rfl, Lib.hid (fun j x hj => by omega)⟩
  case round =>
    obtain ⟨k, hk, rfl, hno⟩ := hrel
    have q0 : (0 : Int) ≤ (k : Int) := by omega
    by_cases hm : k < ns.length
    · have d1 : decide ((k : Int) < (ns.length : Int)) = true := decide_eq_true (by omega)
      have d1' : decide (k < ns.length) = true := decide_eq_true hm
      have q1 : (k : Int) < (ns.length : Int) := by omega
      obtain ⟨y, hy⟩ : ∃ y, ns[k]? = some y := ⟨_, List.getElem?_eq_getElem hm⟩
      have h9 : ∃ g o, A = some ⟨g, o, none⟩ ∧ g < w.heap.size ∧ ∀ j u, (ns.map numV)[j]? = some u → w.cell? ⟨g, o + j, none⟩ = some u := by
        rcases h with e | e
        · exfalso
          have h9 : ns.length = 0 := by rw [← hlm, e]; rfl
          omega
        · exact e
      obtain ⟨g, o, rfl, _, hc⟩ := h9
      have c1 := hc k (numV y) (by rw [List.getElem?_map, hy]; rfl)
      unfold numV at c1
      have hw1 : IntKind.i64.wrap ((k : Int) + 1) = ((k + 1 : Nat) : Int) := by rw [IntWalk.i64_in _ (by omega)]; omega
      have hy := Lib.hid hy
      clear hc h
      by_cases hxy : x = y
      · subst hxy
        have hin := Lib.hid (List.mem_of_getElem? hy.out)
        clear hno
        go_wp2
        go_ret
        exact ⟨(k : Int), rfl, Lib.hid ⟨fun _ => hin.out, fun _ => q0⟩, rfl⟩
      · have e1 : ((x : Int) == (y : Int)) = false := by rw [beq_eq_false_iff_ne]; omega
        have e1' : (x == y) = false := by rw [beq_eq_false_iff_ne]; exact hxy
        have hno2 : Hid (∀ (j : Nat) (z : Nat), j < k + 1 → ns[j]? = some z → z ≠ x) := Lib.hid (fun j z hj hz => by
          rcases Nat.lt_or_ge j k with h9 | h9
          · exact hno.out j z h9 hz
          · obtain rfl : j = k := by omega
            have := hy.out
            rw [hz] at this
            injection this with this
            rw [this]; exact fun e => hxy e.symm)
        clear hno hxy
        go_wp2
        exact ⟨⟨k + 1, by omega, by go_num, hno2⟩, by simp [intOf]; omega⟩
    · have d1 : decide ((k : Int) < (ns.length : Int)) = false := decide_eq_false (by omega)
      have d1' : decide (k < ns.length) = false := decide_eq_false hm
      have hin := Lib.hid (show ¬ x ∈ ns from fun hx => by
        obtain ⟨j, hj⟩ := List.getElem?_of_mem hx
        exact hno.out j x (by have := (List.getElem?_eq_some_iff.1 hj).1; omega) hj rfl)
      clear hno hm h
      go_wp2
      go_ret
      exact ⟨-1, rfl, Lib.hid ⟨fun h => absurd h (by decide), fun h => absurd h hin.out⟩, rfl⟩
set_option maxRecDepth 100000 in
set_option maxHeartbeats 2000000 in
theorem contains_any (ns : List Nat) (v : Value) (x : Nat) (w : World) (h : SRead w v (ns.map numV)) (hl : ns.length ≤ 1000) :
    Calls Try.prog 16 #[v, .int .i64 (x : Int)] w fun e w' => e = .returned (.bool (decide (x ∈ ns))) ∧ w' = w := by
  have IX := Lib.hid (index_any ns v x w h hl)
  clear h
  go_enter Try.func16, Try.ntmps16
  go_wp2_with (go_at_call 28; refine IX.out.mono ?_; rintro e w2 ⟨r, rfl, hr, rfl⟩)
  go_ret
  exact ⟨by rw [show decide (x ∈ ns) = decide (0 ≤ r) from decide_eq_decide.2 hr.out.symm]; rfl, rfl⟩
end Go.Proofs.Ytnfabofkfnmplaa
