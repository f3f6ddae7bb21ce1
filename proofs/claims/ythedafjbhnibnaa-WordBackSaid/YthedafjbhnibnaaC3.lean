/- Texts of digits read back; what every program answers. -/
import Derived.Test.YthedafjbhnibnaaC2
namespace Go.Proofs.Ythedafjbhnibnaa
open Go.Rd Go.RowKit
set_option linter.unusedVariables false
set_option linter.unusedSimpArgs false

def sB (s : ByteArray) : List Int := s.data.toList.map fun b => (b.toNat : Int)
theorem sB_length (s : ByteArray) : (sB s).length = s.size := by simp [sB]
theorem sB_bytes (s : ByteArray) : Bytes (sB s) := by
  intro x hx
  obtain ⟨b, _, rfl⟩ := List.mem_map.1 hx
  have := b.toNat_lt
  omega
theorem sB_at {s : ByteArray} {i : Nat} (h : i < s.size) : (sB s)[i]? = some (btAt s (i : Int)) := by
  have h' : i < s.data.size := h
  have e : s.data[i]? = some s.data[i] := Array.getElem?_eq_getElem h'
  simp [sB, btAt, e]
theorem sB_of {xs : List Int} (h : Bytes xs) : sB (ofBytes xs) = xs := by
  unfold sB ofBytes
  simp only [List.map_map]
  rw [show (xs.map ((fun b : UInt8 => (b.toNat : Int)) ∘ fun x => UInt8.ofNat x.toNat)) = xs.map id from List.map_congr_left fun x hx => by
    have := h x hx
    simp only [Function.comp, id, UInt8.toNat_ofNat']
    omega]
  simp
theorem of_sB (s : ByteArray) : ofBytes (sB s) = s := by
  cases s with
  | mk d =>
    simp only [ofBytes, sB, List.map_map]
    congr 1
    apply Array.ext'
    simp only []
    rw [show (d.toList.map ((fun x : Int => UInt8.ofNat x.toNat) ∘ fun b : UInt8 => (b.toNat : Int))) = d.toList.map id from List.map_congr_left fun b _ => by
      simp only [Function.comp, id, Int.toNat_natCast, UInt8.ofNat_toNat]]
    simp

theorem unhex_odd : ∀ {l : List Int}, l.length % 2 = 1 → unhex l = none
  | [], h => by simp at h
  | [_], _ => rfl
  | a :: b :: r, h => by
    rw [unhex, unhex_odd (l := r) (by simp at h; omega)]
    split <;> rfl

/-- What Unhex tells. -/
def UnhexOf (w : World) (l : List Int) (v : Value) (w' : World) : Prop :=
  match unhex l with
  | some xs => ∃ A c, v = .tuple #[.slice A xs.length c, .bool true] ∧ OBytes w' A c xs ∧ (∀ k, blk A k → w.heap.size ≤ k) ∧ Ext w w'
  | none => v = .tuple #[.slice none 0 0, .bool false] ∧ Ext w w'

theorem UnhexOf.yes {w w' : World} {l xs : List Int} {A : Option Addr} {c : Nat} (h : unhex l = some xs) (hO : OBytes w' A c xs) (hb : ∀ k, blk A k → w.heap.size ≤ k) (hx : Ext w w') :
    UnhexOf w l (.tuple #[.slice A xs.length c, .bool true]) w' := by
  unfold UnhexOf; rw [h]; exact ⟨A, c, rfl, hO, hb, hx⟩
theorem UnhexOf.no {w w' : World} {l : List Int} (h : unhex l = none) (hx : Ext w w') : UnhexOf w l (.tuple #[.slice none 0 0, .bool false]) w' := by
  unfold UnhexOf; rw [h]; exact ⟨rfl, hx⟩

theorem drop_two {l : List Int} {i : Nat} {a b : Int} (ha : l[i]? = some a) (hb : l[i + 1]? = some b) : l.drop i = a :: b :: l.drop (i + 2) := by
  obtain ⟨h1, e1⟩ := List.getElem?_eq_some_iff.1 ha
  obtain ⟨h2, e2⟩ := List.getElem?_eq_some_iff.1 hb
  rw [List.drop_eq_getElem_cons h1, List.drop_eq_getElem_cons h2, e1, e2]

theorem unhex_step {l acc : List Int} {i : Nat} {a b : Int} (ha : l[i]? = some a) (hb : l[i + 1]? = some b) (hi : unhex l = (unhex (l.drop i)).map (acc ++ ·)) :
    (digV a < 0 ∨ digV b < 0 → unhex l = none) ∧ (¬ (digV a < 0 ∨ digV b < 0) → unhex l = (unhex (l.drop (i + 2))).map ((acc ++ [16 * digV a + digV b]) ++ ·)) := by
  rw [drop_two ha hb, unhex] at hi
  refine ⟨fun h => ?_, fun h => ?_⟩
  · rw [if_pos h] at hi; exact hi
  · rw [if_neg h] at hi
    rw [hi]
    cases unhex (l.drop (i + 2)) <;> simp

/-- One byte is appended. -/
theorem byte_step {w w1 : World} {O : Option Addr} {oc : Nat} {ys : List Int} {b : Int} (hO : OBytes w O oc ys)
    (h1 : w1.heap[w.heap.size]? = some (.cells #[.int .u8 b] 5 (0, 0))) (x1 : Ext w w1) (hn : ys.length + 1 ≤ 140737488355328) :
    ∃ O' oc' w2, (Builtin.append_ #[22, 22] 22 #[.slice O ys.length oc, .slice (some (newA w)) 1 1]).run Try.prog w1 = .ok (.slice O' (ys ++ [b]).length oc') w2 ∧
      OBytes w2 O' oc' (ys ++ [b]) ∧ Keep (blk O) w1 w2 ∧ (∀ k, blk O' k → blk O k ∨ w1.heap.size ≤ k) := by
  have hB : RdC w1 (some (newA w)) ([b].map (Value.int .u8)) := by
    have : Own 5 1 w1 (some (newA w)) 1 ([b].map (Value.int .u8)) := .inr ⟨_, [], rfl, h1, rfl⟩
    exact this.cells
  obtain ⟨O', oc', w2, hr, hO', hc', hk, hb⟩ := append_own slBytes (ty := 22) (d := 1) (hO.ext x1) (n := ys.length) (by simp) hB (m := 1) rfl (cellsBytes _) (by omega) (by omega)
  refine ⟨O', oc', w2, by simpa using hr, by rw [OBytes, List.map_append]; exact hO', hk, hb⟩

theorem unhex_spec {w : World} {s : ByteArray} (hs : s.size ≤ 140737488351232) : Run Try.prog 26 #[.string s] w (UnhexOf w (sB s)) := by
  have hl := sB_length s
  have loop : ∀ (d i : Nat), s.size - i = d → i ≤ s.size → (s.size - i) % 2 = 0 → ∀ (w' : World) (O : Option Addr) (oc : Nat) (acc : List Int), Ext w w' → OBytes w' O oc acc → (∀ k, blk O k → w.heap.size ≤ k) → acc.length ≤ i →
      unhex (sB s) = (unhex ((sB s).drop i)).map (acc ++ ·) → word_Unhex.L0 (UnhexOf w (sB s)) s O acc.length oc i w' := by
    intro d
    induction d using Nat.strongRecOn with
    | _ d ih =>
      intro i hd hi hev w' O oc acc hw hO hb hac hu
      by_cases hlt : i < s.size
      · have hlt2 : i + 1 < s.size := by omega
        have ga := sB_at hlt
        have gb := sB_at hlt2
        have ba := sB_bytes s _ (List.mem_of_getElem? ga)
        have bb := sB_bytes s _ (List.mem_of_getElem? gb)
        have e1 : IntKind.i64.wrap ((i : Int) + 1) = ((i + 1 : Nat) : Int) := by rw [wrap_i64 (by omega) (by omega)]; rfl
        obtain ⟨st1, st2⟩ := unhex_step ga gb hu
        refine word_Unhex.L0_step ?_
        rw [word_Unhex.B0, e1]
        refine ifP_yes (by omega) (letD fun w1 h1 x1 => ⟨by omega, by omega, by omega, by omega, (digit_spec ba.1 ba.2).mono ?_⟩)
        rintro v w2 ⟨rfl, rfl⟩
        refine ⟨_, rfl, (digit_spec bb.1 bb.2).mono ?_⟩
        rintro v w3 ⟨rfl, rfl⟩
        refine ⟨_, rfl, ?_⟩
        have bad : digV (btAt s (i : Int)) < 0 ∨ digV (btAt s ((i + 1 : Nat) : Int)) < 0 → word_Unhex.J1 (UnhexOf w (sB s)) s O acc.length oc i (digV (btAt s (i : Int))) (digV (btAt s ((i + 1 : Nat) : Int))) true w3 :=
          fun h => UnhexOf.no (st1 h) (hw.trans x1)
        refine ifP_dec (fun h => bad (.inl h)) (fun h => ?_)
        refine ifP_of (fun h2 => ?_) (fun h2 => letA fun w4 h4 x4 s4 => ?_)
        · exact UnhexOf.no (st1 (.inr (of_decide_eq_true h2))) (hw.trans x1)
        · have h2 := of_decide_eq_false h2
          have va := digV_lt (btAt s (i : Int))
          have vb := digV_lt (btAt s ((i + 1 : Nat) : Int))
          rw [or_pair (by omega) va (by omega) vb] at h4
          obtain ⟨O', oc', w5, hr, hO', hk, hb'⟩ := byte_step (hO.ext x1) h4 x4 (by omega)
          refine ⟨_, w5, hr, _, _, _, rfl, ?_⟩
          rw [wrap_i64 (by omega) (by omega)]
          refine ih (s.size - (i + 2)) (by omega) (i + 2) rfl (by omega) (by omega) w5 O' oc' _ (((hw.trans x1).trans x4).fresh hk hb) hO' (fun k hk' => ?_) (by simp; omega) (st2 (by omega))
          rcases hb' k hk' with h | h
          · exact hb k h
          · have := ((hw.trans x1).trans x4).size; omega
      · have hie : i = s.size := by omega
        have hnil : (sB s).drop i = [] := List.drop_eq_nil_iff.2 (by omega)
        rw [hnil] at hu
        refine word_Unhex.L0_step (ifP_no (by omega) ?_)
        exact UnhexOf.yes (by simpa [unhex] using hu) hO hb hw
  refine word_Unhex.ok (ifP_bne.2 ⟨fun h => ?_, fun h => ?_⟩)
  · rw [tmod_pos (by omega)] at h
    exact UnhexOf.no (unhex_odd (by omega)) (Ext.refl w)
  · rw [tmod_pos (by omega)] at h
    have e : IntKind.i64.wrap (Int.tdiv (s.size : Int) 2) = ((s.size / 2 : Nat) : Int) := by rw [tdiv_pos (by omega), wrap_i64 (by omega) (by omega)]; omega
    rw [e]
    obtain ⟨w2, hr, hO, hx2, hs2⟩ := make_zero slBytes (w := w) (c := ((s.size / 2 : Nat) : Int)) (by omega) (by omega) (by omega)
    refine ⟨_, w2, hr, _, _, _, rfl, loop s.size 0 (by omega) (by omega) (by omega) w2 _ _ [] hx2 hO (fun k hk => by rw [blk_some.1 hk]; exact Nat.le_refl _) (by simp) ?_⟩
    rw [List.drop_zero]
    cases unhex (sB s) <;> simp

theorem runhex_spec {w : World} {s : ByteArray} (hs : s.size ≤ 140737488351232) : Run Try.prog 27 #[.string s] w (UnhexOf w (sB s)) := by
  have hl := sB_length s
  have loop : ∀ (d i : Nat), s.size - i = d → i ≤ s.size → (s.size - i) % 2 = 0 → ∀ (w' : World) (O : Option Addr) (oc : Nat) (acc : List Int), Ext w w' → OBytes w' O oc acc → (∀ k, blk O k → w.heap.size ≤ k) → acc.length ≤ i →
      unhex (sB s) = (unhex ((sB s).drop i)).map (acc ++ ·) → ref1_Unhex.L0 (UnhexOf w (sB s)) s O acc.length oc i w' := by
    intro d
    induction d using Nat.strongRecOn with
    | _ d ih =>
      intro i hd hi hev w' O oc acc hw hO hb hac hu
      by_cases hlt : i < s.size
      · have hlt2 : i + 1 < s.size := by omega
        have ga := sB_at hlt
        have gb := sB_at hlt2
        have ba := sB_bytes s _ (List.mem_of_getElem? ga)
        have bb := sB_bytes s _ (List.mem_of_getElem? gb)
        have e1 : IntKind.i64.wrap ((i : Int) + 1) = ((i + 1 : Nat) : Int) := by rw [wrap_i64 (by omega) (by omega)]; rfl
        obtain ⟨st1, st2⟩ := unhex_step ga gb hu
        refine ref1_Unhex.L0_step ?_
        rw [ref1_Unhex.B0, e1]
        refine ifP_yes (by omega) (letD fun w1 h1 x1 => ⟨by omega, by omega, by omega, by omega, (rdigit_spec ba.1 ba.2).mono ?_⟩)
        rintro v w2 ⟨rfl, rfl⟩
        refine ⟨_, rfl, (rdigit_spec bb.1 bb.2).mono ?_⟩
        rintro v w3 ⟨rfl, rfl⟩
        refine ⟨_, rfl, ?_⟩
        have bad : digV (btAt s (i : Int)) < 0 ∨ digV (btAt s ((i + 1 : Nat) : Int)) < 0 → ref1_Unhex.J1 (UnhexOf w (sB s)) s O acc.length oc i (digV (btAt s (i : Int))) (digV (btAt s ((i + 1 : Nat) : Int))) true w3 :=
          fun h => UnhexOf.no (st1 h) (hw.trans x1)
        refine ifP_dec (fun h => bad (.inl h)) (fun h => ?_)
        refine ifP_of (fun h2 => ?_) (fun h2 => letA fun w4 h4 x4 s4 => ?_)
        · exact UnhexOf.no (st1 (.inr (of_decide_eq_true h2))) (hw.trans x1)
        · have h2 := of_decide_eq_false h2
          have va := digV_lt (btAt s (i : Int))
          have vb := digV_lt (btAt s ((i + 1 : Nat) : Int))
          rw [wrap_i64 (x := 16 * digV (btAt s (i : Int))) (by omega) (by omega), wrap_i64 (by omega) (by omega), wrap_u8 (by omega) (by omega)] at h4
          obtain ⟨O', oc', w5, hr, hO', hk, hb'⟩ := byte_step (hO.ext x1) h4 x4 (by omega)
          refine ⟨_, w5, hr, _, _, _, rfl, ?_⟩
          rw [wrap_i64 (by omega) (by omega)]
          refine ih (s.size - (i + 2)) (by omega) (i + 2) rfl (by omega) (by omega) w5 O' oc' _ (((hw.trans x1).trans x4).fresh hk hb) hO' (fun k hk' => ?_) (by simp; omega) (st2 (by omega))
          rcases hb' k hk' with h | h
          · exact hb k h
          · have := ((hw.trans x1).trans x4).size; omega
      · have hie : i = s.size := by omega
        have hnil : (sB s).drop i = [] := List.drop_eq_nil_iff.2 (by omega)
        rw [hnil] at hu
        refine ref1_Unhex.L0_step (ifP_no (by omega) ?_)
        exact UnhexOf.yes (by simpa [unhex] using hu) hO hb hw
  refine ref1_Unhex.ok (ifP_bne.2 ⟨fun h => ?_, fun h => ?_⟩)
  · rw [tmod_pos (by omega)] at h
    exact UnhexOf.no (unhex_odd (by omega)) (Ext.refl w)
  · rw [tmod_pos (by omega)] at h
    refine loop s.size 0 (by omega) (by omega) (by omega) w none 0 [] (Ext.refl w) Own.empty (fun k hk => (blk_none hk).elim) (by simp) ?_
    rw [List.drop_zero]
    cases unhex (sB s) <;> simp

/-! ## What every program answers -/

theorem lit_bytes {w w1 : World} {xs : List Int} {cs : Array Value} (h : w1.heap[w.heap.size]? = some (.cells cs 5 (0, 0))) (hx : cs = (xs.map (Value.int .u8)).toArray) : OBytes w1 (some (newA w)) xs.length xs :=
  .inr ⟨_, [], rfl, by rw [h, hx]; simp, by simp⟩

def Good (W : World) (v : Value) (w' : World) : Prop := v = .bool true ∧ Fr W w'

theorem awake_spec {w : World} : Run Try.prog 14 #[] w fun v w' => v = .bool true ∧ Ext w w' := by
  refine law1_awake.ok (letA fun w1 h1 x1 s1 => ?_)
  have o1 := lit_bytes (xs := [1, 2, 3]) h1 rfl
  refine (get_spec (o1.rd rfl) (by simp) (by simp)).mono ?_
  rintro v w2 ⟨rfl, rfl⟩
  have g1 : fitsB (([1, 2, 3] : List Int).length : Nat) 1 2 = true := by decide
  have g2 : getV [1, 2, 3] 1 2 = 515 := by decide +kernel
  refine ⟨515, true, by rw [if_pos g1, g2], letA fun w3 h3 x3 s3 => ?_⟩
  have o3 := lit_bytes (xs := [0, 0]) h3 rfl
  refine (put_spec (o3.rd rfl) (by simp)).mono ?_
  intro v w4 hp
  have hf : fitsB (([0, 0] : List Int).length : Nat) 1 1 = true := by decide
  obtain ⟨A4, c4, rfl, o4, l4, b4, x4⟩ : ∃ A c, v = .tuple #[.slice A 2 c, .bool true] ∧ OBytes w4 A c (putL (1 : Int).toNat [0, 0] (1 : Int).toNat 511) ∧ [0, 0].length = 2 ∧ (∀ k, blk A k → w3.heap.size ≤ k) ∧ Ext w3 w4 := by
    have := hp
    unfold PutOf at this
    rw [if_pos hf] at this
    exact this
  have e4 : putL (1 : Int).toNat [0, 0] (1 : Int).toNat 511 = [0, 255] := by decide
  rw [e4] at o4
  refine ⟨_, _, _, _, rfl, (unhex_spec (by decide)).mono ?_⟩
  intro v w5 hu
  have e5 : unhex (sB (ByteArray.mk #[48, 48, 102, 102])) = some [0, 255] := by decide +kernel
  unfold UnhexOf at hu
  rw [e5] at hu
  obtain ⟨A5, c5, rfl, o5, b5, x5⟩ := hu
  refine ⟨_, _, _, _, rfl, ifP_t rfl (ifP_eq rfl (ifP_t rfl (letA fun w6 h6 x6 s6 => ?_)))⟩
  have o6 := lit_bytes (xs := [0, 255]) h6 rfl
  refine (sameBytes_spec (((o4.ext x5).ext x6).rd rfl) (o6.rd rfl) (by simp)).mono ?_
  rintro v w7 ⟨rfl, x7⟩
  refine ⟨_, rfl, ifP_t (by simp) (ifP_t rfl (letA fun w8 h8 x8 s8 => ?_))⟩
  have o8 := lit_bytes (xs := [0, 255]) h8 rfl
  have o5 := ((o5.ext x6).ext x7).ext x8
  refine (sameBytes_spec (o5.rd rfl) (o8.rd rfl) (by simp)).mono ?_
  rintro v w9 ⟨rfl, x9⟩
  have o5 := o5.ext x9
  refine ⟨_, rfl, ifP_t (by simp) ((hex_spec (o5.rd rfl) (by decide) (by decide)).mono ?_)⟩
  rintro v w10 ⟨rfl, x10⟩
  have e10 : ofBytes (hexL [0, 255]) = ByteArray.mk #[48, 48, 102, 102] := by decide +kernel
  refine ⟨_, rfl, ifP_t (by rw [e10]; simp) (letA fun w11 h11 x11 s11 => ?_)⟩
  have o11 : OWords w11 (some (newA w10)) 2 [1, 2] := .inr ⟨_, [], rfl, h11, rfl⟩
  refine (sum_spec (o11.rd rfl) (by simp [Words]) (by simp)).mono ?_
  rintro v w12 ⟨rfl, rfl⟩
  refine ⟨_, rfl, ifP_eq (by decide) (letA fun w13 h13 x13 s13 => letA fun w14 h14 x14 s14 => letA fun w15 h15 x15 s15 => ?_)⟩
  have o13 : OBytes w15 (some (newA w12)) 1 [1] := ((lit_bytes (xs := [1]) h13 rfl).ext x14).ext x15
  have o14 : OBytes w15 (some (newA w13)) 1 [2] := (lit_bytes (xs := [2]) h14 rfl).ext x15
  have hr : Rd Part.v w15 (some (newA w14)) 2 [Part.mk (some (newA w12)) 1 1 [1], Part.mk (some (newA w13)) 1 1 [2]] := Rd.block h15 fun i x hx => by
    match i with
    | 0 => simp at hx; subst hx; rfl
    | 1 => simp at hx; subst hx; rfl
    | i + 2 => simp at hx
  refine (join_spec hr (by omega) (by simp; exact ⟨o13.rd rfl, o14.rd rfl⟩) (by simp [total])).mono ?_
  rintro v w16 ⟨A16, c16, rfl, o16, l16, b16, x16⟩
  refine ⟨_, _, _, rfl, by simp [total], ?_⟩
  exact ((((((((((((x1.trans x3).trans x4).trans x5).trans x6).trans x7).trans x8).trans x9).trans x10).trans x11).trans x13).trans x14).trans x15).trans x16

end Go.Proofs.Ythedafjbhnibnaa
