/- The statement over Hex and Unhex. -/
import Derived.Test.YthedafjbhnibnaaC6
namespace Go.Proofs.Ythedafjbhnibnaa
open Go.Rd Go.RowKit
set_option linter.unusedVariables false
set_option linter.unusedSimpArgs false

theorem UnhexOf.res {w w' : World} {l : List Int} {v : Value} (h : UnhexOf w l v w') :
    ∃ A m c, v = .tuple #[.slice A m c, .bool (unhex l).isSome] ∧ OBytes w' A c ((unhex l).getD []) ∧ ((unhex l).getD []).length = m ∧ (∀ k, blk A k → w.heap.size ≤ k) ∧ Ext w w' := by
  unfold UnhexOf at h
  split at h
  · rename_i xs e
    obtain ⟨A, c, rfl, o, b, x⟩ := h
    rw [e]
    exact ⟨A, _, c, rfl, o, rfl, b, x⟩
  · rename_i e
    obtain ⟨rfl, x⟩ := h
    rw [e]
    exact ⟨none, 0, 0, rfl, Own.empty, rfl, fun k hk => (blk_none hk).elim, x⟩

theorem unhex_short : ∀ {l xs : List Int}, unhex l = some xs → 2 * xs.length = l.length := fun {l xs} h => by
  have := (unhex_hex h).1
  rw [← this, hexL_length]
theorem unhex_len (l : List Int) : 2 * ((unhex l).getD []).length ≤ l.length := by
  cases h : unhex l with
  | none => simp
  | some xs => have := unhex_short h; simp; omega

theorem WordHexes_main {W : World} {A : Option Addr} {n c : Nat} {xs : List Int} {s : ByteArray} (h : IBytes W A n xs) (hx : Bytes xs) (hn : n ≤ 1048576) (hs : s.size ≤ 1048576) :
    Run Try.prog 8 #[.slice A n c, .string s] W (Good W) := by
  have hl := h.len
  have hb : Bytes (hexL xs) := (unhex_hex (hex_unhex hx)).1 ▸ fun x hm => by
    unfold hexL at hm
    obtain ⟨b, hb, hm⟩ := List.mem_flatMap.1 hm
    have := hx b hb
    have d1 : digC (b / 16) = digC ((b / 16).toNat : Int) := by rw [Int.toNat_of_nonneg (by omega)]
    have d2 : digC (b % 16) = digC ((b % 16).toNat : Int) := by rw [Int.toNat_of_nonneg (by omega)]
    have e1 := digC_byte (b / 16).toNat (by omega)
    have e2 := digC_byte (b % 16).toNat (by omega)
    simp only [List.mem_cons, List.not_mem_nil, or_false] at hm
    rcases hm with rfl | rfl
    · rw [d1]; exact e1
    · rw [d2]; exact e2
  have hsz : (ofBytes (hexL xs)).size = 2 * n := by rw [← sB_length, sB_of hb, hexL_length, hl]
  have hun : unhex (sB (ofBytes (hexL xs))) = some xs := by rw [sB_of hb]; exact hex_unhex hx
  have hsl := unhex_len (sB s)
  rw [sB_length] at hsl
  refine law1_WordHexes.ok ((lendBytes_spec h (by omega)).mono ?_)
  rintro v w1 ⟨A1, c1, rfl, o1, b1, x1⟩
  have f1 := (Fr.refl W).ext x1
  refine ⟨A1, _, c1, rfl, (hex_spec (lent_reads o1 hl) hx (by omega)).mono ?_⟩
  rintro v w2 ⟨rfl, x2⟩
  have f2 := f1.ext x2
  refine ⟨_, rfl, (keptBytes_spec (o1.ext x2) (h.fr f2) (by omega)).mono ?_⟩
  rintro v w3 ⟨rfl, k3⟩
  have f3 := f2.blk k3 fun k hk => b1 k hk
  refine ⟨_, rfl, ifP_f rfl ((rhex_spec (h.fr f3) hx (by omega)).mono ?_)⟩
  rintro v w4 ⟨rfl, x4⟩
  have f4 := f3.ext x4
  refine ⟨_, rfl, ifP_f (by simp) ?_⟩
  have e : (((ofBytes (hexL xs)).size : Nat) : Int) = IntKind.i64.wrap (2 * (n : Int)) := by rw [wrap_i64 (by omega) (by omega), hsz]; omega
  rw [e]
  refine ifP_f (by simp) ((unhex_spec (by omega)).mono ?_)
  intro v w5 u5
  obtain ⟨A5, n5, c5, rfl, o5, l5, b5, x5⟩ := u5.res
  rw [hun] at o5 l5 ⊢
  have f5 := f4.ext x5
  refine ⟨A5, _, c5, _, rfl, (unhex_spec (by omega)).mono ?_⟩
  intro v w6 u6
  obtain ⟨A6, n6, c6, rfl, o6, l6, b6, x6⟩ := u6.res
  rw [hun] at o6 l6 ⊢
  have f6 := f5.ext x6
  have l5 : xs.length = n5 := l5
  have l6 : xs.length = n6 := l6
  refine ⟨A6, _, c6, _, rfl, ifP_f rfl (ifP_f rfl ((sameBytes_spec ((o5.ext x6).rd l5) (h.fr f6) (by omega)).mono ?_))⟩
  rintro v w7 ⟨rfl, x7⟩
  have f7 := f6.ext x7
  refine ⟨_, rfl, ifP_f (by simp) ((spoilBytes_spec ((o5.ext x6).ext x7) (by rw [List.length_map]; exact l5) (by omega)).mono ?_)⟩
  rintro v w8 ⟨rfl, k8⟩
  have L5 := o5.lt
  have f8 := f7.blk k8 fun k hk => by have := b5 k hk; have := f4.size; omega
  have o6 := (o6.ext x7).keep k8 fun k hk hk2 => by have := b6 k hk; have := L5 k hk2; omega
  refine ⟨rfl, (unhex_spec (by omega)).mono ?_⟩
  intro v w9 u9
  obtain ⟨A9, n9, c9, rfl, o9, l9, b9, x9⟩ := u9.res
  have f9 := f8.ext x9
  refine ⟨A9, _, c9, _, rfl, (runhex_spec (by omega)).mono ?_⟩
  intro v w10 u10
  obtain ⟨A10, n10, c10, rfl, o10, l10, b10, x10⟩ := u10.res
  have f10 := f9.ext x10
  refine ⟨A10, _, c10, _, rfl, (sameBytes_spec (((o6.ext x9).ext x10).rd l6) (h.fr f10) (by omega)).mono ?_⟩
  rintro v w11 ⟨rfl, x11⟩
  have f11 := f10.ext x11
  refine ⟨_, rfl, ifP_t (by simp) (ifP_t (by simp) ((sameBytes_spec (((o9.ext x10).ext x11).rd l9) ((o10.ext x11).rd l10) (by omega)).mono ?_))⟩
  rintro v w12 ⟨rfl, x12⟩
  have f12 := f11.ext x12
  refine ⟨_, rfl, ifP_t (by simp) ?_⟩
  have last : ∀ w, Fr W w → Run Try.prog 14 #[] w fun v_8 w_9 => ∃ t95_2 : Bool, v_8 = (.bool t95_2) ∧ law1_WordHexes.J2 (Good W) t95_2 w_9 := by
    intro w f
    refine awake_spec.mono ?_
    rintro v w' ⟨rfl, x⟩
    exact ⟨_, rfl, rfl, f.ext x⟩
  cases hz : unhex (sB s) with
  | none => exact ifP_t rfl (last w12 f12)
  | some zs =>
    rw [hz] at o9 l9
    obtain ⟨he, hbz⟩ := unhex_hex hz
    have hzl := unhex_short hz
    rw [sB_length] at hzl
    refine ifP_f rfl ((hex_spec ((((o9.ext x10).ext x11).ext x12).rd l9) hbz (by have : zs.length = n9 := l9; omega)).mono ?_)
    rintro v w13 ⟨rfl, x13⟩
    refine ⟨_, rfl, ifP_t ?_ (last w13 (f12.ext x13))⟩
    have e2 : ofBytes (hexL zs) = s := by rw [he, of_sB]
    show (_ == _) = true
    simp only [Option.getD_some, e2]
    simp
end Go.Proofs.Ythedafjbhnibnaa
