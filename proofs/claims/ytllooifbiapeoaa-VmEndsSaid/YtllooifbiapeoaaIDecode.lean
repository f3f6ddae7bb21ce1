/- Package insn: Decode: what it computes. -/
import Derived.Test.YtllooifbiapeoaaWGet
import Derived.Test.YtllooifbiapeoaaHInsns
import Derived.Test.YtllooifbiapeoaaDec
namespace Go.Proofs.Ytllooifbiapeoaa
open Go.Rd Go.RowKit
set_option linter.unusedVariables false
set_option linter.unusedSimpArgs false

theorem decode_loop {W : World} {A : Option Addr} {n c : Nat} {xs : List Int} {R : Value → World → Prop} (h : IBytes W A n xs) (hc : n ≤ c) (hn : n ≤ 32768) (h8 : n % 8 = 0)
    (hR : ∀ O oc w, OInsns w O oc (decL xs (n / 8)) → (∀ k, blk O k → W.heap.size ≤ k) → Ext W w → R (.tuple #[.slice O (n / 8) oc, .int .i64 0]) w) :
    ∀ (d i : Nat), n / 8 - i = d → i ≤ n / 8 → ∀ O oc w, OInsns w O oc (decL xs i) → (∀ k, blk O k → W.heap.size ≤ k) → Ext W w → insn_Decode.L0 R A n c O i oc ((8 * i : Nat) : Int) w := by
  intro d
  induction d with
  | zero =>
    intro i hd hi O oc w o b x
    have : i = n / 8 := by omega
    subst this
    exact insn_Decode.L0_step (ifP_no (by omega) (hR O oc w o b x))
  | succ d ih =>
    intro i hd hi O oc w o b x
    have hlt : 8 * i + 8 ≤ n := by omega
    have f1 : fitsB n ((8 * i : Nat) : Int) 2 = true := fitsB_iff.2 ⟨by omega, by omega, by omega⟩
    have f2 : fitsB n ((8 * i + 4 : Nat) : Int) 4 = true := fitsB_iff.2 ⟨by omega, by omega, by omega⟩
    refine insn_Decode.L0_step (ifP_yes (by omega) ((get_spec (h.ext x) hc (by omega)).mono ?_))
    rintro v w1 ⟨rfl, rfl⟩
    rw [if_pos f1, show IntKind.i64.wrap (((8 * i : Nat) : Int) + 4) = ((8 * i + 4 : Nat) : Int) by rw [wrap_i64 (by omega) (by omega)]; rfl]
    refine ⟨_, _, rfl, (get_spec (h.ext x) hc (by omega)).mono ?_⟩
    rintro v w2 ⟨rfl, rfl⟩
    rw [if_pos f2, show IntKind.i64.wrap (((8 * i : Nat) : Int) + 2) = ((8 * i + 2 : Nat) : Int) by rw [wrap_i64 (by omega) (by omega)]; rfl,
      show IntKind.i64.wrap (((8 * i : Nat) : Int) + 3) = ((8 * i + 3 : Nat) : Int) by rw [wrap_i64 (by omega) (by omega)]; rfl]
    obtain ⟨a, rfl, _⟩ := h.at (i := 8 * i) (by omega)
    have rd : ∀ j, j < n → ∀ u : World, IBytes u (some a) n xs → u.cell? (a.add (Int.toNat (j : Int) * 1)) = some (.int .u8 (xs.getD j 0)) := by
      intro j hj u hu
      obtain ⟨a', ha, hc⟩ := hu.at hj
      obtain rfl := Option.some.inj ha
      have e : xs.getD j 0 = xs[j]'(by rw [hu.len]; exact hj) := by
        rw [List.getD_eq_getElem?_getD, List.getElem?_eq_getElem (by rw [hu.len]; exact hj)]; rfl
      rw [e]
      exact hc
    refine ⟨_, _, rfl, fun u => IBytes u (some a) n xs, (h.ext x).ext (Ext.drew _), letD fun w3 h3 x3 => ⟨by omega, by omega, a, rfl, _, rd (8 * i + 2) (by omega), by omega, by omega, a, rfl, _, rd (8 * i + 3) (by omega), letA fun w4 h4 x4 s4 => ?_⟩⟩
    have hB : RdC w4 (some (newA w3)) (decAt xs (8 * i)).v := by
      have : Own 45 4 w4 (some (newA w3)) 1 (decAt xs (8 * i)).v := .inr ⟨_, [], rfl, h4, rfl⟩
      exact this.cells
    obtain ⟨O', oc', w5, hr, o5, hc5, hk, hb⟩ := append_own slInsns (ty := 22) (n := i) (d := 1) ((o.ext x3).ext x4) (by rw [flat_len Ins.len, decL_length]) hB (m := 1) rfl rfl (by omega) (by omega)
    have x45 := (x3.trans x4).fresh (S := blk O) hk
    have b5 : ∀ k, blk O' k → W.heap.size ≤ k := fun k hk => (hb k hk).elim (b k) fun h => by have := (x.trans (x3.trans x4)).size; omega
    have x5 : Ext W w5 := (x.trans (x3.trans x4)).fresh hk fun k hk => b k hk
    refine ⟨_, w5, hr, _, _, _, rfl, ?_⟩
    show insn_Decode.L0 R _ n c _ _ _ _ _
    rw [show IntKind.i64.wrap (((8 * i : Nat) : Int) + 8) = ((8 * (i + 1) : Nat) : Int) by rw [wrap_i64 (by omega) (by omega)]; omega]
    refine ih (i + 1) (by omega) (by omega) O' oc' w5 ?_ b5 x5
    rw [decL_succ, OInsns, List.flatMap_append]
    simpa using o5

theorem decode_spec {w : World} {A : Option Addr} {n c : Nat} {xs : List Int} (h : IBytes w A n xs) (hc : n ≤ c) (hn : n ≤ 140737488351232) :
    Run Try.prog 27 #[.slice A n c] w (DecOf w n xs) := by
  refine insn_Decode.ok (ifP_bne.2 ⟨fun h8 => ?_, fun h8 => ifP_decide.2 ⟨fun hm => ?_, fun hm => ?_⟩⟩)
  all_goals rw [tmod_pos (by omega)] at h8
  · unfold DecOf
    rw [if_pos (by omega)]
    exact ⟨rfl, rfl⟩
  · unfold DecOf
    rw [if_neg (by omega), if_pos (by omega)]
    exact ⟨rfl, rfl⟩
  · refine decode_loop h hc (by omega) (by omega) (fun O oc w' o b x => ?_) (n / 8) 0 (by omega) (by omega) none 0 w Own.empty (fun k hk => (blk_none hk).elim) (Ext.refl w)
    unfold DecOf
    rw [if_neg (by omega), if_neg (by omega)]
    exact ⟨O, oc, rfl, o, b, x⟩

end Go.Proofs.Ytllooifbiapeoaa
