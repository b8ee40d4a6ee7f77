/- Merged texts: BodyX. -/
import Derived.Test.YtjekpbkmhgfhoaaGreatDoorPBase29
import Derived.Test.YtjekpbkmhgfhoaaGreatDoorPBase37
section
/- A body among other blocks of a law's own. -/
namespace Go.Proofs.YtjekpbkmhgfhoaaGreatDoor
open Go Go.RowKit
set_option maxRecDepth 100000
set_option linter.unusedSimpArgs false
variable {E : Nat → Addr} {B : Nat}

theorem MapAt.keys {P : Program} {kt : TypeId} {K V : Type} {eK : K → Value} {eV : V → Value} {w : World} {r n : Nat} {g : K → Option V} {t et : TypeId} (h : MapAt P kt eK eV w r g n) (ht : P.underlying t = some (.map kt et)) (hinj : ∀ a b, eK a = eK b → a = b) :
    ∃ ks : List K, KeysOf g ks n := by
  obtain ⟨w', ks, _, h1, h2, h3, _⟩ := h.range ht hinj
  obtain ⟨es, clock, since, seen, c0, _, _, _, _, _, _, _, _, h9, _⟩ := h1
  exact ⟨ks, h9, h2, h3⟩
theorem nodup_len {K : Type} [DecidableEq K] : ∀ {ks L : List K}, ks.Nodup → (∀ k ∈ ks, k ∈ L) → ks.length ≤ L.length
  | [], _, _, _ => Nat.zero_le _
  | k :: ks, L, hn, hs => by
    obtain ⟨h1, h2⟩ := List.nodup_cons.1 hn
    have hk := hs k (List.mem_cons_self ..)
    have h3 := nodup_len (L := L.erase k) h2 fun x hx => (List.mem_erase_of_ne (fun e : x = k => h1 (by rw [← e]; exact hx))).2 (hs x (List.mem_cons_of_mem _ hx))
    rw [List.length_erase_of_mem hk] at h3
    have := List.length_pos_of_mem hk
    simp
    omega
theorem KeysOf.len_eq {K V : Type} {g : K → Option V} {ks : List K} {n : Nat} (h : KeysOf g ks n) {L : List K} (hd : L.Nodup) (hL : ∀ k, k ∈ L ↔ (g k).isSome = true) : ks.length = L.length :=
  ((List.perm_ext_iff_of_nodup h.nodup hd).2 fun k => (h.mem k).trans (hL k).symm).length_eq

theorem SlE.shape {α : Type} {w : World} {base : Nat} {e : TypeId} {k : Nat} {enc : α → List Value} {v : Value} {xs : List α} (h : SlE w base e k enc v xs) : ∃ sp cap, v = .slice sp xs.length cap := by
  rcases h.cases with ⟨rfl, rfl⟩ | ⟨g, cap, rfl, _⟩
  · exact ⟨_, _, rfl⟩
  · exact ⟨_, _, rfl⟩
/-- b is a body (its maps m, d) that has g, with gd dirty; its blocks lie from B on; they, and its blocks' bytes, are none of L. -/
structure BX (B : Nat) (L : List Nat) (w : World) (b m d : Nat) (g : Cl → Option (Option (List Int))) (gd : Cl → Option Int) : Prop where
  hB : B ≤ w.heap.size
  hL : ∀ x ∈ L, x < w.heap.size
  at' : ∃ n k, BodyAt w (fun x => x = b ∨ x = m ∨ x = d ∨ x ∈ L) b m d g gd n k
  own : ∀ x, x = b ∨ x = m ∨ x = d → B ≤ x ∧ x < w.heap.size ∧ x ∉ L

section
variable {L : List Nat} {w w' : World} {b m d : Nat} {g : Cl → Option (Option (List Int))} {gd : Cl → Option Int}
/-- What a turn of the body leaves. -/
def BXOut (B : Nat) (L : List Nat) (b m d : Nat) (g : Cl → Option (Option (List Int))) (gd : Cl → Option Int) (w w' : World) : Prop :=
  BX B L w' b m d g gd ∧ Touch (fun x => x = b ∨ x = m ∨ x = d) w w'
variable {c : Cl}
end

end Go.Proofs.YtjekpbkmhgfhoaaGreatDoor
end
