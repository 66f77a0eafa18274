/- Bytes that came in. -/
import Derived.Test.YtdaiondcaecklaaWOps
namespace Go.Proofs.Ytdaiondcaecklaa
set_option linter.unusedVariables false
set_option linter.unusedSimpArgs false
open Go Go.RowKit Go.ChangeShapes Go.WideShapes
theorem bytes_of {zs : List Int} (h : Wfs .u8 zs) : ∃ bs : List UInt8, zs = byI bs := by
  refine ⟨zs.map fun z => UInt8.ofNat z.toNat, ?_⟩
  unfold byI
  rw [List.map_map]
  conv => lhs; rw [← List.map_id zs]
  refine List.map_congr_left fun z hz => ?_
  have := bd_u8 (h z hz)
  simp
  omega
theorem open_bytes {H : Type} {enc : TypeId × Value → H} {P : Program} {w : World} {base b0 : Nat} {spare : Nat → Bool} {held : Bool} {r : Reach} {t e : TypeId} {v : Value} {d : DataW H} {ps : List MemPlace} (ht : P.underlying t = some (.slice e)) (he : P.underlying e = some (.int .u8)) (hc : P.cellsOf e = 1)
    (hval : Value.okWide P w r b0 t v) (h : DataW.Trod enc P w base spare held t v d ps) : ∃ p c bs, v = .slice p bs.length c ∧ NumsAt .u8 w p (byI bs) ∧ (p = none → bs.length = 0 ∧ c = 0) ∧ bs.length ≤ c ∧ c ≤ maxLen := by
  obtain ⟨p, c, zs, rfl, h1, h2, h3, h4, h5, h6⟩ := open_nums ht he hc hval h
  obtain ⟨bs, rfl⟩ := bytes_of h2
  rw [byI_length] at h3 h4 h5
  exact ⟨p, c, bs, by rw [byI_length], h1, h4, h5, h6⟩
end Go.Proofs.Ytdaiondcaecklaa
