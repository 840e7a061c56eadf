/- The shelf's contracts at this seat: maps.Keys, slices.Sorted, slices.Sort at string keys. -/
import Derived.Shelf.SlIter.Nil
import Derived.Shelf.SortM.Plain
import Derived.Shelf.SortM.SortNone
import Derived.Test.YtchjncnolmiejaaGreatProg
namespace Go.Proofs
open Go.Shelf
def Tryz.keysNam_ren : Go.Shelf.Ren := ⟨fun | 7 => 121 | 10 => 148 | n => n, fun | 23 => 76 | 26 => 9 | 3 => 3 | 28 => 178 | 0 => 0 | 27 => 177 | 33 => 84 | 4 => 4 | n => n, fun | n => n⟩
def Tryz.sortedStr_ren : Go.Shelf.Ren := ⟨fun | 6 => 120 | 8 => 146 | 9 => 147 | 11 => 162 | 13 => 164 | 12 => 163 | 23 => 179 | 24 => 180 | 14 => 170 | 15 => 171 | 16 => 172 | 17 => 173 | 18 => 174 | 19 => 175 | 20 => 176 | 21 => 177 | 22 => 178 | 25 => 181 | 26 => 182 | 27 => 183 | 28 => 184 | 29 => 185 | 30 => 186 | 31 => 187 | n => n, fun | 26 => 9 | 28 => 178 | 24 => 136 | 0 => 0 | 3 => 3 | 37 => 211 | 48 => 163 | 50 => 158 | 4 => 4 | 40 => 219 | 39 => 218 | 45 => 83 | 5 => 5 | 9 => 9 | 51 => 226 | 55 => 230 | 57 => 232 | 58 => 138 | 33 => 84 | n => n, fun | n => n⟩
def Tryz.sortStr_ren : Go.Shelf.Ren := ⟨fun | 6 => 147 | 8 => 164 | 9 => 163 | 19 => 179 | 20 => 180 | 21 => 170 | 22 => 171 | 23 => 172 | 24 => 173 | 25 => 174 | 26 => 175 | 27 => 176 | 28 => 177 | 29 => 178 | 36 => 181 | 31 => 182 | 32 => 183 | 37 => 184 | 38 => 185 | 39 => 186 | 41 => 187 | n => n, fun | 27 => 136 | 29 => 9 | 3 => 3 | 32 => 211 | 26 => 136 | 0 => 0 | 44 => 163 | 46 => 158 | 4 => 4 | 36 => 219 | 35 => 218 | 41 => 83 | 5 => 5 | 9 => 9 | 53 => 226 | 57 => 230 | 63 => 232 | 64 => 138 | n => n, fun | n => n⟩
end Go.Proofs
