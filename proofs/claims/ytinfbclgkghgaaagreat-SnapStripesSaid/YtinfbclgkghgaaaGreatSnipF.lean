/- A part of the proof. -/
import Derived.Test.YtinfbclgkghgaaaGreatProg
import Derived.Test.YtinfbclgkghgaaaGreatSnipE
open Option.some renaming inj→k0y
open List renaming getElem?_eq_getElem→k0x,getD_eq_getElem?_getD→k0w,getElem?_eq_some_iff→k0u,getElem?_append_right→k0s,getElem?_map→k1q,length_map→k1y,getElem_mem→k1x,length_replicate→k2q,getElem?_set_self→k2y,mem_of_getElem?→k2x,length_take→k2u,take_add_one→k2t,getElem?_set_ne→k3z
open Int renaming toNat_natCast→k0v,natCast_nonneg→k2w
open Nat renaming le_refl→k1w,mul_le_mul_right→k2v
open Bool renaming and_eq_true→k1v
set_option maxRecDepth 20000
namespace Go.Proofs.YtinfbclgkghgaaaGreat.AL
open Go Go.Proofs
def u2k:V4:=fun t=>match t with
 |1=>some ⟨.func,1,8,[.nilFunc]⟩
 |2=>some ⟨.int .i64,1,8,[(.int .i64 0)]⟩
 |3=>some ⟨.int .i64,1,8,[(.int .i64 0)]⟩
 |4=>some ⟨.bool,1,1,[(.bool false)]⟩
 |5=>some ⟨.int .u8,1,1,[(.int .u8 0)]⟩
 |9=>some ⟨.string,1,16,[(.string ⟨#[]⟩)]⟩
 |12=>some ⟨.int .u64,1,8,[(.int .u64 0)]⟩
 |17=>some ⟨.ptr 255,1,8,[(.pointer none)]⟩
 |21=>some ⟨.int .i32,1,4,[(.int .i32 0)]⟩
 |22=>some ⟨.struct [(0,3),(1,3),(2,3),(3,3)],4,32,[(.int .i64 0),(.int .i64 0),(.int .i64 0),(.int .i64 0)]⟩
 |23=>some ⟨.struct [(0,3),(1,3),(2,3),(3,3)],4,32,[(.int .i64 0),(.int .i64 0),(.int .i64 0),(.int .i64 0)]⟩
 |24=>some ⟨.slice 5,1,24,[(.slice none 0 0)]⟩
 |25=>some ⟨.func,1,8,[.nilFunc]⟩
 |26=>some ⟨.func,1,8,[.nilFunc]⟩
 |27=>some ⟨.int .i64,1,8,[(.int .i64 0)]⟩
 |29=>some ⟨.func,1,8,[.nilFunc]⟩
 |_=>none
def u2m:V4:=fun t=>match t with
 |30=>some ⟨.slice 35,1,24,[(.slice none 0 0)]⟩
 |32=>some ⟨.func,1,8,[.nilFunc]⟩
 |33=>some ⟨.func,1,8,[.nilFunc]⟩
 |34=>some ⟨.struct [(0,3),(1,24)],2,32,[(.int .i64 0),(.slice none 0 0)]⟩
 |35=>some ⟨.struct [(0,3),(1,24)],2,32,[(.int .i64 0),(.slice none 0 0)]⟩
 |36=>some ⟨.func,1,8,[.nilFunc]⟩
 |37=>some ⟨.slice 24,1,24,[(.slice none 0 0)]⟩
 |39=>some ⟨.func,1,8,[.nilFunc]⟩
 |40=>some ⟨.func,1,8,[.nilFunc]⟩
 |41=>some ⟨.func,1,8,[.nilFunc]⟩
 |42=>some ⟨.slice 4,1,24,[(.slice none 0 0)]⟩
 |43=>some ⟨.array 4 5,4,4,[(.int .u8 0),(.int .u8 0),(.int .u8 0),(.int .u8 0)]⟩
 |44=>some ⟨.struct [(0,3),(1,3),(2,3),(3,3),(4,3),(5,43)],9,48,[(.int .i64 0),(.int .i64 0),(.int .i64 0),(.int .i64 0),(.int .i64 0),(.int .u8 0),(.int .u8 0),(.int .u8 0),(.int .u8 0)]⟩
 |45=>some ⟨.struct [(0,3),(1,3),(2,3),(3,3),(4,3),(5,43)],9,48,[(.int .i64 0),(.int .i64 0),(.int .i64 0),(.int .i64 0),(.int .i64 0),(.int .u8 0),(.int .u8 0),(.int .u8 0),(.int .u8 0)]⟩
 |46=>some ⟨.ptr 116,1,8,[(.pointer none)]⟩
 |47=>some ⟨.func,1,8,[.nilFunc]⟩
 |_=>none
def u2n:V4:=fun t=>match t with
 |48=>some ⟨.func,1,8,[.nilFunc]⟩
 |49=>some ⟨.func,1,8,[.nilFunc]⟩
 |51=>some ⟨.func,1,8,[.nilFunc]⟩
 |52=>some ⟨.func,1,8,[.nilFunc]⟩
 |53=>some ⟨.slice 3,1,24,[(.slice none 0 0)]⟩
 |54=>some ⟨.func,1,8,[.nilFunc]⟩
 |55=>some ⟨.func,1,8,[.nilFunc]⟩
 |56=>some ⟨.func,1,8,[.nilFunc]⟩
 |57=>some ⟨.func,1,8,[.nilFunc]⟩
 |58=>some ⟨.func,1,8,[.nilFunc]⟩
 |59=>some ⟨.func,1,8,[.nilFunc]⟩
 |60=>some ⟨.struct [(0,3),(1,3),(2,3),(3,3),(4,3),(5,3),(6,24)],7,72,[(.int .i64 0),(.int .i64 0),(.int .i64 0),(.int .i64 0),(.int .i64 0),(.int .i64 0),(.slice none 0 0)]⟩
 |61=>some ⟨.struct [(0,3),(1,3),(2,3),(3,3),(4,3),(5,3),(6,24)],7,72,[(.int .i64 0),(.int .i64 0),(.int .i64 0),(.int .i64 0),(.int .i64 0),(.int .i64 0),(.slice none 0 0)]⟩
 |62=>some ⟨.func,1,8,[.nilFunc]⟩
 |64=>some ⟨.func,1,8,[.nilFunc]⟩
 |65=>some ⟨.func,1,8,[.nilFunc]⟩
 |_=>none
def u2p:V4:=fun t=>match t with
 |66=>some ⟨.func,1,8,[.nilFunc]⟩
 |67=>some ⟨.func,1,8,[.nilFunc]⟩
 |68=>some ⟨.func,1,8,[.nilFunc]⟩
 |69=>some ⟨.struct [(0,37),(1,3),(2,3),(3,3)],4,48,[(.slice none 0 0),(.int .i64 0),(.int .i64 0),(.int .i64 0)]⟩
 |70=>some ⟨.struct [(0,37),(1,3),(2,3),(3,3)],4,48,[(.slice none 0 0),(.int .i64 0),(.int .i64 0),(.int .i64 0)]⟩
 |72=>some ⟨.func,1,8,[.nilFunc]⟩
 |73=>some ⟨.func,1,8,[.nilFunc]⟩
 |74=>some ⟨.func,1,8,[.nilFunc]⟩
 |75=>some ⟨.ptr 148,1,8,[(.pointer none)]⟩
 |77=>some ⟨.func,1,8,[.nilFunc]⟩
 |79=>some ⟨.func,1,8,[.nilFunc]⟩
 |81=>some ⟨.func,1,8,[.nilFunc]⟩
 |82=>some ⟨.func,1,8,[.nilFunc]⟩
 |83=>some ⟨.func,1,8,[.nilFunc]⟩
 |84=>some ⟨.func,1,8,[.nilFunc]⟩
 |85=>some ⟨.func,1,8,[.nilFunc]⟩
 |_=>none
def u2q:V4:=fun t=>match t with
 |86=>some ⟨.func,1,8,[.nilFunc]⟩
 |87=>some ⟨.func,1,8,[.nilFunc]⟩
 |89=>some ⟨.func,1,8,[.nilFunc]⟩
 |90=>some ⟨.func,1,8,[.nilFunc]⟩
 |91=>some ⟨.slice 37,1,24,[(.slice none 0 0)]⟩
 |92=>some ⟨.func,1,8,[.nilFunc]⟩
 |93=>some ⟨.func,1,8,[.nilFunc]⟩
 |94=>some ⟨.func,1,8,[.nilFunc]⟩
 |95=>some ⟨.func,1,8,[.nilFunc]⟩
 |96=>some ⟨.func,1,8,[.nilFunc]⟩
 |97=>some ⟨.func,1,8,[.nilFunc]⟩
 |98=>some ⟨.func,1,8,[.nilFunc]⟩
 |99=>some ⟨.func,1,8,[.nilFunc]⟩
 |100=>some ⟨.func,1,8,[.nilFunc]⟩
 |101=>some ⟨.struct [(0,3),(1,3),(2,3),(3,3),(4,3),(5,24)],6,64,[(.int .i64 0),(.int .i64 0),(.int .i64 0),(.int .i64 0),(.int .i64 0),(.slice none 0 0)]⟩
 |102=>some ⟨.struct [(0,3),(1,3),(2,3),(3,3),(4,3),(5,24)],6,64,[(.int .i64 0),(.int .i64 0),(.int .i64 0),(.int .i64 0),(.int .i64 0),(.slice none 0 0)]⟩
 |_=>none
def u2r:V4:=fun t=>match t with
 |103=>some ⟨.func,1,8,[.nilFunc]⟩
 |105=>some ⟨.func,1,8,[.nilFunc]⟩
 |106=>some ⟨.func,1,8,[.nilFunc]⟩
 |107=>some ⟨.func,1,8,[.nilFunc]⟩
 |108=>some ⟨.func,1,8,[.nilFunc]⟩
 |109=>some ⟨.func,1,8,[.nilFunc]⟩
 |110=>some ⟨.func,1,8,[.nilFunc]⟩
 |111=>some ⟨.map 3 109,1,8,[(.map none)]⟩
 |112=>some ⟨.func,1,8,[.nilFunc]⟩
 |113=>some ⟨.slice 152,1,24,[(.slice none 0 0)]⟩
 |114=>some ⟨.slice 174,1,24,[(.slice none 0 0)]⟩
 |115=>some ⟨.struct [(0,113),(1,114),(2,4),(3,4),(4,3),(5,3)],6,72,[(.slice none 0 0),(.slice none 0 0),(.bool false),(.bool false),(.int .i64 0),(.int .i64 0)]⟩
 |116=>some ⟨.struct [(0,113),(1,114),(2,4),(3,4),(4,3),(5,3)],6,72,[(.slice none 0 0),(.slice none 0 0),(.bool false),(.bool false),(.int .i64 0),(.int .i64 0)]⟩
 |117=>some ⟨.struct [(0,24)],1,24,[(.slice none 0 0)]⟩
 |118=>some ⟨.struct [(0,24)],1,24,[(.slice none 0 0)]⟩
 |119=>some ⟨.func,1,8,[.nilFunc]⟩
 |_=>none
def u2s:V4:=fun t=>match t with
 |120=>some ⟨.func,1,8,[.nilFunc]⟩
 |121=>some ⟨.func,1,8,[.nilFunc]⟩
 |122=>some ⟨.func,1,8,[.nilFunc]⟩
 |123=>some ⟨.func,1,8,[.nilFunc]⟩
 |124=>some ⟨.ptr 188,1,8,[(.pointer none)]⟩
 |125=>some ⟨.func,1,8,[.nilFunc]⟩
 |126=>some ⟨.ptr 3,1,8,[(.pointer none)]⟩
 |127=>some ⟨.slice 126,1,24,[(.slice none 0 0)]⟩
 |128=>some ⟨.func,1,8,[.nilFunc]⟩
 |129=>some ⟨.func,1,8,[.nilFunc]⟩
 |131=>some ⟨.func,1,8,[.nilFunc]⟩
 |133=>some ⟨.func,1,8,[.nilFunc]⟩
 |134=>some ⟨.ptr 137,1,8,[(.pointer none)]⟩
 |135=>some ⟨.array 2 37,2,48,[(.slice none 0 0),(.slice none 0 0)]⟩
 |136=>some ⟨.struct [(0,3),(1,23),(5,135),(7,61),(14,4),(15,3),(16,4)],17,184,[(.int .i64 0),(.int .i64 0),(.int .i64 0),(.int .i64 0),(.int .i64 0),(.slice none 0 0),(.slice none 0 0),(.int .i64 0),(.int .i64 0),(.int .i64 0),(.int .i64 0),(.int .i64 0),(.int .i64 0),(.slice none 0 0),(.bool false),(.int .i64 0),(.bool false)]⟩
 |137=>some ⟨.struct [(0,3),(1,23),(5,135),(7,61),(14,4),(15,3),(16,4)],17,184,[(.int .i64 0),(.int .i64 0),(.int .i64 0),(.int .i64 0),(.int .i64 0),(.slice none 0 0),(.slice none 0 0),(.int .i64 0),(.int .i64 0),(.int .i64 0),(.int .i64 0),(.int .i64 0),(.int .i64 0),(.slice none 0 0),(.bool false),(.int .i64 0),(.bool false)]⟩
 |_=>none
def u2t:V4:=fun t=>match t with
 |138=>some ⟨.func,1,8,[.nilFunc]⟩
 |139=>some ⟨.func,1,8,[.nilFunc]⟩
 |140=>some ⟨.func,1,8,[.nilFunc]⟩
 |141=>some ⟨.slice 61,1,24,[(.slice none 0 0)]⟩
 |142=>some ⟨.func,1,8,[.nilFunc]⟩
 |143=>some ⟨.func,1,8,[.nilFunc]⟩
 |144=>some ⟨.func,1,8,[.nilFunc]⟩
 |145=>some ⟨.func,1,8,[.nilFunc]⟩
 |146=>some ⟨.func,1,8,[.nilFunc]⟩
 |147=>some ⟨.struct [(0,146),(1,3),(2,23),(6,3),(7,3),(8,3),(9,3),(10,3)],11,88,[.nilFunc,(.int .i64 0),(.int .i64 0),(.int .i64 0),(.int .i64 0),(.int .i64 0),(.int .i64 0),(.int .i64 0),(.int .i64 0),(.int .i64 0),(.int .i64 0)]⟩
 |148=>some ⟨.struct [(0,146),(1,3),(2,23),(6,3),(7,3),(8,3),(9,3),(10,3)],11,88,[.nilFunc,(.int .i64 0),(.int .i64 0),(.int .i64 0),(.int .i64 0),(.int .i64 0),(.int .i64 0),(.int .i64 0),(.int .i64 0),(.int .i64 0),(.int .i64 0)]⟩
 |149=>some ⟨.func,1,8,[.nilFunc]⟩
 |150=>some ⟨.func,1,8,[.nilFunc]⟩
 |151=>some ⟨.struct [(0,24),(1,4),(2,3),(3,53)],4,64,[(.slice none 0 0),(.bool false),(.int .i64 0),(.slice none 0 0)]⟩
 |152=>some ⟨.struct [(0,24),(1,4),(2,3),(3,53)],4,64,[(.slice none 0 0),(.bool false),(.int .i64 0),(.slice none 0 0)]⟩
 |153=>some ⟨.func,1,8,[.nilFunc]⟩
 |_=>none
def u2u:V4:=fun t=>match t with
 |154=>some ⟨.func,1,8,[.nilFunc]⟩
 |155=>some ⟨.func,1,8,[.nilFunc]⟩
 |156=>some ⟨.func,1,8,[.nilFunc]⟩
 |157=>some ⟨.func,1,8,[.nilFunc]⟩
 |158=>some ⟨.func,1,8,[.nilFunc]⟩
 |159=>some ⟨.func,1,8,[.nilFunc]⟩
 |160=>some ⟨.func,1,8,[.nilFunc]⟩
 |161=>some ⟨.func,1,8,[.nilFunc]⟩
 |162=>some ⟨.func,1,8,[.nilFunc]⟩
 |163=>some ⟨.func,1,8,[.nilFunc]⟩
 |164=>some ⟨.func,1,8,[.nilFunc]⟩
 |165=>some ⟨.func,1,8,[.nilFunc]⟩
 |166=>some ⟨.ptr 168,1,8,[(.pointer none)]⟩
 |167=>some ⟨.struct [(0,37),(1,37),(2,3)],3,56,[(.slice none 0 0),(.slice none 0 0),(.int .i64 0)]⟩
 |168=>some ⟨.struct [(0,37),(1,37),(2,3)],3,56,[(.slice none 0 0),(.slice none 0 0),(.int .i64 0)]⟩
 |169=>some ⟨.func,1,8,[.nilFunc]⟩
 |_=>none
def u2v:V4:=fun t=>match t with
 |170=>some ⟨.func,1,8,[.nilFunc]⟩
 |171=>some ⟨.func,1,8,[.nilFunc]⟩
 |172=>some ⟨.ptr 152,1,8,[(.pointer none)]⟩
 |173=>some ⟨.struct [(0,3),(1,24)],2,32,[(.int .i64 0),(.slice none 0 0)]⟩
 |174=>some ⟨.struct [(0,3),(1,24)],2,32,[(.int .i64 0),(.slice none 0 0)]⟩
 |175=>some ⟨.func,1,8,[.nilFunc]⟩
 |176=>some ⟨.func,1,8,[.nilFunc]⟩
 |177=>some ⟨.ptr 179,1,8,[(.pointer none)]⟩
 |178=>some ⟨.struct [(0,46),(1,3)],2,16,[(.pointer none),(.int .i64 0)]⟩
 |179=>some ⟨.struct [(0,46),(1,3)],2,16,[(.pointer none),(.int .i64 0)]⟩
 |180=>some ⟨.func,1,8,[.nilFunc]⟩
 |181=>some ⟨.func,1,8,[.nilFunc]⟩
 |182=>some ⟨.func,1,8,[.nilFunc]⟩
 |183=>some ⟨.func,1,8,[.nilFunc]⟩
 |184=>some ⟨.func,1,8,[.nilFunc]⟩
 |185=>some ⟨.ptr 118,1,8,[(.pointer none)]⟩
 |_=>none
def v5t:V4:=fun t=>match t with
 |186=>some ⟨.func,1,8,[.nilFunc]⟩
 |187=>some ⟨.int .u64,1,8,[(.int .u64 0)]⟩
 |188=>some ⟨.struct [(0,24)],1,24,[(.slice none 0 0)]⟩
 |190=>some ⟨.func,1,8,[.nilFunc]⟩
 |191=>some ⟨.func,1,8,[.nilFunc]⟩
 |193=>some ⟨.func,1,8,[.nilFunc]⟩
 |194=>some ⟨.func,1,8,[.nilFunc]⟩
 |195=>some ⟨.func,1,8,[.nilFunc]⟩
 |196=>some ⟨.func,1,8,[.nilFunc]⟩
 |197=>some ⟨.func,1,8,[.nilFunc]⟩
 |198=>some ⟨.func,1,8,[.nilFunc]⟩
 |199=>some ⟨.ptr 228,1,8,[(.pointer none)]⟩
 |200=>some ⟨.func,1,8,[.nilFunc]⟩
 |201=>some ⟨.func,1,8,[.nilFunc]⟩
 |202=>some ⟨.func,1,8,[.nilFunc]⟩
 |203=>some ⟨.func,1,8,[.nilFunc]⟩
 |_=>none
def v5u:V4:=fun t=>match t with
 |204=>some ⟨.int .u64,1,8,[(.int .u64 0)]⟩
 |205=>some ⟨.func,1,8,[.nilFunc]⟩
 |206=>some ⟨.func,1,8,[.nilFunc]⟩
 |207=>some ⟨.func,1,8,[.nilFunc]⟩
 |209=>some ⟨.func,1,8,[.nilFunc]⟩
 |210=>some ⟨.func,1,8,[.nilFunc]⟩
 |211=>some ⟨.func,1,8,[.nilFunc]⟩
 |213=>some ⟨.func,1,8,[.nilFunc]⟩
 |214=>some ⟨.func,1,8,[.nilFunc]⟩
 |215=>some ⟨.func,1,8,[.nilFunc]⟩
 |216=>some ⟨.func,1,8,[.nilFunc]⟩
 |217=>some ⟨.func,1,8,[.nilFunc]⟩
 |218=>some ⟨.func,1,8,[.nilFunc]⟩
 |219=>some ⟨.func,1,8,[.nilFunc]⟩
 |221=>some ⟨.func,1,8,[.nilFunc]⟩
 |222=>some ⟨.func,1,8,[.nilFunc]⟩
 |_=>none
def v5v:V4:=fun t=>match t with
 |223=>some ⟨.func,1,8,[.nilFunc]⟩
 |224=>some ⟨.func,1,8,[.nilFunc]⟩
 |225=>some ⟨.array 510 5,510,510,(List.replicate 510 (.int .u8 0))⟩
 |226=>some ⟨.array 256 3,256,2048,(List.replicate 256 (.int .i64 0))⟩
 |227=>some ⟨.struct [(0,225),(510,226),(766,4)],767,2568,(List.replicate 510 (.int .u8 0)++List.replicate 256 (.int .i64 0)++[(.bool false)])⟩
 |228=>some ⟨.struct [(0,225),(510,226),(766,4)],767,2568,(List.replicate 510 (.int .u8 0)++List.replicate 256 (.int .i64 0)++[(.bool false)])⟩
 |229=>some ⟨.func,1,8,[.nilFunc]⟩
 |230=>some ⟨.func,1,8,[.nilFunc]⟩
 |231=>some ⟨.func,1,8,[.nilFunc]⟩
 |232=>some ⟨.func,1,8,[.nilFunc]⟩
 |233=>some ⟨.func,1,8,[.nilFunc]⟩
 |234=>some ⟨.func,1,8,[.nilFunc]⟩
 |235=>some ⟨.ptr 241,1,8,[(.pointer none)]⟩
 |236=>some ⟨.func,1,8,[.nilFunc]⟩
 |237=>some ⟨.int .u32,1,4,[(.int .u32 0)]⟩
 |238=>some ⟨.func,1,8,[.nilFunc]⟩
 |_=>none
def v5w:V4:=fun t=>match t with
 |239=>some ⟨.func,1,8,[.nilFunc]⟩
 |240=>some ⟨.array 256 237,256,1024,(List.replicate 256 (.int .u32 0))⟩
 |241=>some ⟨.array 256 237,256,1024,(List.replicate 256 (.int .u32 0))⟩
 |242=>some ⟨.func,1,8,[.nilFunc]⟩
 |250=>some ⟨.func,1,8,[.nilFunc]⟩
 |251=>some ⟨.ptr 5,1,8,[(.pointer none)]⟩
 |254=>some ⟨.struct [(0,12),(1,12),(2,237),(3,248),(4,5),(5,5),(6,249),(7,250),(8,251),(9,252),(10,253)],11,48,[(.int .u64 0),(.int .u64 0),(.int .u32 0),(.int .u8 0),(.int .u8 0),(.int .u8 0),(.int .u8 0),.nilFunc,(.pointer none),(.int .i32 0),(.int .i32 0)]⟩
 |256=>some ⟨.func,1,8,[.nilFunc]⟩
 |_=>none
def tab:V4:=fun t=>cond (Nat.ble t 137) (cond (Nat.ble t 65) (cond (Nat.ble t 29) (u2k t) (cond (Nat.ble t 47) (u2m t) (u2n t))) (cond (Nat.ble t 102) (cond (Nat.ble t 85) (u2p t) (u2q t)) (cond (Nat.ble t 119) (u2r t) (u2s t)))) (cond (Nat.ble t 185) (cond (Nat.ble t 153) (u2t t) (cond (Nat.ble t 169) (u2u t) (u2v t))) (cond (Nat.ble t 222) (cond (Nat.ble t 203) (v5t t) (v5u t)) (cond (Nat.ble t 238) (v5v t) (v5w t))))
theorem q0m {α:Type}{b:Bool}{x y:Option α}{i:α}(h:cond b x y=some i):x=some i∨y=some i:=by cases b;exact .inr h;exact .inl h
theorem ti1:u0 Tryz.prog 1=some ⟨.func,1,8,[.nilFunc]⟩:=by kernel_rfl
theorem ti2:u0 Tryz.prog 2=some ⟨.int .i64,1,8,[(.int .i64 0)]⟩:=by kernel_rfl
theorem ti3:u0 Tryz.prog 3=some ⟨.int .i64,1,8,[(.int .i64 0)]⟩:=by kernel_rfl
theorem ti4:u0 Tryz.prog 4=some ⟨.bool,1,1,[(.bool false)]⟩:=by kernel_rfl
theorem ti5:u0 Tryz.prog 5=some ⟨.int .u8,1,1,[(.int .u8 0)]⟩:=by kernel_rfl
theorem ti9:u0 Tryz.prog 9=some ⟨.string,1,16,[(.string ⟨#[]⟩)]⟩:=by kernel_rfl
theorem Q0w:u0 Tryz.prog 12=some ⟨.int .u64,1,8,[(.int .u64 0)]⟩:=by kernel_rfl
theorem Q0x:u0 Tryz.prog 17=some ⟨.ptr 255,1,8,[(.pointer none)]⟩:=by kernel_rfl
theorem Q0y:u0 Tryz.prog 21=some ⟨.int .i32,1,4,[(.int .i32 0)]⟩:=by kernel_rfl
theorem Q0z:u0 Tryz.prog 22=some ⟨.struct [(0,3),(1,3),(2,3),(3,3)],4,32,[(.int .i64 0),(.int .i64 0),(.int .i64 0),(.int .i64 0)]⟩:=by kernel_rfl
theorem Q1a:u0 Tryz.prog 23=some ⟨.struct [(0,3),(1,3),(2,3),(3,3)],4,32,[(.int .i64 0),(.int .i64 0),(.int .i64 0),(.int .i64 0)]⟩:=by kernel_rfl
theorem Q1b:u0 Tryz.prog 24=some ⟨.slice 5,1,24,[(.slice none 0 0)]⟩:=by kernel_rfl
theorem Q1c:u0 Tryz.prog 25=some ⟨.func,1,8,[.nilFunc]⟩:=by kernel_rfl
theorem Q1d:u0 Tryz.prog 26=some ⟨.func,1,8,[.nilFunc]⟩:=by kernel_rfl
theorem Q1e:u0 Tryz.prog 27=some ⟨.int .i64,1,8,[(.int .i64 0)]⟩:=by kernel_rfl
theorem Q1f:u0 Tryz.prog 29=some ⟨.func,1,8,[.nilFunc]⟩:=by kernel_rfl
theorem Q1g:u0 Tryz.prog 30=some ⟨.slice 35,1,24,[(.slice none 0 0)]⟩:=by kernel_rfl
theorem Q1h:u0 Tryz.prog 32=some ⟨.func,1,8,[.nilFunc]⟩:=by kernel_rfl
theorem Q1i:u0 Tryz.prog 33=some ⟨.func,1,8,[.nilFunc]⟩:=by kernel_rfl
theorem Q1j:u0 Tryz.prog 34=some ⟨.struct [(0,3),(1,24)],2,32,[(.int .i64 0),(.slice none 0 0)]⟩:=by kernel_rfl
theorem Q1k:u0 Tryz.prog 35=some ⟨.struct [(0,3),(1,24)],2,32,[(.int .i64 0),(.slice none 0 0)]⟩:=by kernel_rfl
theorem Q1m:u0 Tryz.prog 36=some ⟨.func,1,8,[.nilFunc]⟩:=by kernel_rfl
theorem Q1n:u0 Tryz.prog 37=some ⟨.slice 24,1,24,[(.slice none 0 0)]⟩:=by kernel_rfl
theorem Q1p:u0 Tryz.prog 39=some ⟨.func,1,8,[.nilFunc]⟩:=by kernel_rfl
theorem Q1q:u0 Tryz.prog 40=some ⟨.func,1,8,[.nilFunc]⟩:=by kernel_rfl
theorem Q1r:u0 Tryz.prog 41=some ⟨.func,1,8,[.nilFunc]⟩:=by kernel_rfl
theorem Q1s:u0 Tryz.prog 42=some ⟨.slice 4,1,24,[(.slice none 0 0)]⟩:=by kernel_rfl
theorem Q1t:u0 Tryz.prog 43=some ⟨.array 4 5,4,4,[(.int .u8 0),(.int .u8 0),(.int .u8 0),(.int .u8 0)]⟩:=by kernel_rfl
theorem Q1u:u0 Tryz.prog 44=some ⟨.struct [(0,3),(1,3),(2,3),(3,3),(4,3),(5,43)],9,48,[(.int .i64 0),(.int .i64 0),(.int .i64 0),(.int .i64 0),(.int .i64 0),(.int .u8 0),(.int .u8 0),(.int .u8 0),(.int .u8 0)]⟩:=by kernel_rfl
theorem Q1v:u0 Tryz.prog 45=some ⟨.struct [(0,3),(1,3),(2,3),(3,3),(4,3),(5,43)],9,48,[(.int .i64 0),(.int .i64 0),(.int .i64 0),(.int .i64 0),(.int .i64 0),(.int .u8 0),(.int .u8 0),(.int .u8 0),(.int .u8 0)]⟩:=by kernel_rfl
theorem Q1w:u0 Tryz.prog 46=some ⟨.ptr 116,1,8,[(.pointer none)]⟩:=by kernel_rfl
theorem Q1x:u0 Tryz.prog 47=some ⟨.func,1,8,[.nilFunc]⟩:=by kernel_rfl
theorem Q1y:u0 Tryz.prog 48=some ⟨.func,1,8,[.nilFunc]⟩:=by kernel_rfl
theorem Q1z:u0 Tryz.prog 49=some ⟨.func,1,8,[.nilFunc]⟩:=by kernel_rfl
theorem Q2a:u0 Tryz.prog 51=some ⟨.func,1,8,[.nilFunc]⟩:=by kernel_rfl
theorem Q2b:u0 Tryz.prog 52=some ⟨.func,1,8,[.nilFunc]⟩:=by kernel_rfl
theorem Q2c:u0 Tryz.prog 53=some ⟨.slice 3,1,24,[(.slice none 0 0)]⟩:=by kernel_rfl
theorem Q2d:u0 Tryz.prog 54=some ⟨.func,1,8,[.nilFunc]⟩:=by kernel_rfl
theorem Q2e:u0 Tryz.prog 55=some ⟨.func,1,8,[.nilFunc]⟩:=by kernel_rfl
theorem Q2f:u0 Tryz.prog 56=some ⟨.func,1,8,[.nilFunc]⟩:=by kernel_rfl
theorem Q2g:u0 Tryz.prog 57=some ⟨.func,1,8,[.nilFunc]⟩:=by kernel_rfl
theorem Q2h:u0 Tryz.prog 58=some ⟨.func,1,8,[.nilFunc]⟩:=by kernel_rfl
theorem Q2i:u0 Tryz.prog 59=some ⟨.func,1,8,[.nilFunc]⟩:=by kernel_rfl
theorem Q2j:u0 Tryz.prog 60=some ⟨.struct [(0,3),(1,3),(2,3),(3,3),(4,3),(5,3),(6,24)],7,72,[(.int .i64 0),(.int .i64 0),(.int .i64 0),(.int .i64 0),(.int .i64 0),(.int .i64 0),(.slice none 0 0)]⟩:=by kernel_rfl
theorem Q2k:u0 Tryz.prog 61=some ⟨.struct [(0,3),(1,3),(2,3),(3,3),(4,3),(5,3),(6,24)],7,72,[(.int .i64 0),(.int .i64 0),(.int .i64 0),(.int .i64 0),(.int .i64 0),(.int .i64 0),(.slice none 0 0)]⟩:=by kernel_rfl
theorem Q2m:u0 Tryz.prog 62=some ⟨.func,1,8,[.nilFunc]⟩:=by kernel_rfl
theorem Q2n:u0 Tryz.prog 64=some ⟨.func,1,8,[.nilFunc]⟩:=by kernel_rfl
theorem Q2p:u0 Tryz.prog 65=some ⟨.func,1,8,[.nilFunc]⟩:=by kernel_rfl
theorem Q2q:u0 Tryz.prog 66=some ⟨.func,1,8,[.nilFunc]⟩:=by kernel_rfl
theorem Q2r:u0 Tryz.prog 67=some ⟨.func,1,8,[.nilFunc]⟩:=by kernel_rfl
theorem Q2s:u0 Tryz.prog 68=some ⟨.func,1,8,[.nilFunc]⟩:=by kernel_rfl
theorem Q2t:u0 Tryz.prog 69=some ⟨.struct [(0,37),(1,3),(2,3),(3,3)],4,48,[(.slice none 0 0),(.int .i64 0),(.int .i64 0),(.int .i64 0)]⟩:=by kernel_rfl
theorem Q2u:u0 Tryz.prog 70=some ⟨.struct [(0,37),(1,3),(2,3),(3,3)],4,48,[(.slice none 0 0),(.int .i64 0),(.int .i64 0),(.int .i64 0)]⟩:=by kernel_rfl
theorem Q2v:u0 Tryz.prog 72=some ⟨.func,1,8,[.nilFunc]⟩:=by kernel_rfl
theorem Q2w:u0 Tryz.prog 73=some ⟨.func,1,8,[.nilFunc]⟩:=by kernel_rfl
theorem Q2x:u0 Tryz.prog 74=some ⟨.func,1,8,[.nilFunc]⟩:=by kernel_rfl
theorem Q2y:u0 Tryz.prog 75=some ⟨.ptr 148,1,8,[(.pointer none)]⟩:=by kernel_rfl
theorem Q2z:u0 Tryz.prog 77=some ⟨.func,1,8,[.nilFunc]⟩:=by kernel_rfl
theorem Q3a:u0 Tryz.prog 79=some ⟨.func,1,8,[.nilFunc]⟩:=by kernel_rfl
theorem Q3b:u0 Tryz.prog 81=some ⟨.func,1,8,[.nilFunc]⟩:=by kernel_rfl
theorem Q3c:u0 Tryz.prog 82=some ⟨.func,1,8,[.nilFunc]⟩:=by kernel_rfl
theorem Q3d:u0 Tryz.prog 83=some ⟨.func,1,8,[.nilFunc]⟩:=by kernel_rfl
theorem Q3e:u0 Tryz.prog 84=some ⟨.func,1,8,[.nilFunc]⟩:=by kernel_rfl
theorem Q3f:u0 Tryz.prog 85=some ⟨.func,1,8,[.nilFunc]⟩:=by kernel_rfl
theorem Q3g:u0 Tryz.prog 86=some ⟨.func,1,8,[.nilFunc]⟩:=by kernel_rfl
theorem Q3h:u0 Tryz.prog 87=some ⟨.func,1,8,[.nilFunc]⟩:=by kernel_rfl
theorem Q3i:u0 Tryz.prog 89=some ⟨.func,1,8,[.nilFunc]⟩:=by kernel_rfl
theorem Q3j:u0 Tryz.prog 90=some ⟨.func,1,8,[.nilFunc]⟩:=by kernel_rfl
theorem Q3k:u0 Tryz.prog 91=some ⟨.slice 37,1,24,[(.slice none 0 0)]⟩:=by kernel_rfl
theorem Q3m:u0 Tryz.prog 92=some ⟨.func,1,8,[.nilFunc]⟩:=by kernel_rfl
theorem Q3n:u0 Tryz.prog 93=some ⟨.func,1,8,[.nilFunc]⟩:=by kernel_rfl
theorem Q3p:u0 Tryz.prog 94=some ⟨.func,1,8,[.nilFunc]⟩:=by kernel_rfl
theorem Q3q:u0 Tryz.prog 95=some ⟨.func,1,8,[.nilFunc]⟩:=by kernel_rfl
theorem Q3r:u0 Tryz.prog 96=some ⟨.func,1,8,[.nilFunc]⟩:=by kernel_rfl
theorem Q3s:u0 Tryz.prog 97=some ⟨.func,1,8,[.nilFunc]⟩:=by kernel_rfl
theorem Q3t:u0 Tryz.prog 98=some ⟨.func,1,8,[.nilFunc]⟩:=by kernel_rfl
theorem Q3u:u0 Tryz.prog 99=some ⟨.func,1,8,[.nilFunc]⟩:=by kernel_rfl
theorem u3x:u0 Tryz.prog 100=some ⟨.func,1,8,[.nilFunc]⟩:=by kernel_rfl
theorem u3y:u0 Tryz.prog 101=some ⟨.struct [(0,3),(1,3),(2,3),(3,3),(4,3),(5,24)],6,64,[(.int .i64 0),(.int .i64 0),(.int .i64 0),(.int .i64 0),(.int .i64 0),(.slice none 0 0)]⟩:=by kernel_rfl
theorem u3z:u0 Tryz.prog 102=some ⟨.struct [(0,3),(1,3),(2,3),(3,3),(4,3),(5,24)],6,64,[(.int .i64 0),(.int .i64 0),(.int .i64 0),(.int .i64 0),(.int .i64 0),(.slice none 0 0)]⟩:=by kernel_rfl
theorem u4a:u0 Tryz.prog 103=some ⟨.func,1,8,[.nilFunc]⟩:=by kernel_rfl
theorem u4b:u0 Tryz.prog 105=some ⟨.func,1,8,[.nilFunc]⟩:=by kernel_rfl
theorem u4c:u0 Tryz.prog 106=some ⟨.func,1,8,[.nilFunc]⟩:=by kernel_rfl
theorem u4d:u0 Tryz.prog 107=some ⟨.func,1,8,[.nilFunc]⟩:=by kernel_rfl
theorem u4e:u0 Tryz.prog 108=some ⟨.func,1,8,[.nilFunc]⟩:=by kernel_rfl
theorem u4f:u0 Tryz.prog 109=some ⟨.func,1,8,[.nilFunc]⟩:=by kernel_rfl
theorem u4g:u0 Tryz.prog 110=some ⟨.func,1,8,[.nilFunc]⟩:=by kernel_rfl
theorem u4h:u0 Tryz.prog 111=some ⟨.map 3 109,1,8,[(.map none)]⟩:=by kernel_rfl
theorem u4i:u0 Tryz.prog 112=some ⟨.func,1,8,[.nilFunc]⟩:=by kernel_rfl
theorem u4j:u0 Tryz.prog 113=some ⟨.slice 152,1,24,[(.slice none 0 0)]⟩:=by kernel_rfl
theorem u4k:u0 Tryz.prog 114=some ⟨.slice 174,1,24,[(.slice none 0 0)]⟩:=by kernel_rfl
theorem u4m:u0 Tryz.prog 115=some ⟨.struct [(0,113),(1,114),(2,4),(3,4),(4,3),(5,3)],6,72,[(.slice none 0 0),(.slice none 0 0),(.bool false),(.bool false),(.int .i64 0),(.int .i64 0)]⟩:=by kernel_rfl
theorem u4n:u0 Tryz.prog 116=some ⟨.struct [(0,113),(1,114),(2,4),(3,4),(4,3),(5,3)],6,72,[(.slice none 0 0),(.slice none 0 0),(.bool false),(.bool false),(.int .i64 0),(.int .i64 0)]⟩:=by kernel_rfl
theorem u4p:u0 Tryz.prog 117=some ⟨.struct [(0,24)],1,24,[(.slice none 0 0)]⟩:=by kernel_rfl
theorem u4q:u0 Tryz.prog 118=some ⟨.struct [(0,24)],1,24,[(.slice none 0 0)]⟩:=by kernel_rfl
theorem u4r:u0 Tryz.prog 119=some ⟨.func,1,8,[.nilFunc]⟩:=by kernel_rfl
theorem u4s:u0 Tryz.prog 120=some ⟨.func,1,8,[.nilFunc]⟩:=by kernel_rfl
theorem u4t:u0 Tryz.prog 121=some ⟨.func,1,8,[.nilFunc]⟩:=by kernel_rfl
theorem u4u:u0 Tryz.prog 122=some ⟨.func,1,8,[.nilFunc]⟩:=by kernel_rfl
theorem u4v:u0 Tryz.prog 123=some ⟨.func,1,8,[.nilFunc]⟩:=by kernel_rfl
theorem u4w:u0 Tryz.prog 124=some ⟨.ptr 188,1,8,[(.pointer none)]⟩:=by kernel_rfl
theorem u4x:u0 Tryz.prog 125=some ⟨.func,1,8,[.nilFunc]⟩:=by kernel_rfl
theorem u4y:u0 Tryz.prog 126=some ⟨.ptr 3,1,8,[(.pointer none)]⟩:=by kernel_rfl
theorem u4z:u0 Tryz.prog 127=some ⟨.slice 126,1,24,[(.slice none 0 0)]⟩:=by kernel_rfl
theorem u5a:u0 Tryz.prog 128=some ⟨.func,1,8,[.nilFunc]⟩:=by kernel_rfl
theorem u5b:u0 Tryz.prog 129=some ⟨.func,1,8,[.nilFunc]⟩:=by kernel_rfl
theorem u5c:u0 Tryz.prog 131=some ⟨.func,1,8,[.nilFunc]⟩:=by kernel_rfl
theorem u5d:u0 Tryz.prog 133=some ⟨.func,1,8,[.nilFunc]⟩:=by kernel_rfl
theorem u5e:u0 Tryz.prog 134=some ⟨.ptr 137,1,8,[(.pointer none)]⟩:=by kernel_rfl
theorem u5f:u0 Tryz.prog 135=some ⟨.array 2 37,2,48,[(.slice none 0 0),(.slice none 0 0)]⟩:=by kernel_rfl
theorem u5g:u0 Tryz.prog 136=some ⟨.struct [(0,3),(1,23),(5,135),(7,61),(14,4),(15,3),(16,4)],17,184,[(.int .i64 0),(.int .i64 0),(.int .i64 0),(.int .i64 0),(.int .i64 0),(.slice none 0 0),(.slice none 0 0),(.int .i64 0),(.int .i64 0),(.int .i64 0),(.int .i64 0),(.int .i64 0),(.int .i64 0),(.slice none 0 0),(.bool false),(.int .i64 0),(.bool false)]⟩:=by kernel_rfl
theorem u5h:u0 Tryz.prog 137=some ⟨.struct [(0,3),(1,23),(5,135),(7,61),(14,4),(15,3),(16,4)],17,184,[(.int .i64 0),(.int .i64 0),(.int .i64 0),(.int .i64 0),(.int .i64 0),(.slice none 0 0),(.slice none 0 0),(.int .i64 0),(.int .i64 0),(.int .i64 0),(.int .i64 0),(.int .i64 0),(.int .i64 0),(.slice none 0 0),(.bool false),(.int .i64 0),(.bool false)]⟩:=by kernel_rfl
theorem u5i:u0 Tryz.prog 138=some ⟨.func,1,8,[.nilFunc]⟩:=by kernel_rfl
theorem u5j:u0 Tryz.prog 139=some ⟨.func,1,8,[.nilFunc]⟩:=by kernel_rfl
theorem u5k:u0 Tryz.prog 140=some ⟨.func,1,8,[.nilFunc]⟩:=by kernel_rfl
theorem u5m:u0 Tryz.prog 141=some ⟨.slice 61,1,24,[(.slice none 0 0)]⟩:=by kernel_rfl
theorem u5n:u0 Tryz.prog 142=some ⟨.func,1,8,[.nilFunc]⟩:=by kernel_rfl
theorem u5p:u0 Tryz.prog 143=some ⟨.func,1,8,[.nilFunc]⟩:=by kernel_rfl
theorem u5q:u0 Tryz.prog 144=some ⟨.func,1,8,[.nilFunc]⟩:=by kernel_rfl
theorem u5r:u0 Tryz.prog 145=some ⟨.func,1,8,[.nilFunc]⟩:=by kernel_rfl
theorem u5s:u0 Tryz.prog 146=some ⟨.func,1,8,[.nilFunc]⟩:=by kernel_rfl
theorem u5t:u0 Tryz.prog 147=some ⟨.struct [(0,146),(1,3),(2,23),(6,3),(7,3),(8,3),(9,3),(10,3)],11,88,[.nilFunc,(.int .i64 0),(.int .i64 0),(.int .i64 0),(.int .i64 0),(.int .i64 0),(.int .i64 0),(.int .i64 0),(.int .i64 0),(.int .i64 0),(.int .i64 0)]⟩:=by kernel_rfl
theorem u5u:u0 Tryz.prog 148=some ⟨.struct [(0,146),(1,3),(2,23),(6,3),(7,3),(8,3),(9,3),(10,3)],11,88,[.nilFunc,(.int .i64 0),(.int .i64 0),(.int .i64 0),(.int .i64 0),(.int .i64 0),(.int .i64 0),(.int .i64 0),(.int .i64 0),(.int .i64 0),(.int .i64 0)]⟩:=by kernel_rfl
theorem u5v:u0 Tryz.prog 149=some ⟨.func,1,8,[.nilFunc]⟩:=by kernel_rfl
theorem u5w:u0 Tryz.prog 150=some ⟨.func,1,8,[.nilFunc]⟩:=by kernel_rfl
theorem u5x:u0 Tryz.prog 151=some ⟨.struct [(0,24),(1,4),(2,3),(3,53)],4,64,[(.slice none 0 0),(.bool false),(.int .i64 0),(.slice none 0 0)]⟩:=by kernel_rfl
theorem u5y:u0 Tryz.prog 152=some ⟨.struct [(0,24),(1,4),(2,3),(3,53)],4,64,[(.slice none 0 0),(.bool false),(.int .i64 0),(.slice none 0 0)]⟩:=by kernel_rfl
theorem u5z:u0 Tryz.prog 153=some ⟨.func,1,8,[.nilFunc]⟩:=by kernel_rfl
theorem u6a:u0 Tryz.prog 154=some ⟨.func,1,8,[.nilFunc]⟩:=by kernel_rfl
theorem u6b:u0 Tryz.prog 155=some ⟨.func,1,8,[.nilFunc]⟩:=by kernel_rfl
theorem u6c:u0 Tryz.prog 156=some ⟨.func,1,8,[.nilFunc]⟩:=by kernel_rfl
theorem u6d:u0 Tryz.prog 157=some ⟨.func,1,8,[.nilFunc]⟩:=by kernel_rfl
theorem u6e:u0 Tryz.prog 158=some ⟨.func,1,8,[.nilFunc]⟩:=by kernel_rfl
theorem u6f:u0 Tryz.prog 159=some ⟨.func,1,8,[.nilFunc]⟩:=by kernel_rfl
theorem u6g:u0 Tryz.prog 160=some ⟨.func,1,8,[.nilFunc]⟩:=by kernel_rfl
theorem u6h:u0 Tryz.prog 161=some ⟨.func,1,8,[.nilFunc]⟩:=by kernel_rfl
theorem u6i:u0 Tryz.prog 162=some ⟨.func,1,8,[.nilFunc]⟩:=by kernel_rfl
theorem u6j:u0 Tryz.prog 163=some ⟨.func,1,8,[.nilFunc]⟩:=by kernel_rfl
theorem u6k:u0 Tryz.prog 164=some ⟨.func,1,8,[.nilFunc]⟩:=by kernel_rfl
theorem u6m:u0 Tryz.prog 165=some ⟨.func,1,8,[.nilFunc]⟩:=by kernel_rfl
theorem u6n:u0 Tryz.prog 166=some ⟨.ptr 168,1,8,[(.pointer none)]⟩:=by kernel_rfl
theorem u6p:u0 Tryz.prog 167=some ⟨.struct [(0,37),(1,37),(2,3)],3,56,[(.slice none 0 0),(.slice none 0 0),(.int .i64 0)]⟩:=by kernel_rfl
theorem u6q:u0 Tryz.prog 168=some ⟨.struct [(0,37),(1,37),(2,3)],3,56,[(.slice none 0 0),(.slice none 0 0),(.int .i64 0)]⟩:=by kernel_rfl
theorem u6r:u0 Tryz.prog 169=some ⟨.func,1,8,[.nilFunc]⟩:=by kernel_rfl
theorem u6s:u0 Tryz.prog 170=some ⟨.func,1,8,[.nilFunc]⟩:=by kernel_rfl
theorem u6t:u0 Tryz.prog 171=some ⟨.func,1,8,[.nilFunc]⟩:=by kernel_rfl
theorem u6u:u0 Tryz.prog 172=some ⟨.ptr 152,1,8,[(.pointer none)]⟩:=by kernel_rfl
theorem u6v:u0 Tryz.prog 173=some ⟨.struct [(0,3),(1,24)],2,32,[(.int .i64 0),(.slice none 0 0)]⟩:=by kernel_rfl
theorem u6w:u0 Tryz.prog 174=some ⟨.struct [(0,3),(1,24)],2,32,[(.int .i64 0),(.slice none 0 0)]⟩:=by kernel_rfl
theorem u6x:u0 Tryz.prog 175=some ⟨.func,1,8,[.nilFunc]⟩:=by kernel_rfl
theorem u6y:u0 Tryz.prog 176=some ⟨.func,1,8,[.nilFunc]⟩:=by kernel_rfl
theorem u6z:u0 Tryz.prog 177=some ⟨.ptr 179,1,8,[(.pointer none)]⟩:=by kernel_rfl
theorem u7a:u0 Tryz.prog 178=some ⟨.struct [(0,46),(1,3)],2,16,[(.pointer none),(.int .i64 0)]⟩:=by kernel_rfl
theorem u7b:u0 Tryz.prog 179=some ⟨.struct [(0,46),(1,3)],2,16,[(.pointer none),(.int .i64 0)]⟩:=by kernel_rfl
theorem u7c:u0 Tryz.prog 180=some ⟨.func,1,8,[.nilFunc]⟩:=by kernel_rfl
theorem u7d:u0 Tryz.prog 181=some ⟨.func,1,8,[.nilFunc]⟩:=by kernel_rfl
theorem u7e:u0 Tryz.prog 182=some ⟨.func,1,8,[.nilFunc]⟩:=by kernel_rfl
theorem u7f:u0 Tryz.prog 183=some ⟨.func,1,8,[.nilFunc]⟩:=by kernel_rfl
theorem u7g:u0 Tryz.prog 184=some ⟨.func,1,8,[.nilFunc]⟩:=by kernel_rfl
theorem u7h:u0 Tryz.prog 185=some ⟨.ptr 118,1,8,[(.pointer none)]⟩:=by kernel_rfl
theorem u7i:u0 Tryz.prog 186=some ⟨.func,1,8,[.nilFunc]⟩:=by kernel_rfl
theorem u7j:u0 Tryz.prog 187=some ⟨.int .u64,1,8,[(.int .u64 0)]⟩:=by kernel_rfl
theorem u7k:u0 Tryz.prog 188=some ⟨.struct [(0,24)],1,24,[(.slice none 0 0)]⟩:=by kernel_rfl
theorem u7m:u0 Tryz.prog 190=some ⟨.func,1,8,[.nilFunc]⟩:=by kernel_rfl
theorem u7n:u0 Tryz.prog 191=some ⟨.func,1,8,[.nilFunc]⟩:=by kernel_rfl
theorem u7p:u0 Tryz.prog 193=some ⟨.func,1,8,[.nilFunc]⟩:=by kernel_rfl
theorem u7q:u0 Tryz.prog 194=some ⟨.func,1,8,[.nilFunc]⟩:=by kernel_rfl
theorem u7r:u0 Tryz.prog 195=some ⟨.func,1,8,[.nilFunc]⟩:=by kernel_rfl
theorem u7s:u0 Tryz.prog 196=some ⟨.func,1,8,[.nilFunc]⟩:=by kernel_rfl
theorem u7t:u0 Tryz.prog 197=some ⟨.func,1,8,[.nilFunc]⟩:=by kernel_rfl
theorem u7u:u0 Tryz.prog 198=some ⟨.func,1,8,[.nilFunc]⟩:=by kernel_rfl
theorem u7v:u0 Tryz.prog 199=some ⟨.ptr 228,1,8,[(.pointer none)]⟩:=by kernel_rfl
theorem u7w:u0 Tryz.prog 200=some ⟨.func,1,8,[.nilFunc]⟩:=by kernel_rfl
theorem u7x:u0 Tryz.prog 201=some ⟨.func,1,8,[.nilFunc]⟩:=by kernel_rfl
theorem u7y:u0 Tryz.prog 202=some ⟨.func,1,8,[.nilFunc]⟩:=by kernel_rfl
theorem u7z:u0 Tryz.prog 203=some ⟨.func,1,8,[.nilFunc]⟩:=by kernel_rfl
theorem u8a:u0 Tryz.prog 204=some ⟨.int .u64,1,8,[(.int .u64 0)]⟩:=by kernel_rfl
theorem u8b:u0 Tryz.prog 205=some ⟨.func,1,8,[.nilFunc]⟩:=by kernel_rfl
theorem u8c:u0 Tryz.prog 206=some ⟨.func,1,8,[.nilFunc]⟩:=by kernel_rfl
theorem u8d:u0 Tryz.prog 207=some ⟨.func,1,8,[.nilFunc]⟩:=by kernel_rfl
theorem u8e:u0 Tryz.prog 209=some ⟨.func,1,8,[.nilFunc]⟩:=by kernel_rfl
theorem u8f:u0 Tryz.prog 210=some ⟨.func,1,8,[.nilFunc]⟩:=by kernel_rfl
theorem u8g:u0 Tryz.prog 211=some ⟨.func,1,8,[.nilFunc]⟩:=by kernel_rfl
theorem u8h:u0 Tryz.prog 213=some ⟨.func,1,8,[.nilFunc]⟩:=by kernel_rfl
theorem u8i:u0 Tryz.prog 214=some ⟨.func,1,8,[.nilFunc]⟩:=by kernel_rfl
theorem u8j:u0 Tryz.prog 215=some ⟨.func,1,8,[.nilFunc]⟩:=by kernel_rfl
theorem u8k:u0 Tryz.prog 216=some ⟨.func,1,8,[.nilFunc]⟩:=by kernel_rfl
theorem u8m:u0 Tryz.prog 217=some ⟨.func,1,8,[.nilFunc]⟩:=by kernel_rfl
theorem u8n:u0 Tryz.prog 218=some ⟨.func,1,8,[.nilFunc]⟩:=by kernel_rfl
theorem u8p:u0 Tryz.prog 219=some ⟨.func,1,8,[.nilFunc]⟩:=by kernel_rfl
theorem u8q:u0 Tryz.prog 221=some ⟨.func,1,8,[.nilFunc]⟩:=by kernel_rfl
theorem u8r:u0 Tryz.prog 222=some ⟨.func,1,8,[.nilFunc]⟩:=by kernel_rfl
theorem u8s:u0 Tryz.prog 223=some ⟨.func,1,8,[.nilFunc]⟩:=by kernel_rfl
theorem u8t:u0 Tryz.prog 224=some ⟨.func,1,8,[.nilFunc]⟩:=by kernel_rfl
theorem u8u:u0 Tryz.prog 225=some ⟨.array 510 5,510,510,(List.replicate 510 (.int .u8 0))⟩:=by kernel_rfl
theorem u8v:u0 Tryz.prog 226=some ⟨.array 256 3,256,2048,(List.replicate 256 (.int .i64 0))⟩:=by kernel_rfl
theorem u8w:u0 Tryz.prog 227=some ⟨.struct [(0,225),(510,226),(766,4)],767,2568,(List.replicate 510 (.int .u8 0)++List.replicate 256 (.int .i64 0)++[(.bool false)])⟩:=by kernel_rfl
theorem u8x:u0 Tryz.prog 228=some ⟨.struct [(0,225),(510,226),(766,4)],767,2568,(List.replicate 510 (.int .u8 0)++List.replicate 256 (.int .i64 0)++[(.bool false)])⟩:=by kernel_rfl
theorem u8y:u0 Tryz.prog 229=some ⟨.func,1,8,[.nilFunc]⟩:=by kernel_rfl
theorem u9a:u0 Tryz.prog 230=some ⟨.func,1,8,[.nilFunc]⟩:=by kernel_rfl
theorem u9b:u0 Tryz.prog 231=some ⟨.func,1,8,[.nilFunc]⟩:=by kernel_rfl
theorem u9c:u0 Tryz.prog 232=some ⟨.func,1,8,[.nilFunc]⟩:=by kernel_rfl
theorem u9d:u0 Tryz.prog 233=some ⟨.func,1,8,[.nilFunc]⟩:=by kernel_rfl
theorem u9e:u0 Tryz.prog 234=some ⟨.func,1,8,[.nilFunc]⟩:=by kernel_rfl
theorem u9f:u0 Tryz.prog 235=some ⟨.ptr 241,1,8,[(.pointer none)]⟩:=by kernel_rfl
theorem u9g:u0 Tryz.prog 236=some ⟨.func,1,8,[.nilFunc]⟩:=by kernel_rfl
theorem u9h:u0 Tryz.prog 237=some ⟨.int .u32,1,4,[(.int .u32 0)]⟩:=by kernel_rfl
theorem u9i:u0 Tryz.prog 238=some ⟨.func,1,8,[.nilFunc]⟩:=by kernel_rfl
theorem u9j:u0 Tryz.prog 239=some ⟨.func,1,8,[.nilFunc]⟩:=by kernel_rfl
theorem u9k:u0 Tryz.prog 240=some ⟨.array 256 237,256,1024,(List.replicate 256 (.int .u32 0))⟩:=by kernel_rfl
theorem u9m:u0 Tryz.prog 241=some ⟨.array 256 237,256,1024,(List.replicate 256 (.int .u32 0))⟩:=by kernel_rfl
theorem u9n:u0 Tryz.prog 242=some ⟨.func,1,8,[.nilFunc]⟩:=by kernel_rfl
theorem u9p:u0 Tryz.prog 250=some ⟨.func,1,8,[.nilFunc]⟩:=by kernel_rfl
theorem u9q:u0 Tryz.prog 251=some ⟨.ptr 5,1,8,[(.pointer none)]⟩:=by kernel_rfl
theorem u9r:u0 Tryz.prog 254=some ⟨.struct [(0,12),(1,12),(2,237),(3,248),(4,5),(5,5),(6,249),(7,250),(8,251),(9,252),(10,253)],11,48,[(.int .u64 0),(.int .u64 0),(.int .u32 0),(.int .u8 0),(.int .u8 0),(.int .u8 0),(.int .u8 0),.nilFunc,(.pointer none),(.int .i32 0),(.int .i32 0)]⟩:=by kernel_rfl
theorem u9s:u0 Tryz.prog 256=some ⟨.func,1,8,[.nilFunc]⟩:=by kernel_rfl
theorem hT0:∀ t i,u2k t=some i→u0 Tryz.prog t=some i:=by
 intro t i h
 unfold u2k at h
 split at h
 ·obtain rfl:=k0y h;exact ti1
 ·obtain rfl:=k0y h;exact ti2
 ·obtain rfl:=k0y h;exact ti3
 ·obtain rfl:=k0y h;exact ti4
 ·obtain rfl:=k0y h;exact ti5
 ·obtain rfl:=k0y h;exact ti9
 ·obtain rfl:=k0y h;exact Q0w
 ·obtain rfl:=k0y h;exact Q0x
 ·obtain rfl:=k0y h;exact Q0y
 ·obtain rfl:=k0y h;exact Q0z
 ·obtain rfl:=k0y h;exact Q1a
 ·obtain rfl:=k0y h;exact Q1b
 ·obtain rfl:=k0y h;exact Q1c
 ·obtain rfl:=k0y h;exact Q1d
 ·obtain rfl:=k0y h;exact Q1e
 ·obtain rfl:=k0y h;exact Q1f
 ·exact absurd h (by simp)
theorem hT1:∀ t i,u2m t=some i→u0 Tryz.prog t=some i:=by
 intro t i h
 unfold u2m at h
 split at h
 ·obtain rfl:=k0y h;exact Q1g
 ·obtain rfl:=k0y h;exact Q1h
 ·obtain rfl:=k0y h;exact Q1i
 ·obtain rfl:=k0y h;exact Q1j
 ·obtain rfl:=k0y h;exact Q1k
 ·obtain rfl:=k0y h;exact Q1m
 ·obtain rfl:=k0y h;exact Q1n
 ·obtain rfl:=k0y h;exact Q1p
 ·obtain rfl:=k0y h;exact Q1q
 ·obtain rfl:=k0y h;exact Q1r
 ·obtain rfl:=k0y h;exact Q1s
 ·obtain rfl:=k0y h;exact Q1t
 ·obtain rfl:=k0y h;exact Q1u
 ·obtain rfl:=k0y h;exact Q1v
 ·obtain rfl:=k0y h;exact Q1w
 ·obtain rfl:=k0y h;exact Q1x
 ·exact absurd h (by simp)
theorem hT2:∀ t i,u2n t=some i→u0 Tryz.prog t=some i:=by
 intro t i h
 unfold u2n at h
 split at h
 ·obtain rfl:=k0y h;exact Q1y
 ·obtain rfl:=k0y h;exact Q1z
 ·obtain rfl:=k0y h;exact Q2a
 ·obtain rfl:=k0y h;exact Q2b
 ·obtain rfl:=k0y h;exact Q2c
 ·obtain rfl:=k0y h;exact Q2d
 ·obtain rfl:=k0y h;exact Q2e
 ·obtain rfl:=k0y h;exact Q2f
 ·obtain rfl:=k0y h;exact Q2g
 ·obtain rfl:=k0y h;exact Q2h
 ·obtain rfl:=k0y h;exact Q2i
 ·obtain rfl:=k0y h;exact Q2j
 ·obtain rfl:=k0y h;exact Q2k
 ·obtain rfl:=k0y h;exact Q2m
 ·obtain rfl:=k0y h;exact Q2n
 ·obtain rfl:=k0y h;exact Q2p
 ·exact absurd h (by simp)
theorem hT3:∀ t i,u2p t=some i→u0 Tryz.prog t=some i:=by
 intro t i h
 unfold u2p at h
 split at h
 ·obtain rfl:=k0y h;exact Q2q
 ·obtain rfl:=k0y h;exact Q2r
 ·obtain rfl:=k0y h;exact Q2s
 ·obtain rfl:=k0y h;exact Q2t
 ·obtain rfl:=k0y h;exact Q2u
 ·obtain rfl:=k0y h;exact Q2v
 ·obtain rfl:=k0y h;exact Q2w
 ·obtain rfl:=k0y h;exact Q2x
 ·obtain rfl:=k0y h;exact Q2y
 ·obtain rfl:=k0y h;exact Q2z
 ·obtain rfl:=k0y h;exact Q3a
 ·obtain rfl:=k0y h;exact Q3b
 ·obtain rfl:=k0y h;exact Q3c
 ·obtain rfl:=k0y h;exact Q3d
 ·obtain rfl:=k0y h;exact Q3e
 ·obtain rfl:=k0y h;exact Q3f
 ·exact absurd h (by simp)
theorem hT4:∀ t i,u2q t=some i→u0 Tryz.prog t=some i:=by
 intro t i h
 unfold u2q at h
 split at h
 ·obtain rfl:=k0y h;exact Q3g
 ·obtain rfl:=k0y h;exact Q3h
 ·obtain rfl:=k0y h;exact Q3i
 ·obtain rfl:=k0y h;exact Q3j
 ·obtain rfl:=k0y h;exact Q3k
 ·obtain rfl:=k0y h;exact Q3m
 ·obtain rfl:=k0y h;exact Q3n
 ·obtain rfl:=k0y h;exact Q3p
 ·obtain rfl:=k0y h;exact Q3q
 ·obtain rfl:=k0y h;exact Q3r
 ·obtain rfl:=k0y h;exact Q3s
 ·obtain rfl:=k0y h;exact Q3t
 ·obtain rfl:=k0y h;exact Q3u
 ·obtain rfl:=k0y h;exact u3x
 ·obtain rfl:=k0y h;exact u3y
 ·obtain rfl:=k0y h;exact u3z
 ·exact absurd h (by simp)
theorem hT5:∀ t i,u2r t=some i→u0 Tryz.prog t=some i:=by
 intro t i h
 unfold u2r at h
 split at h
 ·obtain rfl:=k0y h;exact u4a
 ·obtain rfl:=k0y h;exact u4b
 ·obtain rfl:=k0y h;exact u4c
 ·obtain rfl:=k0y h;exact u4d
 ·obtain rfl:=k0y h;exact u4e
 ·obtain rfl:=k0y h;exact u4f
 ·obtain rfl:=k0y h;exact u4g
 ·obtain rfl:=k0y h;exact u4h
 ·obtain rfl:=k0y h;exact u4i
 ·obtain rfl:=k0y h;exact u4j
 ·obtain rfl:=k0y h;exact u4k
 ·obtain rfl:=k0y h;exact u4m
 ·obtain rfl:=k0y h;exact u4n
 ·obtain rfl:=k0y h;exact u4p
 ·obtain rfl:=k0y h;exact u4q
 ·obtain rfl:=k0y h;exact u4r
 ·exact absurd h (by simp)
theorem hT6:∀ t i,u2s t=some i→u0 Tryz.prog t=some i:=by
 intro t i h
 unfold u2s at h
 split at h
 ·obtain rfl:=k0y h;exact u4s
 ·obtain rfl:=k0y h;exact u4t
 ·obtain rfl:=k0y h;exact u4u
 ·obtain rfl:=k0y h;exact u4v
 ·obtain rfl:=k0y h;exact u4w
 ·obtain rfl:=k0y h;exact u4x
 ·obtain rfl:=k0y h;exact u4y
 ·obtain rfl:=k0y h;exact u4z
 ·obtain rfl:=k0y h;exact u5a
 ·obtain rfl:=k0y h;exact u5b
 ·obtain rfl:=k0y h;exact u5c
 ·obtain rfl:=k0y h;exact u5d
 ·obtain rfl:=k0y h;exact u5e
 ·obtain rfl:=k0y h;exact u5f
 ·obtain rfl:=k0y h;exact u5g
 ·obtain rfl:=k0y h;exact u5h
 ·exact absurd h (by simp)
theorem hT7:∀ t i,u2t t=some i→u0 Tryz.prog t=some i:=by
 intro t i h
 unfold u2t at h
 split at h
 ·obtain rfl:=k0y h;exact u5i
 ·obtain rfl:=k0y h;exact u5j
 ·obtain rfl:=k0y h;exact u5k
 ·obtain rfl:=k0y h;exact u5m
 ·obtain rfl:=k0y h;exact u5n
 ·obtain rfl:=k0y h;exact u5p
 ·obtain rfl:=k0y h;exact u5q
 ·obtain rfl:=k0y h;exact u5r
 ·obtain rfl:=k0y h;exact u5s
 ·obtain rfl:=k0y h;exact u5t
 ·obtain rfl:=k0y h;exact u5u
 ·obtain rfl:=k0y h;exact u5v
 ·obtain rfl:=k0y h;exact u5w
 ·obtain rfl:=k0y h;exact u5x
 ·obtain rfl:=k0y h;exact u5y
 ·obtain rfl:=k0y h;exact u5z
 ·exact absurd h (by simp)
theorem hT8:∀ t i,u2u t=some i→u0 Tryz.prog t=some i:=by
 intro t i h
 unfold u2u at h
 split at h
 ·obtain rfl:=k0y h;exact u6a
 ·obtain rfl:=k0y h;exact u6b
 ·obtain rfl:=k0y h;exact u6c
 ·obtain rfl:=k0y h;exact u6d
 ·obtain rfl:=k0y h;exact u6e
 ·obtain rfl:=k0y h;exact u6f
 ·obtain rfl:=k0y h;exact u6g
 ·obtain rfl:=k0y h;exact u6h
 ·obtain rfl:=k0y h;exact u6i
 ·obtain rfl:=k0y h;exact u6j
 ·obtain rfl:=k0y h;exact u6k
 ·obtain rfl:=k0y h;exact u6m
 ·obtain rfl:=k0y h;exact u6n
 ·obtain rfl:=k0y h;exact u6p
 ·obtain rfl:=k0y h;exact u6q
 ·obtain rfl:=k0y h;exact u6r
 ·exact absurd h (by simp)
theorem hT9:∀ t i,u2v t=some i→u0 Tryz.prog t=some i:=by
 intro t i h
 unfold u2v at h
 split at h
 ·obtain rfl:=k0y h;exact u6s
 ·obtain rfl:=k0y h;exact u6t
 ·obtain rfl:=k0y h;exact u6u
 ·obtain rfl:=k0y h;exact u6v
 ·obtain rfl:=k0y h;exact u6w
 ·obtain rfl:=k0y h;exact u6x
 ·obtain rfl:=k0y h;exact u6y
 ·obtain rfl:=k0y h;exact u6z
 ·obtain rfl:=k0y h;exact u7a
 ·obtain rfl:=k0y h;exact u7b
 ·obtain rfl:=k0y h;exact u7c
 ·obtain rfl:=k0y h;exact u7d
 ·obtain rfl:=k0y h;exact u7e
 ·obtain rfl:=k0y h;exact u7f
 ·obtain rfl:=k0y h;exact u7g
 ·obtain rfl:=k0y h;exact u7h
 ·exact absurd h (by simp)
theorem Q3v:∀ t i,v5t t=some i→u0 Tryz.prog t=some i:=by
 intro t i h
 unfold v5t at h
 split at h
 ·obtain rfl:=k0y h;exact u7i
 ·obtain rfl:=k0y h;exact u7j
 ·obtain rfl:=k0y h;exact u7k
 ·obtain rfl:=k0y h;exact u7m
 ·obtain rfl:=k0y h;exact u7n
 ·obtain rfl:=k0y h;exact u7p
 ·obtain rfl:=k0y h;exact u7q
 ·obtain rfl:=k0y h;exact u7r
 ·obtain rfl:=k0y h;exact u7s
 ·obtain rfl:=k0y h;exact u7t
 ·obtain rfl:=k0y h;exact u7u
 ·obtain rfl:=k0y h;exact u7v
 ·obtain rfl:=k0y h;exact u7w
 ·obtain rfl:=k0y h;exact u7x
 ·obtain rfl:=k0y h;exact u7y
 ·obtain rfl:=k0y h;exact u7z
 ·exact absurd h (by simp)
theorem Q3w:∀ t i,v5u t=some i→u0 Tryz.prog t=some i:=by
 intro t i h
 unfold v5u at h
 split at h
 ·obtain rfl:=k0y h;exact u8a
 ·obtain rfl:=k0y h;exact u8b
 ·obtain rfl:=k0y h;exact u8c
 ·obtain rfl:=k0y h;exact u8d
 ·obtain rfl:=k0y h;exact u8e
 ·obtain rfl:=k0y h;exact u8f
 ·obtain rfl:=k0y h;exact u8g
 ·obtain rfl:=k0y h;exact u8h
 ·obtain rfl:=k0y h;exact u8i
 ·obtain rfl:=k0y h;exact u8j
 ·obtain rfl:=k0y h;exact u8k
 ·obtain rfl:=k0y h;exact u8m
 ·obtain rfl:=k0y h;exact u8n
 ·obtain rfl:=k0y h;exact u8p
 ·obtain rfl:=k0y h;exact u8q
 ·obtain rfl:=k0y h;exact u8r
 ·exact absurd h (by simp)
theorem Q3x:∀ t i,v5v t=some i→u0 Tryz.prog t=some i:=by
 intro t i h
 unfold v5v at h
 split at h
 ·obtain rfl:=k0y h;exact u8s
 ·obtain rfl:=k0y h;exact u8t
 ·obtain rfl:=k0y h;exact u8u
 ·obtain rfl:=k0y h;exact u8v
 ·obtain rfl:=k0y h;exact u8w
 ·obtain rfl:=k0y h;exact u8x
 ·obtain rfl:=k0y h;exact u8y
 ·obtain rfl:=k0y h;exact u9a
 ·obtain rfl:=k0y h;exact u9b
 ·obtain rfl:=k0y h;exact u9c
 ·obtain rfl:=k0y h;exact u9d
 ·obtain rfl:=k0y h;exact u9e
 ·obtain rfl:=k0y h;exact u9f
 ·obtain rfl:=k0y h;exact u9g
 ·obtain rfl:=k0y h;exact u9h
 ·obtain rfl:=k0y h;exact u9i
 ·exact absurd h (by simp)
theorem Q3y:∀ t i,v5w t=some i→u0 Tryz.prog t=some i:=by
 intro t i h
 unfold v5w at h
 split at h
 ·obtain rfl:=k0y h;exact u9j
 ·obtain rfl:=k0y h;exact u9k
 ·obtain rfl:=k0y h;exact u9m
 ·obtain rfl:=k0y h;exact u9n
 ·obtain rfl:=k0y h;exact u9p
 ·obtain rfl:=k0y h;exact u9q
 ·obtain rfl:=k0y h;exact u9r
 ·obtain rfl:=k0y h;exact u9s
 ·exact absurd h (by simp)
theorem hT:TOk Tryz.prog tab:=by
 intro t i h
 unfold tab at h
 rcases q0m h with h|h
 ·rcases q0m h with h|h
  ·rcases q0m h with h|h
   ·exact hT0 t i h
   ·rcases q0m h with h|h
    ·exact hT1 t i h
    ·exact hT2 t i h
  ·rcases q0m h with h|h
   ·rcases q0m h with h|h
    ·exact hT3 t i h
    ·exact hT4 t i h
   ·rcases q0m h with h|h
    ·exact hT5 t i h
    ·exact hT6 t i h
 ·rcases q0m h with h|h
  ·rcases q0m h with h|h
   ·exact hT7 t i h
   ·rcases q0m h with h|h
    ·exact hT8 t i h
    ·exact hT9 t i h
  ·rcases q0m h with h|h
   ·rcases q0m h with h|h
    ·exact Q3v t i h
    ·exact Q3w t i h
   ·rcases q0m h with h|h
    ·exact Q3x t i h
    ·exact Q3y t i h
theorem y5:Tryz.prog.follows .mixedOrders=true:=by kernel_rfl
abbrev z4g:FuncId:=4
theorem z4h:type_of% Tryz.func4:=Tryz.func4
theorem z4i:type_of% Tryz.ntmps4:=Tryz.ntmps4
abbrev y8a:FuncId:=17
theorem y8b:type_of% Tryz.func17:=Tryz.func17
theorem y8c:type_of% Tryz.ntmps17:=Tryz.ntmps17
abbrev y8d:FuncId:=18
theorem y8e:type_of% Tryz.func18:=Tryz.func18
theorem y8f:type_of% Tryz.ntmps18:=Tryz.ntmps18
abbrev x4a:FuncId:=19
theorem x4b:type_of% Tryz.func19:=Tryz.func19
theorem x4c:type_of% Tryz.ntmps19:=Tryz.ntmps19
abbrev y8g:FuncId:=20
theorem y8h:type_of% Tryz.func20:=Tryz.func20
theorem y8i:type_of% Tryz.ntmps20:=Tryz.ntmps20
abbrev x8c:FuncId:=21
theorem x8d:type_of% Tryz.func21:=Tryz.func21
theorem x8e:type_of% Tryz.ntmps21:=Tryz.ntmps21
abbrev x4d:FuncId:=23
theorem x4e:type_of% Tryz.func23:=Tryz.func23
theorem x4f:type_of% Tryz.ntmps23:=Tryz.ntmps23
abbrev y8j:FuncId:=24
theorem y8k:type_of% Tryz.func24:=Tryz.func24
theorem y8m:type_of% Tryz.ntmps24:=Tryz.ntmps24
abbrev y4s:FuncId:=25
theorem y4t:type_of% Tryz.func25:=Tryz.func25
theorem y4u:type_of% Tryz.ntmps25:=Tryz.ntmps25
abbrev x4g:FuncId:=26
theorem x4h:type_of% Tryz.func26:=Tryz.func26
theorem x4i:type_of% Tryz.ntmps26:=Tryz.ntmps26
abbrev y8n:FuncId:=27
theorem y8p:type_of% Tryz.func27:=Tryz.func27
theorem y8q:type_of% Tryz.ntmps27:=Tryz.ntmps27
abbrev x4j:FuncId:=28
theorem x4k:type_of% Tryz.func28:=Tryz.func28
theorem x4m:type_of% Tryz.ntmps28:=Tryz.ntmps28
abbrev z6m:FuncId:=29
theorem z6n:type_of% Tryz.func29:=Tryz.func29
theorem z6p:type_of% Tryz.ntmps29:=Tryz.ntmps29
abbrev x8f:FuncId:=30
theorem x8g:type_of% Tryz.func30:=Tryz.func30
theorem x8h:type_of% Tryz.ntmps30:=Tryz.ntmps30
abbrev x8i:FuncId:=31
theorem x8j:type_of% Tryz.func31:=Tryz.func31
theorem x8k:type_of% Tryz.ntmps31:=Tryz.ntmps31
abbrev w4t:FuncId:=57
theorem w4u:type_of% Tryz.func57:=Tryz.func57
theorem w4v:type_of% Tryz.ntmps57:=Tryz.ntmps57
abbrev v0i:FuncId:=58
theorem v0j:type_of% Tryz.func58:=Tryz.func58
theorem v0k:type_of% Tryz.ntmps58:=Tryz.ntmps58
abbrev y8r:FuncId:=59
theorem y8s:type_of% Tryz.func59:=Tryz.func59
theorem y8t:type_of% Tryz.ntmps59:=Tryz.ntmps59
abbrev x8m:FuncId:=60
theorem x8n:type_of% Tryz.func60:=Tryz.func60
theorem x8p:type_of% Tryz.ntmps60:=Tryz.ntmps60
abbrev w4w:FuncId:=61
theorem w4x:type_of% Tryz.func61:=Tryz.func61
theorem w4y:type_of% Tryz.ntmps61:=Tryz.ntmps61
abbrev y8u:FuncId:=62
theorem y8v:type_of% Tryz.func62:=Tryz.func62
theorem y8w:type_of% Tryz.ntmps62:=Tryz.ntmps62
abbrev x8q:FuncId:=63
theorem x8r:type_of% Tryz.func63:=Tryz.func63
theorem x8s:type_of% Tryz.ntmps63:=Tryz.ntmps63
abbrev z6q:FuncId:=64
theorem z0b:type_of% Tryz.func64:=Tryz.func64
theorem z0c:type_of% Tryz.ntmps64:=Tryz.ntmps64
abbrev x4n:FuncId:=65
theorem x4p:type_of% Tryz.func65:=Tryz.func65
theorem x4q:type_of% Tryz.ntmps65:=Tryz.ntmps65
abbrev q1y:FuncId:=66
theorem y4v:type_of% Tryz.func66:=Tryz.func66
theorem y4w:type_of% Tryz.ntmps66:=Tryz.ntmps66
abbrev z6r:FuncId:=67
theorem z0d:type_of% Tryz.func67:=Tryz.func67
theorem z0e:type_of% Tryz.ntmps67:=Tryz.ntmps67
abbrev x4r:FuncId:=68
theorem x4s:type_of% Tryz.func68:=Tryz.func68
theorem x4t:type_of% Tryz.ntmps68:=Tryz.ntmps68
abbrev x8t:FuncId:=69
theorem x8u:type_of% Tryz.func69:=Tryz.func69
theorem x8v:type_of% Tryz.ntmps69:=Tryz.ntmps69
abbrev x4u:FuncId:=70
theorem x4v:type_of% Tryz.func70:=Tryz.func70
theorem x4w:type_of% Tryz.ntmps70:=Tryz.ntmps70
abbrev q1z:FuncId:=71
theorem q4f:type_of% Tryz.func71:=Tryz.func71
theorem q4g:type_of% Tryz.ntmps71:=Tryz.ntmps71
abbrev q8d:FuncId:=72
theorem z6s:type_of% Tryz.func72:=Tryz.func72
theorem z6t:type_of% Tryz.ntmps72:=Tryz.ntmps72
abbrev z6u:FuncId:=73
theorem z6v:type_of% Tryz.func73:=Tryz.func73
theorem z6w:type_of% Tryz.ntmps73:=Tryz.ntmps73
abbrev w4z:FuncId:=74
theorem w5a:type_of% Tryz.func74:=Tryz.func74
theorem w5b:type_of% Tryz.ntmps74:=Tryz.ntmps74
abbrev y1t:FuncId:=75
theorem y1u:type_of% Tryz.func75:=Tryz.func75
theorem y1v:type_of% Tryz.ntmps75:=Tryz.ntmps75
abbrev y1w:FuncId:=76
theorem y1x:type_of% Tryz.func76:=Tryz.func76
theorem y1y:type_of% Tryz.ntmps76:=Tryz.ntmps76
abbrev z6x:FuncId:=77
theorem z6y:type_of% Tryz.func77:=Tryz.func77
theorem z6z:type_of% Tryz.ntmps77:=Tryz.ntmps77
abbrev z9k:FuncId:=78
theorem z9m:type_of% Tryz.func78:=Tryz.func78
theorem z9n:type_of% Tryz.ntmps78:=Tryz.ntmps78
abbrev z9p:FuncId:=79
theorem z9q:type_of% Tryz.func79:=Tryz.func79
theorem z9r:type_of% Tryz.ntmps79:=Tryz.ntmps79
abbrev z9s:FuncId:=80
theorem z9t:type_of% Tryz.func80:=Tryz.func80
theorem z9u:type_of% Tryz.ntmps80:=Tryz.ntmps80
abbrev z9v:FuncId:=81
theorem z9w:type_of% Tryz.func81:=Tryz.func81
theorem z9x:type_of% Tryz.ntmps81:=Tryz.ntmps81
abbrev q8z:FuncId:=82
theorem z9y:type_of% Tryz.func82:=Tryz.func82
theorem z9z:type_of% Tryz.ntmps82:=Tryz.ntmps82
abbrev z7a:FuncId:=83
theorem z7b:type_of% Tryz.func83:=Tryz.func83
theorem z7c:type_of% Tryz.ntmps83:=Tryz.ntmps83
abbrev y8x:FuncId:=95
theorem y8y:type_of% Tryz.func95:=Tryz.func95
theorem y8z:type_of% Tryz.ntmps95:=Tryz.ntmps95
abbrev x8w:FuncId:=101
theorem x8x:type_of% Tryz.func101:=Tryz.func101
theorem x8y:type_of% Tryz.ntmps101:=Tryz.ntmps101
abbrev v5x:FuncId:=106
theorem v5y:type_of% Tryz.func106:=Tryz.func106
theorem v5z:type_of% Tryz.ntmps106:=Tryz.ntmps106
abbrev y9a:FuncId:=107
theorem y9b:type_of% Tryz.func107:=Tryz.func107
theorem y9c:type_of% Tryz.ntmps107:=Tryz.ntmps107
abbrev x4x:FuncId:=108
theorem x4y:type_of% Tryz.func108:=Tryz.func108
theorem x4z:type_of% Tryz.ntmps108:=Tryz.ntmps108
abbrev v0m:FuncId:=109
theorem v0n:type_of% Tryz.func109:=Tryz.func109
theorem v0p:type_of% Tryz.ntmps109:=Tryz.ntmps109
abbrev z7d:FuncId:=112
theorem z7e:type_of% Tryz.func112:=Tryz.func112
theorem z7f:type_of% Tryz.ntmps112:=Tryz.ntmps112
abbrev y4x:FuncId:=113
theorem y4y:type_of% Tryz.func113:=Tryz.func113
theorem y4z:type_of% Tryz.ntmps113:=Tryz.ntmps113
abbrev q1s:FuncId:=114
theorem y1z:type_of% Tryz.func114:=Tryz.func114
theorem y2a:type_of% Tryz.ntmps114:=Tryz.ntmps114
abbrev x8z:FuncId:=115
theorem x9a:type_of% Tryz.func115:=Tryz.func115
theorem x9b:type_of% Tryz.ntmps115:=Tryz.ntmps115
abbrev z7g:FuncId:=116
theorem x5a:type_of% Tryz.func116:=Tryz.func116
theorem x5b:type_of% Tryz.ntmps116:=Tryz.ntmps116
abbrev q6c:FuncId:=117
theorem y2b:type_of% Tryz.func117:=Tryz.func117
theorem y2c:type_of% Tryz.ntmps117:=Tryz.ntmps117
abbrev v0q:FuncId:=118
theorem v0r:type_of% Tryz.func118:=Tryz.func118
theorem v0s:type_of% Tryz.ntmps118:=Tryz.ntmps118
abbrev v0t:FuncId:=119
theorem v0u:type_of% Tryz.func119:=Tryz.func119
theorem v0v:type_of% Tryz.ntmps119:=Tryz.ntmps119
abbrev J6:FuncId:=120
theorem q3k:type_of% Tryz.func120:=Tryz.func120
theorem q3m:type_of% Tryz.ntmps120:=Tryz.ntmps120
abbrev y2d:FuncId:=121
theorem y2e:type_of% Tryz.func121:=Tryz.func121
theorem y2f:type_of% Tryz.ntmps121:=Tryz.ntmps121
abbrev x9c:FuncId:=122
theorem x9d:type_of% Tryz.func122:=Tryz.func122
theorem x9e:type_of% Tryz.ntmps122:=Tryz.ntmps122
abbrev w5c:FuncId:=123
theorem w5d:type_of% Tryz.func123:=Tryz.func123
theorem w5e:type_of% Tryz.ntmps123:=Tryz.ntmps123
abbrev x9f:FuncId:=124
theorem x9g:type_of% Tryz.func124:=Tryz.func124
theorem x9h:type_of% Tryz.ntmps124:=Tryz.ntmps124
abbrev x5c:FuncId:=125
theorem x5d:type_of% Tryz.func125:=Tryz.func125
theorem x5e:type_of% Tryz.ntmps125:=Tryz.ntmps125
abbrev x9i:FuncId:=126
theorem x9j:type_of% Tryz.func126:=Tryz.func126
theorem x9k:type_of% Tryz.ntmps126:=Tryz.ntmps126
abbrev y2g:FuncId:=127
theorem y2h:type_of% Tryz.func127:=Tryz.func127
theorem y2i:type_of% Tryz.ntmps127:=Tryz.ntmps127
abbrev z0f:FuncId:=128
theorem x5f:type_of% Tryz.func128:=Tryz.func128
theorem x5g:type_of% Tryz.ntmps128:=Tryz.ntmps128
abbrev z7h:FuncId:=129
theorem x5h:type_of% Tryz.func129:=Tryz.func129
theorem x5i:type_of% Tryz.ntmps129:=Tryz.ntmps129
abbrev y5a:FuncId:=130
theorem y5b:type_of% Tryz.func130:=Tryz.func130
theorem y5c:type_of% Tryz.ntmps130:=Tryz.ntmps130
abbrev x9m:FuncId:=131
theorem x9n:type_of% Tryz.func131:=Tryz.func131
theorem x9p:type_of% Tryz.ntmps131:=Tryz.ntmps131
abbrev q8s:FuncId:=132
theorem y9d:type_of% Tryz.func132:=Tryz.func132
theorem y9e:type_of% Tryz.ntmps132:=Tryz.ntmps132
abbrev x5j:FuncId:=133
theorem x5k:type_of% Tryz.func133:=Tryz.func133
theorem x5m:type_of% Tryz.ntmps133:=Tryz.ntmps133
abbrev x9q:FuncId:=134
theorem x9r:type_of% Tryz.func134:=Tryz.func134
theorem x9s:type_of% Tryz.ntmps134:=Tryz.ntmps134
abbrev z4u:FuncId:=135
theorem y9f:type_of% Tryz.func135:=Tryz.func135
theorem y9g:type_of% Tryz.ntmps135:=Tryz.ntmps135
abbrev q1b:FuncId:=136
theorem q6i:type_of% Tryz.func136:=Tryz.func136
theorem q6j:type_of% Tryz.ntmps136:=Tryz.ntmps136
abbrev q9a:FuncId:=137
theorem z3h:type_of% Tryz.func137:=Tryz.func137
theorem z3i:type_of% Tryz.ntmps137:=Tryz.ntmps137
abbrev z7i:FuncId:=138
theorem x5n:type_of% Tryz.func138:=Tryz.func138
theorem x5p:type_of% Tryz.ntmps138:=Tryz.ntmps138
abbrev J3:FuncId:=139
theorem q4h:type_of% Tryz.func139:=Tryz.func139
theorem q4i:type_of% Tryz.ntmps139:=Tryz.ntmps139
abbrev y2j:FuncId:=140
theorem y2k:type_of% Tryz.func140:=Tryz.func140
theorem y2m:type_of% Tryz.ntmps140:=Tryz.ntmps140
abbrev z7j:FuncId:=141
theorem z7k:type_of% Tryz.func141:=Tryz.func141
theorem z7m:type_of% Tryz.ntmps141:=Tryz.ntmps141
abbrev x9t:FuncId:=142
theorem x9u:type_of% Tryz.func142:=Tryz.func142
theorem x9v:type_of% Tryz.ntmps142:=Tryz.ntmps142
abbrev z0x:FuncId:=143
theorem y2n:type_of% Tryz.func143:=Tryz.func143
theorem y2p:type_of% Tryz.ntmps143:=Tryz.ntmps143
abbrev z5e:FuncId:=144
theorem z5f:type_of% Tryz.func144:=Tryz.func144
theorem z5g:type_of% Tryz.ntmps144:=Tryz.ntmps144
abbrev q7g:FuncId:=145
theorem z5h:type_of% Tryz.func145:=Tryz.func145
theorem z5i:type_of% Tryz.ntmps145:=Tryz.ntmps145
abbrev q6d:FuncId:=146
theorem q6e:type_of% Tryz.func146:=Tryz.func146
theorem q6f:type_of% Tryz.ntmps146:=Tryz.ntmps146
abbrev y0a:FuncId:=147
theorem y0b:type_of% Tryz.func147:=Tryz.func147
theorem y0c:type_of% Tryz.ntmps147:=Tryz.ntmps147
abbrev x0z:FuncId:=158
theorem v0w:type_of% Tryz.func158:=Tryz.func158
theorem v0x:type_of% Tryz.ntmps158:=Tryz.ntmps158
abbrev q4j:FuncId:=159
theorem y5d:type_of% Tryz.func159:=Tryz.func159
theorem y5e:type_of% Tryz.ntmps159:=Tryz.ntmps159
abbrev z1t:FuncId:=160
theorem y5f:type_of% Tryz.func160:=Tryz.func160
theorem y5g:type_of% Tryz.ntmps160:=Tryz.ntmps160
abbrev q2m:FuncId:=161
theorem z3j:type_of% Tryz.func161:=Tryz.func161
theorem z3k:type_of% Tryz.ntmps161:=Tryz.ntmps161
abbrev q4k:FuncId:=162
theorem z0g:type_of% Tryz.func162:=Tryz.func162
theorem z0h:type_of% Tryz.ntmps162:=Tryz.ntmps162
abbrev w5f:FuncId:=163
theorem w5g:type_of% Tryz.func163:=Tryz.func163
theorem w5h:type_of% Tryz.ntmps163:=Tryz.ntmps163
abbrev v6a:FuncId:=164
theorem v6b:type_of% Tryz.func164:=Tryz.func164
theorem v6c:type_of% Tryz.ntmps164:=Tryz.ntmps164
abbrev q1k:FuncId:=165
theorem q1m:type_of% Tryz.func165:=Tryz.func165
theorem q1n:type_of% Tryz.ntmps165:=Tryz.ntmps165
abbrev q0q:FuncId:=166
theorem x9w:type_of% Tryz.func166:=Tryz.func166
theorem x9x:type_of% Tryz.ntmps166:=Tryz.ntmps166
abbrev x1a:FuncId:=167
theorem x1b:type_of% Tryz.func167:=Tryz.func167
theorem x1c:type_of% Tryz.ntmps167:=Tryz.ntmps167
abbrev y9h:FuncId:=168
theorem y9i:type_of% Tryz.func168:=Tryz.func168
theorem y9j:type_of% Tryz.ntmps168:=Tryz.ntmps168
abbrev q5m:FuncId:=169
theorem z1u:type_of% Tryz.func169:=Tryz.func169
theorem z1v:type_of% Tryz.ntmps169:=Tryz.ntmps169
abbrev y5h:FuncId:=170
theorem w5i:type_of% Tryz.func170:=Tryz.func170
theorem w5j:type_of% Tryz.ntmps170:=Tryz.ntmps170
abbrev x9y:FuncId:=171
theorem x9z:type_of% Tryz.func171:=Tryz.func171
theorem w0a:type_of% Tryz.ntmps171:=Tryz.ntmps171
abbrev y5i:FuncId:=172
theorem y5j:type_of% Tryz.func172:=Tryz.func172
theorem y5k:type_of% Tryz.ntmps172:=Tryz.ntmps172
abbrev y1f:FuncId:=173
theorem w0b:type_of% Tryz.func173:=Tryz.func173
theorem w0c:type_of% Tryz.ntmps173:=Tryz.ntmps173
abbrev y1g:FuncId:=174
theorem w0d:type_of% Tryz.func174:=Tryz.func174
theorem w0e:type_of% Tryz.ntmps174:=Tryz.ntmps174
abbrev q6k:FuncId:=175
theorem z4j:type_of% Tryz.func175:=Tryz.func175
theorem z4k:type_of% Tryz.ntmps175:=Tryz.ntmps175
abbrev q8e:FuncId:=176
theorem q8f:type_of% Tryz.func176:=Tryz.func176
theorem q8g:type_of% Tryz.ntmps176:=Tryz.ntmps176
abbrev y5m:FuncId:=177
theorem y5n:type_of% Tryz.func177:=Tryz.func177
theorem y5p:type_of% Tryz.ntmps177:=Tryz.ntmps177
abbrev w0f:FuncId:=178
theorem w0g:type_of% Tryz.func178:=Tryz.func178
theorem w0h:type_of% Tryz.ntmps178:=Tryz.ntmps178
abbrev w0i:FuncId:=179
theorem w0j:type_of% Tryz.func179:=Tryz.func179
theorem w0k:type_of% Tryz.ntmps179:=Tryz.ntmps179
abbrev y2q:FuncId:=180
theorem y2r:type_of% Tryz.func180:=Tryz.func180
theorem y2s:type_of% Tryz.ntmps180:=Tryz.ntmps180
abbrev y0d:FuncId:=181
theorem y0e:type_of% Tryz.func181:=Tryz.func181
theorem y0f:type_of% Tryz.ntmps181:=Tryz.ntmps181
abbrev q4z:FuncId:=182
theorem q5a:type_of% Tryz.func182:=Tryz.func182
theorem q5b:type_of% Tryz.ntmps182:=Tryz.ntmps182
abbrev q2a:FuncId:=183
theorem z1w:type_of% Tryz.func183:=Tryz.func183
theorem z1x:type_of% Tryz.ntmps183:=Tryz.ntmps183
abbrev q1e:FuncId:=184
theorem q5c:type_of% Tryz.func184:=Tryz.func184
theorem q5d:type_of% Tryz.ntmps184:=Tryz.ntmps184
abbrev w5k:FuncId:=189
theorem w5m:type_of% Tryz.func189:=Tryz.func189
theorem w5n:type_of% Tryz.ntmps189:=Tryz.ntmps189
abbrev q5n:FuncId:=190
theorem w0m:type_of% Tryz.func190:=Tryz.func190
theorem w0n:type_of% Tryz.ntmps190:=Tryz.ntmps190
abbrev q4m:FuncId:=191
theorem y5q:type_of% Tryz.func191:=Tryz.func191
theorem y5r:type_of% Tryz.ntmps191:=Tryz.ntmps191
abbrev y5s:FuncId:=192
theorem y5t:type_of% Tryz.func192:=Tryz.func192
theorem y5u:type_of% Tryz.ntmps192:=Tryz.ntmps192
abbrev w0p:FuncId:=193
theorem w0q:type_of% Tryz.func193:=Tryz.func193
theorem w0r:type_of% Tryz.ntmps193:=Tryz.ntmps193
abbrev z5j:FuncId:=194
theorem w5p:type_of% Tryz.func194:=Tryz.func194
theorem w5q:type_of% Tryz.ntmps194:=Tryz.ntmps194
abbrev y5v:FuncId:=195
theorem y5w:type_of% Tryz.func195:=Tryz.func195
theorem y5x:type_of% Tryz.ntmps195:=Tryz.ntmps195
abbrev z5k:FuncId:=196
theorem z5m:type_of% Tryz.func196:=Tryz.func196
theorem z5n:type_of% Tryz.ntmps196:=Tryz.ntmps196
abbrev w0s:FuncId:=197
theorem w0t:type_of% Tryz.func197:=Tryz.func197
theorem w0u:type_of% Tryz.ntmps197:=Tryz.ntmps197
abbrev w0v:FuncId:=198
theorem w0w:type_of% Tryz.func198:=Tryz.func198
theorem w0x:type_of% Tryz.ntmps198:=Tryz.ntmps198
abbrev y9k:FuncId:=199
theorem y9m:type_of% Tryz.func199:=Tryz.func199
theorem y9n:type_of% Tryz.ntmps199:=Tryz.ntmps199
abbrev y5y:FuncId:=200
theorem y5z:type_of% Tryz.func200:=Tryz.func200
theorem y6a:type_of% Tryz.ntmps200:=Tryz.ntmps200
abbrev y2t:FuncId:=201
theorem y2u:type_of% Tryz.func201:=Tryz.func201
theorem y2v:type_of% Tryz.ntmps201:=Tryz.ntmps201
abbrev q5p:FuncId:=202
theorem q5q:type_of% Tryz.func202:=Tryz.func202
theorem q5r:type_of% Tryz.ntmps202:=Tryz.ntmps202
abbrev w5r:FuncId:=205
theorem w5s:type_of% Tryz.func205:=Tryz.func205
theorem w5t:type_of% Tryz.ntmps205:=Tryz.ntmps205
abbrev z7n:FuncId:=206
theorem z7p:type_of% Tryz.func206:=Tryz.func206
theorem z7q:type_of% Tryz.ntmps206:=Tryz.ntmps206
abbrev q4u:TypeId:=3
abbrev z1:TypeId:=5
abbrev z0:TypeId:=24
abbrev q0r:TypeId:=27
abbrev q0s:TypeId:=30
abbrev q9b:TypeId:=35
abbrev q0j:TypeId:=46
abbrev Y3:TypeId:=102
abbrev q7h:TypeId:=114
abbrev z1y:TypeId:=116
abbrev Z4:TypeId:=152
abbrev v6d:TypeId:=168
abbrev Z0:TypeId:=174
abbrev w0y:TypeId:=179
abbrev q7i:TypeId:=228
abbrev q1j:TypeId:=241
end Go.Proofs.YtinfbclgkghgaaaGreat.AL
/- The layer 06 (disk): a device as a plain value;its small functions walked. -/
namespace Go.Proofs.YtinfbclgkghgaaaGreat.AL
open Go Go.Proofs
abbrev u8 (b:UInt8):PV:=.raw (.int .u8 (b.toNat:Int))
abbrev z6:=List UInt8
def bx (l:z6):List (List PV):=l.map fun b=>[u8 b]
abbrev bP (l:z6):PV:=.sl 1 (bx l)
abbrev bA (l:z6):AV:=.p (bP l)
def ix (l:List Int):List (List PV):=l.map fun n=>[.raw (.int .i64 n)]
abbrev iP (l:List Int):PV:=.sl 1 (ix l)
structure Cell where
 s:z6
 lost:Bool
 drop:Int
 miss:List Int
 deriving Inhabited,DecidableEq
def Cell.pv (c:Cell):List PV:=[bP c.s,.raw (.bool c.lost),.raw (.int .i64 c.drop),iP c.miss]
structure Wr where
 at_:Int
 s:z6
 deriving Inhabited,DecidableEq
def Wr.pv (x:Wr):List PV:=[.raw (.int .i64 x.at_),bP x.s]
structure Dev where
 cells:List Cell
 waits:List Wr
 armed:Bool
 dead:Bool
 left:Int
 ops:Int
 deriving DecidableEq
def cx (l:List Cell):List (List PV):=l.map Cell.pv
def wx (l:List Wr):List (List PV):=l.map Wr.pv
abbrev q3w (D:Dev)(b c:Nat):ABlk:=.cells z1y [.msl b 4 0 D.cells.length,.msl c 2 0 D.waits.length,bl D.armed,bl D.dead,i64 D.left,i64 D.ops]
abbrev Y4 (D:Dev):List ABlk:=[q3w D 1 2,.row Z4 4 (cx D.cells),.row Z0 2 (wx D.waits)]
theorem v6e (D:Dev):AFm Tryz.prog 3 y2q [.ref 0 0] (Y4 D) (v8 (i64 D.cells.length) (Y4 D)):=by
 refine Q5 3 hT y2r rfl rfl y2s rfl rfl ?_
 refine q8 hT ?_
 refine z8 (q8 hT ?_)
 refine z4 ?_
 refine z5 ?_
 refine q8 hT ?_
 refine y9 ?_
 exact z9 [0,1,2] ⟨rfl,rfl⟩ rfl
theorem z3m (D:Dev):AFm Tryz.prog 3 z9v [.ref 0 0] (Y4 D) (v8 (bl D.dead) (Y4 D)):=by
 refine Q5 3 hT z9w rfl rfl z9x rfl rfl ?_
 refine q8 hT ?_
 refine q8 hT ?_
 refine y9 ?_
 exact z9 [0,1,2] ⟨rfl,rfl⟩ rfl
def Dev.has (D:Dev)(a:Int):Bool:=decide (a≥0)&&decide (a<(D.cells.length:Int))
theorem z7r (D:Dev)(a:Int):AFm Tryz.prog 3 y2j [.ref 0 0,i64 a] (Y4 D) (v8 (bl (D.has a)) (Y4 D)):=by
 refine Q5 3 hT y2k rfl rfl y2m rfl rfl ?_
 refine q8 hT ?_
 unfold Dev.has
 refine q8 hT ?_
 refine y4 (fun h=>?_) (fun h=>?_)
 ·refine x7 (Q7 [0,1,2] (v6e D) rfl rfl rfl) ?_
  refine y9 ?_
  refine z9 [0,1,2] ⟨?_,rfl⟩ rfl
  rw[h];rfl
 ·refine y9 ?_
  refine z9 [0,1,2] ⟨?_,rfl⟩ rfl
  rw[h];rfl
def Dev.lives (D:Dev):Dev:={ D with dead:=D.dead||(D.armed&&D.left==0),left:=IntKind.i64.wrap (D.left - 1) }
theorem y6b (D:Dev):AFm Tryz.prog 3 z7j [.ref 0 0] (Y4 D) (v8 (bl (!D.lives.dead)) (Y4 D.lives)):=by
 refine Q5 3 hT z7k rfl rfl z7m rfl rfl ?_
 refine q8 hT ?_
 refine z7 ⟨⟨29,[(0,.ref 0 0)]⟩,Y4 { D with dead:=D.dead||(D.armed&&D.left==0) }⟩ True (q8 hT ?_) (fun _=>?_)
 ·refine y4 (fun h=>?_) (fun h=>?_)
  ·refine z4 (y4 (fun h2=>?_) (fun h2=>?_))
   ·refine q9 hT ?_
    refine⟨?_,trivial⟩
    have h2:(D.left==0)=true:=h2
    rw[h,h2,Bool.true_and,Bool.or_true]
    exact q7 [0,1,2] [0] rfl
   ·refine z5 ⟨?_,trivial⟩
    have h2:(D.left==0)=false:=h2
    rw[h,h2,Bool.true_and,Bool.or_false]
    exact q7 [0,1,2] [0] rfl
  ·refine z4 ?_
   refine z5 ⟨?_,trivial⟩
   rw[h,Bool.false_and,Bool.or_false]
   exact q7 [0,1,2] [0] rfl
 ·refine q8 hT ?_
  refine q8 hT ?_
  refine y9 ?_
  exact z9 [0,1,2] ⟨rfl,rfl⟩ rfl
theorem w6 (l:z6):(bx l).length=l.length:=by simp[bx]
theorem y0g (l:List Int):(ix l).length=l.length:=by simp[ix]
theorem x5q (l:List Cell):(cx l).length=l.length:=by simp[cx]
theorem y0h (l:List Wr):(wx l).length=l.length:=by simp[wx]
theorem z7s (l:z6)(hl:l.length≤1000000):AF Tryz.prog q1b [bA l] [] (v8 (bA l) []):=by
 have hb:=w6 l
 generalize hx:bx l=xs at hb
 show AF Tryz.prog q1b [.p (.sl 1 (bx l))] [] (v8 (.p (.sl 1 (bx l))) [])
 rw[hx]
 refine z9j (t:=z1) (n:=xs.length) ?_ rfl
 refine v6 hT q6i rfl rfl q6j rfl ?_
 refine q8 hT ?_
 refine z8 (q8 hT ?_)
 intro b hn
 refine z4 (y4 (fun h=>?_) (fun h=>?_))
 ·refine q8 hT ?_
  refine y9 ?_
  rw[hn h]
  exact x3z z1 1 ⟨rfl,rfl⟩
 ·refine z5 ?_
  refine q8 hT ?_
  refine⟨rfl,⟨?_,?_⟩,?_⟩
  ·show (0+xs.length)*1≤_;omega
  ·show 0+xs.length≤_;omega
  refine y9 ?_
  exact z9 [1] ⟨rfl,rfl⟩ rfl
theorem v0y (l:List Int)(hl:l.length≤1000000):AF Tryz.prog q7g [.p (iP l)] [] (v8 (.msl 0 1 0 l.length) [.row q4u 1 (ix l)]):=by
 have hb:=y0g l
 rw[← hb]
 show AF Tryz.prog q7g [.p (.sl 1 (ix l))] [] (v8 (.msl 0 1 0 (ix l).length) [.row q4u 1 (ix l)])
 generalize ix l=xs at hb
 refine v6 hT z5h rfl rfl z5i rfl ?_
 refine q8 hT ?_
 refine z8 (q8 hT ?_)
 intro b hn
 refine z4 (y4 (fun h=>?_) (fun h=>?_))
 ·refine q8 hT ?_
  refine y9 ?_
  rw[hn h]
  exact x3z q4u 1 ⟨rfl,rfl⟩
 ·refine z5 ?_
  refine q8 hT ?_
  refine⟨rfl,⟨?_,?_⟩,?_⟩
  ·show (0+xs.length)*8≤_;omega
  ·show 0+xs.length≤_;omega
  refine y9 ?_
  exact z9 [1] ⟨rfl,rfl⟩ rfl
def q2b (l:List Cell)(x:Wr):List Cell:=match l[x.at_.toNat]? with
 |some c=>l.set x.at_.toNat { c with s:=x.s,lost:=false }
 |none=>l
def Dev.done (D:Dev)(x:Wr):Dev:={ D with cells:=q2b D.cells x }
theorem q9c (l:List Cell)(x:Wr):(q2b l x).length=l.length:=by unfold q2b;split <;> simp
theorem y6c {l:List Cell}{i:Nat}{c:Cell}(h:l[i]?=some c):(cx l)[i]?=some c.pv:=by rw[cx,k1q,h];rfl
theorem w5u (l:List Cell)(i:Nat)(c:Cell):cx (l.set i c)=(cx l).set i c.pv:=by simp[cx,List.map_set]
theorem y6d {l:List Wr}{i:Nat}{c:Wr}(h:l[i]?=some c):(wx l)[i]?=some c.pv:=by rw[wx,k1q,h];rfl
theorem z5p {l:List Cell}{x:Wr}{c:Cell}(h:l[x.at_.toNat]?=some c):q2b l x=l.set x.at_.toNat { c with s:=x.s,lost:=false }:=by
 unfold q2b;rw[h]
theorem x1d (D:Dev)(x:Wr)(h0:0≤x.at_)(h1:x.at_.toNat<D.cells.length):AFm Tryz.prog 3 y0a [.ref 0 0,.agg [i64 x.at_,bA x.s]] (Y4 D) (v8 (.tup []) (Y4 (D.done x))):=by
 have hc:=k0x h1
 generalize D.cells[x.at_.toNat]=c at hc
 have e:(D.done x).cells=D.cells.set x.at_.toNat { c with s:=x.s,lost:=false }:=z5p hc
 have el:(D.done x).cells.length=D.cells.length:=q9c _ _
 have hlt:x.at_<(D.cells.length:Int):=by omega
 have g1:(cx D.cells)[0+x.at_.toNat]?=some c.pv:=by rw[Nat.zero_add];exact y6c hc
 have g2:∀ e,((cx D.cells).set (0+x.at_.toNat) e)[0+x.at_.toNat]?=some e:=fun e=>by
  rw[Nat.zero_add];exact k2y (by rw[x5q];exact h1)
 refine Q5 3 hT y0b rfl rfl y0c rfl rfl ?_
 refine q8 hT ?_
 refine u6 (Q4 3 [.raw (.int .i64 x.at_),bP x.s] rfl rfl) ?_
 refine v7 [16,19] [] hT y5 (by rfl) ?_
 refine⟨⟨h0,hlt⟩,?_⟩
 refine w9 g1 ?_
 refine⟨⟨h0,hlt⟩,?_⟩
 refine w9 (g2 _) ?_
 refine⟨rfl,?_⟩
 refine z9 [0,1,2] ⟨rfl,?_⟩ rfl
 have el':((D.done x).cells.length:Int)=D.cells.length:=by rw[el]
 show [q3w D 1 2,.row Z4 4 (((cx D.cells).set (0+x.at_.toNat) _).set (0+x.at_.toNat) _),.row Z0 2 (wx D.waits)]=[q3w (D.done x) 1 2,.row Z4 4 (cx (D.done x).cells),.row Z0 2 (wx D.waits)]
 rw[show q3w (D.done x) 1 2=q3w D 1 2 by unfold q3w;rw[el];rfl,e,w5u,List.set_set,Nat.zero_add]
 rfl
def kx (l:List Bool):List (List PV):=l.map fun b=>[.raw (.bool b)]
theorem x5r (l:List Bool):(kx l).length=l.length:=by simp[kx]
def kept (keep:List Bool)(i:Nat):Bool:=decide (0<keep.length)&&keep.getD (i % keep.length) false
def q2r (W:List Wr)(keep:List Bool):Nat→List Cell→List Cell
 |0,cs=>cs
 |i+1,cs=>match kept keep i with
  |true=>q2b (q2r W keep i cs) (W.getD i ⟨0,[]⟩)
  |false=>q2r W keep i cs
theorem q5e (W:List Wr)(keep:List Bool)(cs:List Cell):∀ i,(q2r W keep i cs).length=cs.length
 |0=>rfl
 |i+1=>by
  unfold q2r;split
  ·rw[q9c,q5e W keep cs i]
  ·exact q5e W keep cs i
def Dev.drain (D:Dev)(keep:List Bool):Dev:={ D with cells:=q2r D.waits keep D.waits.length D.cells,waits:=[] }
def Dev.waitsIn (D:Dev):Prop:=∀ x∈D.waits,0≤x.at_∧x.at_<(D.cells.length:Int)
theorem y8 (n:Int)(h0 : -9223372036854775808≤n)(h:n≤9223372036854775807):IntKind.i64.wrap n=n:=by
 rw[IntKind.wrap_i64];omega
theorem w5v (D:Dev)(keep:List Bool)(hw:D.waitsIn)(hn:D.waits.length≤1000000):AFm Tryz.prog 1 z7a [.ref 0 0,.p (.sl 1 (kx keep))] (Y4 D) (v8 (.tup []) (Y4 (D.drain keep))):=by
 refine Q5 1 hT z7b rfl rfl z7c rfl rfl ?_
 refine z8 (q8 hT ?_)
 refine z3 ?_
 refine y7 (fun n s=>∃ (i:Nat) (j:Int) (C:List Cell),n+i=D.waits.length∧j=i∧C=q2r D.waits keep i D.cells∧s=⟨⟨35,[(0,.ref 0 0),(1,.p (.sl 1 (kx keep))),(9,.msl 2 2 0 D.waits.length),(10,i64 D.waits.length),(11,i64 j)]⟩,Y4 { D with cells:=C }⟩) D.waits.length ⟨⟨35,_⟩,[_,_,_]⟩ (q7 [0,1,2] [0,1,9,10,11] rfl) ⟨0,_,_,by omega,rfl,rfl,rfl⟩ ?_
 rintro n s ⟨i,j,C,hni,rfl,hC,rfl⟩
 refine q8 hT ?_
 refine z8 (z4 (y4 (fun h=>?_) (fun h=>?_)))
 ·have hi:i<D.waits.length:=by
   have:=k0q (show decide ((i:Int)<(D.waits.length:Int))=true from h)
   omega
  have hx:=k0x hi
  have hin:=hw _ (k1x hi)
  generalize D.waits[i]=x at hx hin
  have hCl:C.length=D.cells.length:=by rw[hC,q5e]
  refine z5 ?_
  refine z8 (z3 (q8 hT ?_))
  refine⟨⟨k2w _,k0q h⟩,?_⟩
  refine w9 (show (wx D.waits)[0+((i:Nat):Int).toNat]?=some x.pv by rw[Nat.zero_add,k0v];exact y6d hx) ?_
  refine q8 hT ?_
  have out:∀ b,kept keep i=b→(match b with|true=>q2b C x|false=>C)=q2r D.waits keep (i+1) D.cells:=fun b hb=>by
   have hxd:D.waits.getD i ⟨0,[]⟩=x:=by rw[k0w,hx];rfl
   unfold q2r;rw[hb,hxd,← hC]
  refine y4 (fun h1=>?_) (fun h1=>?_)
  ·have h1':0<keep.length:=by
    have:((kx keep).length:Int) > 0:=k0q h1
    rw[x5r]at this;omega
   have e1:((i:Int).tmod ((kx keep).length:Int))=((i % keep.length:Nat):Int):=by
    rw[x5r,Int.tmod_eq_emod_of_nonneg (k2w _)];exact(Int.natCast_emod i keep.length).symm
   have hlt:i % keep.length<keep.length:=Nat.mod_lt _ h1'
   have hk:=k0x hlt
   generalize keep[i % keep.length]=b at hk
   have hkept:kept keep i=b:=by
    unfold kept;rw[k0w,hk,k1u h1'];rfl
   refine y3s (b:=decide (((kx keep).length:Int)≠0)) (k1u (by rw[x5r];omega)) ?_
   refine⟨by rw[e1];omega,w9 (show (kx keep)[((i:Int).tmod ((kx keep).length:Int)).toNat]?=some [.raw (.bool b)] by
    rw[e1,k0v,kx,k1q,hk];rfl) ?_⟩
   refine z4 (y4 (fun hb=>?_) (fun hb=>?_))
   ·refine q9 hT ?_
    refine x7 (Q7 [0,1,2] (x1d { D with cells:=C } x hin.1 (by show x.at_.toNat<C.length;omega)) rfl rfl rfl) ?_
    refine q9 hT ?_
    refine⟨n - 1,by omega,_,q7 [0,1,2] [0,1,9,10,11] rfl,i+1,_,q2b C x,by omega,?_,?_,rfl⟩
    ·rw[y8 _ (by omega) (by omega)];rfl
    ·exact(out _ (hkept.trans hb))
   ·refine z5 ?_
    refine q9 hT ?_
    refine⟨n - 1,by omega,_,q7 [0,1,2] [0,1,9,10,11] rfl,i+1,_,C,by omega,?_,?_,rfl⟩
    ·rw[y8 _ (by omega) (by omega)];rfl
    ·exact(out _ (hkept.trans hb))
  ·have hk:kept keep i=false:=by
    have:¬ ((kx keep).length:Int) > 0:=k0z h1
    rw[x5r]at this
    unfold kept;rw[k1t (by omega)];rfl
   refine z4 ?_
   refine z5 ?_
   refine q9 hT ?_
   refine⟨n - 1,by omega,_,q7 [0,1,2] [0,1,9,10,11] rfl,i+1,_,C,by omega,?_,?_,rfl⟩
   ·rw[y8 _ (by omega) (by omega)];rfl
   ·exact(out _ hk)
 ·refine x6 ?_
  refine q9 hT ?_
  have hi:i=D.waits.length:=by
   have:¬ ((i:Int)<(D.waits.length:Int)):=k0z h
   omega
  refine⟨_,_,Wk.trans (Q2 Z0 2) (Wk.trans (V0 0 [.msl 1 4 0 C.length,.msl 3 2 0 0,bl D.armed,bl D.dead,i64 D.left,i64 D.ops] rfl ⟨.inl rfl,.inr (.inr (.inl ⟨3,2,0,rfl,rfl⟩)),.inl rfl,.inl rfl,.inl rfl,.inl rfl,trivial⟩) (q7 [0,1,3] [0] rfl)),rfl,?_⟩
  rw[hC,hi]
  rfl
def Dev.flush (D:Dev):Int × Dev:=match D.dead with
 |true=>(21,D)
 |false=>match D.lives.dead with
  |true=>(21,D.lives)
  |false=>(0,D.lives.drain [true])
theorem not_not {b c:Bool}(h:(!(!b))=c):b=c:=by rw[Bool.not_not]at h;exact h
theorem y6e (D:Dev)(hw:D.waitsIn)(hn:D.waits.length≤1000000):AFm Tryz.prog 1 z6u [.ref 0 0] (Y4 D) (v8 (i64 D.flush.1) (Y4 D.flush.2)):=by
 refine Q5 1 hT z6v rfl rfl z6w rfl rfl ?_
 refine q8 hT ?_
 refine z8 (q8 hT ?_)
 refine x7 (Q7 [0,1,2] (z3m D) rfl rfl rfl) ?_
 refine y4 (fun h=>?_) (fun h=>?_)
 ·refine z4 ?_
  refine q8 hT ?_
  refine y9 ?_
  have e:D.flush=(21,D):=by unfold Dev.flush;rw[h]
  rw[e]
  exact z9 [0,1,2] ⟨rfl,rfl⟩ rfl
 ·refine x7 (Q7 [0,1,2] (y6b D) rfl rfl rfl) ?_
  refine z4 (y4 (fun h1=>?_) (fun h1=>?_))
  ·have e:D.flush=(21,D.lives):=by unfold Dev.flush;rw[h,not_not h1]
   refine q8 hT ?_
   refine y9 ?_
   rw[e]
   exact z9 [0,1,2] ⟨rfl,rfl⟩ rfl
  ·have e:D.flush=(0,D.lives.drain [true]):=by unfold Dev.flush;rw[h,not_not h1]
   refine z5 ?_
   refine z8 (X8 (fun k=>Nat.beq 1 k) hT ?_)
   refine⟨⟨rfl,rfl⟩,?_⟩
   refine x7 (Q7 [0,1,2] (w5v D.lives [true] hw hn) rfl rfl rfl) ?_
   refine q8 hT ?_
   refine y9 ?_
   rw[e]
   exact z9 [0,3,4] ⟨rfl,rfl⟩ rfl
def Dev.crashed (D:Dev)(keep:List Bool):Dev:={ D.drain keep with dead:=false,armed:=false }
theorem y6f (D:Dev)(i:Nat)(c:Cell):Y4 { D with cells:=D.cells.set i c }=[q3w D 1 2,.row Z4 4 ((cx D.cells).set (0+i) c.pv),.row Z0 2 (wx D.waits)]:=by
 unfold Y4 q3w;rw[Nat.zero_add,← w5u,List.length_set]
theorem u2w (l:List Wr)(x:Wr):wx (l++[x])=wx l++[x.pv]:=by simp[wx]
theorem v6f (D:Dev)(x:Wr):Y4 { D with waits:=D.waits++[x] }=[.cells z1y [.msl 1 4 0 D.cells.length,.msl 2 2 0 (wx D.waits++[x.pv]).length,bl D.armed,bl D.dead,i64 D.left,i64 D.ops],.row Z4 4 (cx D.cells),.row Z0 2 (wx D.waits++[x.pv])]:=by
 unfold Y4 q3w;rw[← u2w,y0h]
def Dev.put (D:Dev)(a:Int)(s:z6):Dev:=match D.cells[a.toNat]? with
 |none=>D
 |some c=>match decide (c.drop > 0) with
  |true=>{ D with cells:=D.cells.set a.toNat { c with drop:=IntKind.i64.wrap (c.drop - 1) } }
  |false=>match c.miss with
   |[]=>{ D with waits:=D.waits++[⟨a,s⟩] }
   |t :: r=>{ D with cells:=D.cells.set a.toNat { c with miss:=r },waits:=D.waits++[⟨t,s⟩] }
def Dev.count (D:Dev):Dev:={ D with ops:=IntKind.i64.wrap (D.ops+1) }
def Dev.write (D:Dev)(a:Int)(s:z6):Int × Dev:=match D.dead with
 |true=>(21,D)
 |false=>match D.has a with
  |false=>(3,D)
  |true=>match ((s.length:Int) != 256) with
   |true=>(1,D)
   |false=>match D.lives.dead with
    |true=>(21,D.lives)
    |false=>(0,D.lives.count.put a s)
theorem w0z {D:Dev}{a:Int}{s c1:z6}{c2:Bool}{c3:Int}{c4:List Int}(hc:D.cells[a.toNat]?=some ⟨c1,c2,c3,c4⟩)(h:decide (c3 > 0)=true) :
 D.put a s = { D with cells:=D.cells.set a.toNat ⟨c1,c2,IntKind.i64.wrap (c3 - 1),c4⟩ }:=by
 unfold Dev.put;rw[hc];simp only[h]
theorem w1a {D:Dev}{a:Int}{s c1:z6}{c2:Bool}{c3 t:Int}{r:List Int}(hc:D.cells[a.toNat]?=some ⟨c1,c2,c3,t :: r⟩)(h:decide (c3 > 0)=false) :
 D.put a s = { D with cells:=D.cells.set a.toNat ⟨c1,c2,c3,r⟩,waits:=D.waits++[⟨t,s⟩] }:=by
 unfold Dev.put;rw[hc];simp only[h]
theorem x1e {D:Dev}{a:Int}{s c1:z6}{c2:Bool}{c3:Int}(hc:D.cells[a.toNat]?=some ⟨c1,c2,c3,[]⟩)(h:decide (c3 > 0)=false) :
 D.put a s = { D with waits:=D.waits++[⟨a,s⟩] }:=by
 unfold Dev.put;rw[hc];simp only[h]
theorem y6g (D:Dev)(a:Int)(s:z6)(hn:D.waits.length≤1000000):AFm Tryz.prog 1 q8d [.ref 0 0,i64 a,bA s] (Y4 D) (v8 (i64 (D.write a s).1) (Y4 (D.write a s).2)):=by
 refine Q5 1 hT z6s rfl rfl z6t rfl rfl ?_
 refine q8 hT ?_
 refine z7 ⟨⟨84,[(0,.ref 0 0),(1,i64 a),(2,bA s)]⟩,Y4 D.lives⟩ (D.dead=false∧D.has a=true∧s.length=256∧D.lives.dead=false) (z3 (q8 hT ?_)) ?_
 ·refine x7 (Q7 [0,1,2] (z3m D) rfl rfl rfl) ?_
  refine z4 (y4 (fun h=>?_) (fun h=>?_))
  ·have e:D.write a s=(21,D):=by unfold Dev.write;rw[h]
   refine q8 hT ?_
   refine y9 ?_
   rw[e]
   exact z9 [0,1,2] ⟨rfl,rfl⟩ rfl
  refine q8 hT ?_
  refine x7 (Q7 [0,1,2] (z7r D a) rfl rfl rfl) ?_
  refine z4 (y4 (fun h1=>?_) (fun h1=>?_))
  ·have h1:(!(D.has a))=true:=h1
   have e:D.write a s=(3,D):=by unfold Dev.write;rw[h,(Bool.not_eq_true' _).mp h1]
   refine q8 hT ?_
   refine y9 ?_
   rw[e]
   exact z9 [0,1,2] ⟨rfl,rfl⟩ rfl
  have h1:D.has a=true:=(Bool.not_eq_false' _).mp h1
  refine q8 hT ?_
  refine z4 (y4 (fun h2=>?_) (fun h2=>?_))
  ·have e:D.write a s=(1,D):=by
    have h2:(((bx s).length:Int) != 256)=true:=h2
    rw[w6]at h2
    unfold Dev.write;rw[h,h1,h2]
   refine q8 hT ?_
   refine y9 ?_
   rw[e]
   exact z9 [0,1,2] ⟨rfl,rfl⟩ rfl
  have h2:((s.length:Int) != 256)=false:=by
   have h2:(((bx s).length:Int) != 256)=false:=h2
   rw[w6]at h2;exact h2
  refine q8 hT ?_
  refine x7 (Q7 [0,1,2] (y6b D) rfl rfl rfl) ?_
  refine z4 (y4 (fun h3=>?_) (fun h3=>?_))
  ·have e:D.write a s=(21,D.lives):=by unfold Dev.write;rw[h,h1,h2,not_not h3]
   refine q8 hT ?_
   refine y9 ?_
   rw[e]
   exact z9 [0,1,2] ⟨rfl,rfl⟩ rfl
  refine z5 ⟨q7 [0,1,2] [0,1,2] rfl,h,h1,?_,not_not h3⟩
  have:(s.length:Int)=256:=by simpa using h2
  omega
 ·rintro⟨h,h1,h2,h3⟩
  have e:D.write a s=(0,D.lives.count.put a s):=by
   unfold Dev.write;rw[h,h1,show ((s.length:Int) != 256)=false by rw[h2];rfl,h3]
  rw[e]
  have hlt:a.toNat<D.cells.length∧0≤a∧a<(D.cells.length:Int):=by
   have h1:(decide (a≥0)&&decide (a<(D.cells.length:Int)))=true:=h1
   rw[k1v,decide_eq_true_eq,decide_eq_true_eq]at h1
   omega
  have hc:=k0x hlt.1
  generalize D.cells[a.toNat]=c at hc
  obtain⟨c1,c2,c3,c4⟩:=c
  have g1:(cx D.cells)[0+a.toNat]?=some (Cell.pv ⟨c1,c2,c3,c4⟩):=by rw[Nat.zero_add];exact y6c hc
  have g2:∀ e,((cx D.cells).set (0+a.toNat) e)[0+a.toNat]?=some e:=fun e=>by
   rw[Nat.zero_add];exact k2y (by rw[x5q];exact hlt.1)
  refine q8 hT ?_
  refine q8 hT ?_
  refine⟨⟨hlt.2.1,hlt.2.2⟩,?_⟩
  refine y6 (fun s1=>∃ C b,s1=⟨⟨84,[(0,.ref 0 0),(1,i64 b),(2,bA s)]⟩,Y4 { D.lives.count with cells:=C }⟩∧D.lives.count.put a s = { D.lives.count with cells:=C,waits:=D.waits++[⟨b,s⟩] }) (z3 (q8 hT ?_)) ?_
  ·refine w9 g1 ?_
   refine z4 (y4 (fun h4=>?_) (fun h4=>?_))
   ·have h4:decide (c3 > 0)=true:=h4
    have ep:D.lives.count.put a s = { D.lives.count with cells:=D.cells.set a.toNat ⟨c1,c2,IntKind.i64.wrap (c3 - 1),c4⟩ }:=w0z (D:=D.lives.count) hc h4
    refine q8 hT ?_
    refine w9 g1 ?_
    refine w9 g1 ?_
    refine q8 hT ?_
    refine y9 ?_
    rw[ep]
    exact z9 [0,1,2] ⟨rfl,(y6f D.lives.count a.toNat ⟨c1,c2,IntKind.i64.wrap (c3 - 1),c4⟩).symm⟩ rfl
   ·have h4:decide (c3 > 0)=false:=h4
    refine q8 hT ?_
    refine w9 g1 ?_
    refine z4 (y4 (fun h5=>?_) (fun h5=>?_))
    ·cases c4 with
     |nil=>cases h5
     |cons t r=>
      have ep:D.lives.count.put a s = { D.lives.count with cells:=D.cells.set a.toNat ⟨c1,c2,c3,r⟩,waits:=D.waits++[⟨t,s⟩] }:=w1a (D:=D.lives.count) hc h4
      refine v7 [15] [] hT y5 (by rfl) ?_
      refine w9 g1 ?_
      refine⟨Int.le_refl _,w9 rfl ?_⟩
      refine w9 g1 ?_
      refine⟨⟨by omega,by rw[y0g];simp;omega,Int.le_refl _⟩,?_⟩
      refine w9 g1 ?_
      refine⟨_,q7 [0,1,2] [0,1,2] rfl,D.cells.set a.toNat ⟨c1,c2,c3,r⟩,t,?_,ep⟩
      refine congrArg (St.mk _) ?_
      refine Eq.trans ?_ (y6f D.lives.count a.toNat ⟨c1,c2,c3,r⟩).symm
      show [_,ABlk.row Z4 4 ((cx D.cells).set (0+a.toNat) [bP c1,.raw (.bool c2),.raw (.int .i64 c3),.sl 1 ((ix r).take (ix r).length)]),_]=_
      rw[List.take_length]
      rfl
    ·have h5:¬ ((ix c4).length:Int) > 0:=k0z h5
     have hc4:c4=[]:=by cases c4 with|nil=>rfl|cons t r=>exact absurd (show ((ix (t :: r)).length:Int) > 0 by rw[y0g];simp) h5
     subst hc4
     refine z5 ⟨_,q7 [0,1,2] [0,1,2] rfl,D.cells,a,rfl,x1e (D:=D.lives.count) hc h4⟩
  ·rintro _ ⟨C,b,rfl,ep⟩
   rw[ep]
   refine z8 ?_
   refine v7 [9,10,13] [] hT y5 (by rfl) ?_
   refine⟨_,w7 (z7s s (by omega)) _ rfl rfl,?_⟩
   refine⟨y0h _,⟨?_,?_⟩,?_⟩
   ·show ((wx D.waits).length+1)*32≤140737488355328
    rw[y0h];omega
   ·show (wx D.waits).length+1≤140737488355328
    rw[y0h];omega
   refine⟨rfl,?_⟩
   refine q8 hT ?_
   refine y9 ?_
   exact z9 [0,1,4] ⟨rfl,(v6f { D.lives.count with cells:=C } ⟨b,s⟩).symm⟩ rfl
def z4v:z6:=List.replicate 256 0
abbrev cell0:Cell:=⟨[],false,0,[]⟩
abbrev cell1:Cell:=⟨z4v,false,0,[]⟩
def Dev.new (n:Nat):Dev:=⟨List.replicate n cell1,[],false,false,0,0⟩
def z5q (n i:Nat):List Cell:=List.replicate i cell1++List.replicate (n - i) cell0
theorem v6g {n i:Nat}(h:i≤n):(z5q n i).length=n:=by simp[z5q];omega
theorem v6h {n i:Nat}(h:i<n):(z5q n i)[i]?=some cell0:=by
 unfold z5q;rw[k0s (by simp)]
 rw[k2q,Nat.sub_self,show n - i=(n - i - 1)+1 by omega];rfl
theorem v6i {n i:Nat}(h:i<n):(z5q n i).set i cell1=z5q n (i+1):=by
 unfold z5q
 rw[List.set_append_right _ _ (by simp),k2q,Nat.sub_self,show n - i=(n - (i+1))+1 by omega,List.replicate_succ,List.replicate_succ']
 simp
theorem v6j (n:Nat)(h1:1≤n)(h2:n≤4096):AF Tryz.prog w4t [i64 n] [] (v8 (.tup [.ref 0 0,i64 0]) (Y4 (Dev.new n))):=by
 refine v6 hT w4u rfl rfl w4v rfl ?_
 refine q8 hT ?_
 refine z8 (q8 hT ?_)
 refine y4 (fun h1=>?_) (fun h1=>?_)
 ·have:=k0q h1
  omega
 refine z4 (y4 (fun h2=>?_) (fun h2=>?_))
 ·have h2:decide ((n:Int) > 4096)=true:=h2
  have:=k0q h2
  omega
 refine z5 ?_
 refine q8 hT ?_
 refine⟨⟨rfl,by omega,(show ((n:Nat):Int)*64≤140737488355328 by omega),by omega⟩,?_⟩
 refine u6 (Wk.trans (w4r 0 (cx (z5q n 0)) rfl ?_ ?_) (Wk.trans (Q2 Z0 2) (Wk.trans (V0 1 [.msl 0 4 0 n,.msl 2 2 0 0,bl false,bl false,i64 0,i64 0] rfl ⟨.inl rfl,.inr (.inr (.inl ⟨2,2,0,rfl,rfl⟩)),.inl rfl,.inl rfl,.inl rfl,.inl rfl,trivial⟩) (q7 [1,0,2] [4] rfl)))) ?_
 ·show (cx (z5q n 0)).length=(List.replicate ((n:Int).toNat) _).length
  rw[x5q,v6g (Nat.zero_le n),k2q];omega
 ·intro j e2 hj
  have hx:cx (z5q n 0)=List.replicate n cell0.pv:=by simp[cx,z5q]
  rw[hx]at hj
  have hjn:j<n:=by have:=(k0u.1 hj).1;simpa using this
  have:e2=cell0.pv:=by
   rw[List.getElem?_replicate,if_pos hjn]at hj
   exact(k0y hj).symm
  subst this
  refine⟨[.raw (.slice none 0 0),.raw (.bool false),.raw (.int .i64 0),.raw (.slice none 0 0)],?_,rfl,?_⟩
  ·show (List.replicate ((n:Int).toNat) _)[j]?=_
   rw[List.getElem?_replicate,if_pos (by omega)];rfl
  ·intro i u2 hu
   match i,hu with
   |0,hu=>exact⟨_,rfl,.inr ⟨1,rfl,(k0y hu).symm⟩⟩
   |1,hu=>exact⟨_,rfl,.inl (k0y hu).symm⟩
   |2,hu=>exact⟨_,rfl,.inl (k0y hu).symm⟩
   |3,hu=>exact⟨_,rfl,.inr ⟨1,rfl,(k0y hu).symm⟩⟩
 refine z8 (q8 hT ?_)
 refine z3 ?_
 refine y7 (fun r s=>∃ (i:Nat) (j:Int) (C:List Cell),r+i=n∧j=i∧C=z5q n i∧s=⟨⟨34,[(4,.ref 0 0),(20,i64 (n:Nat)),(21,i64 j)]⟩,[.cells z1y [.msl 1 4 0 n,.msl 2 2 0 0,bl false,bl false,i64 0,i64 0],.row Z4 4 (cx C),.row Z0 2 []]⟩) n ⟨⟨34,_⟩,[_,_,_]⟩ (q7 [0,1,2] [4,20,21] rfl) ⟨0,_,_,rfl,rfl,rfl,rfl⟩ ?_
 rintro r s ⟨i,j,C,hr,rfl,hC,rfl⟩
 refine q8 hT ?_
 refine z8 (z4 (y4 (fun h=>?_) (fun h=>?_)))
 ·refine z5 ?_
  have hi:i<n:=by simpa using h
  refine z8 (z3 (q8 hT ?_))
  refine v7 [5,8] [5] hT y5 (by rfl) ?_
  have hg:(cx C)[0+((i:Nat):Int).toNat]?=some cell0.pv:=by
   rw[hC,k0v,Nat.zero_add];exact y6c (v6h hi)
  refine⟨⟨rfl,by omega,by decide,by omega⟩,?_⟩
  refine⟨⟨rfl,List.length_replicate.symm⟩,?_⟩
  refine⟨⟨k2w _,by omega⟩,?_⟩
  refine w9 hg ?_
  refine y3s rfl (w9 rfl ?_)
  refine⟨rfl,?_⟩
  refine q9 hT ?_
  refine⟨n - (i+1),by omega,_,q7 [0,1,2] [4,20,21] rfl,i+1,IntKind.i64.wrap ((i:Int)+1),z5q n (i+1),by omega,?_,rfl,?_⟩
  ·rw[y8 _ (by omega) (by omega)];rfl
  ·refine congrArg (St.mk _) ?_
   have e:cx (z5q n (i+1))=(cx C).set (0+((i:Nat):Int).toNat) cell1.pv:=by
    rw[← v6i hi,← hC,w5u,k0v,Nat.zero_add]
   rw[e]
   refine congrArg (fun z=>[_,ABlk.row Z4 4 ((cx C).set (0+((i:Nat):Int).toNat) [.sl 1 z,_,_,_]),_]) ?_
   show List.replicate 256 [PV.raw (.int .u8 0)]=bx (List.replicate 256 0)
   rw[bx,List.map_replicate];rfl
 ·refine x6 ?_
  refine q8 hT ?_
  refine y9 ?_
  have hi:i=n:=by
   have:¬ i<n:=by simpa using h
   omega
  have hx:C=List.replicate n cell1:=by rw[hC,hi];simp[z5q]
  refine z9 [0,1,2] ⟨rfl,?_⟩ rfl
  rw[hx]
  unfold Y4 q3w Dev.new
  rw[k2q]
  rfl
end Go.Proofs.YtinfbclgkghgaaaGreat.AL
namespace Go.Proofs.YtinfbclgkghgaaaGreat.AL
open Go
theorem x1f {n:Nat}:∀ {l:List AV},(∀ u∈l,X7 n u=true)→U4 n l=true
 |[],_=>rfl
 |x :: r,h=>by
  simp only[U4,Bool.and_eq_true]
  exact⟨h x (by simp),x1f fun u hu=>h u (by simp[hu])⟩
theorem z7t {k n:Nat}{l:List (Nat × AV)}(h:q6b k l=true):U4 k (W8 n l)=true:=by
 refine x1f fun u hu=>?_
 unfold W8 at hu
 rw[List.mem_map]at hu
 obtain⟨t,_,rfl⟩:=hu
 cases e:Z9 l t with
 |none=>rfl
 |some u=>exact z1s h e
theorem y1h {n:Nat}{x:ABlk}:∀ {H:List ABlk},q3e n H=true→x3p n x=true→q3e n (H++[x])=true
 |[],_,h=>by simp[q3e,h]
 |y :: r,h,hx=>by
  simp only[q3e,Bool.and_eq_true,List.cons_append]at h ⊢
  exact⟨h.1,y1h h.2 hx⟩
theorem x1g {m:Nat}{s:St}(M:Nat)(ks:List Nat){q:RecK}{st:LoopState}{pe:Option Code}{l:List AV}(hM:s.H[M]?=some (.lp q st pe l))(hl:U4 (M+1) l=true)
 (hm:Nat.ble m (M+1)=true) (hf:q6b (M+1) (q2p s.fr.l ks)=true) (hb:q3e (M+1) (s.H.take M)=true) :
 Wk m s ⟨⟨s.fr.n,q2p s.fr.l ks⟩,s.H.take (M+1)⟩:=by
 have hlt:M<s.H.length:=(k0u.1 hM).1
 refine z6g (M+1) ks hm (by rw[Nat.ble_eq];omega) hf ?_
 rw[k2t,hM]
 exact y1h hb hl
theorem w8q {m:Nat}{s:St}(ks:List Nat):Wk m s ⟨⟨s.fr.n,q2p s.fr.l ks⟩,s.H⟩:=fun _ _ I ι _ hs hm=>
 ⟨I,ι,hs.turn ⟨hs.fr.1,fun i u hu=>hs.fr.2 i u (q4e hu)⟩ hs.H (Ex.refl hm),Ex.refl hm⟩
theorem x1h {P:Program}{α β:Type}{M n:Nat}{q:RecK}{lf:List (Nat × AV)}{args:List AV}{J:ABlk→α→List ABlk}{Z:ABlk→β→List ABlk}{a:α}{Rnd:α→Prop}{Stp:Code→β→Prop}
 (hJ:∀ L a,(J L a)[M]?=some L∧∀ L',(J L a).set M L'=J L' a) (hZ:∀ L z,(Z L z)[M]?=some L∧∀ L',(Z L z).set M L'=Z L' z)
 (hlf:∀ t u,Z9 lf t=some u→t<n) (hps:∀ p∈q.ps.toList,p<n) (hpa:q.ps.size=args.length) (hbf:q6b (M+1) lf=true)
 (hround:∀ B l,U4 (M+1) l=true→AW P (some B) (M+1) q.assign ⟨⟨n,z6i lf q.ps.toList args⟩,J (.lp q .ready none l) a⟩
  (z5x (fun s1=>s1.H[M]?=some (.lp q .ready none l)∧AW P (some B) (M+1) q.body ⟨s1.fr,s1.H.set M (.lp q .busy none l)⟩ (w4s M J Z (.lp q .busy none l) Rnd Stp)) (fun _ _=>False))) :
 AYm P (M+1) M args (J (.lp q .ready none (W8 n lf)) a) (fun r H'=>(r=.p (.raw (.bool true))∧∃ a',Rnd a'∧H'=J (.lp q .ready none (W8 n lf)) a')∨(r=.p (.raw (.bool false))∧∃ c z,Stp c z∧H'=Z (.lp q .done (some c) (W8 n lf)) z)):=
 v5q hJ hZ hlf hps hpa fun B=>hround B _ (z7t hbf)
theorem AYm.mono {P:Program}{m b:Nat}{args:List AV}{H:List ABlk}{R R':AV→List ABlk→Prop}(h:AYm P m b args H R)(hR:∀ r H',R r H'→R' r H'):AYm P m b args H R':=
 fun w I ι vals B hn ha hs hb=>let ⟨fn,tmps,assign,body,h1,h2⟩:=h w I ι vals B hn ha hs hb
  ⟨fn,tmps,assign,body,h1,h2.mono fun _ _ ⟨v,r,H',I',ι',e,hr,k⟩=>⟨v,r,H',I',ι',e,hR _ _ hr,k⟩⟩
theorem y6h {m:Nat}{s:St}(b k:Nat){t:TypeId}{sz:Nat}{xs:List (List PV)}(hb:s.H[b]?=some (.row t sz xs)):Wk m s ⟨s.fr,s.H.set b (.row t sz (xs.take k))⟩:=fun N w I ι a hs hm=>by
 have hlive:live s.H b:=⟨_,hb,rfl⟩
 have hlv:∀ c,live (s.H.set b (.row t sz (xs.take k))) c→live s.H c:=fun c hc=>q1r hc hlive
 have hsim:SimH w I ι (s.H.set b (.row t sz (xs.take k))):=by
  refine⟨fun c k' hc=>?_,fun c c' B hc hc'=>hs.H.inj c c' B (hlv c hc) (hlv c' hc'),hs.H.Ilt,fun c hc=>hs.H.dom c (by simpa using hc),hs.H.rng⟩
  by_cases e:c=b
  ·subst e
   rw[k2y (V7 hlive)]at hc
   obtain rfl:=k0y hc
   rcases hs.H.blk c _ hb with ⟨g1,g2⟩|⟨B,cs,g1,g2,g3,g4,g5,g6⟩
   ·subst g1
    exact .inl ⟨List.take_nil,g2⟩
   ·have hle:(xs.take k).length≤xs.length:=by rw[k2u];omega
    refine .inr ⟨B,cs,g1,g2,g3,Nat.le_trans (k2v _ hle) g4,by omega,fun j e2 hj=>g6 j e2 ?_⟩
    have hj2:j<k:=by have:=(k0u.1 hj).1;rw[k2u]at this;omega
    rw[List.getElem?_take_of_lt hj2]at hj
    exact hj
  ·rw[k3z (by omega)]at hc
   exact hs.H.blk c k' hc
 have hx:Ex m w I ι s.H w I ι (s.H.set b (.row t sz (xs.take k))):=⟨⟨rfl,rfl,rfl,k1w _,Shape.refl w,fun _ h=>h,fun _ _ _=>rfl,fun _ h=>.inl h,fun c B hc h=>.inr ⟨c,hlv c hc,h⟩⟩,fun _ _=>rfl,by simpa using hm⟩
 exact⟨I,ι,hs.turn hs.fr hsim hx,hx⟩
theorem u2x {m:Nat}{s:St}(b:Nat){t:TypeId}{l:List AV}(ps:List PV)(hb:s.H[b]?=some (.cells t l))(hl:l=ps.map .p)(hn:Nat.ble ps.length 140737488355328=true) :
 Wk m s ⟨s.fr,s.H.set b (.row t 1 (ps.map fun p=>[p]))⟩:=fun N w I ι a hs hm=>by
 have hlive:live s.H b:=⟨_,hb,rfl⟩
 have hlv:∀ c,live (s.H.set b (.row t 1 (ps.map fun p=>[p]))) c→live s.H c:=fun c hc=>q1r hc hlive
 have hsim:SimH w I ι (s.H.set b (.row t 1 (ps.map fun p=>[p]))):=by
  refine⟨fun c k' hc=>?_,fun c c' B hc hc'=>hs.H.inj c c' B (hlv c hc) (hlv c' hc'),hs.H.Ilt,fun c hc=>hs.H.dom c (by simpa using hc),hs.H.rng⟩
  by_cases e:c=b
  ·subst e
   rw[k2y (V7 hlive)]at hc
   obtain rfl:=k0y hc
   obtain⟨B,cs,g1,g2,g3,g4,g5⟩:=hs.H.blk c _ hb
   rw[hl,k1y]at g4
   refine .inr ⟨B,cs,g1,g2,g3,by rw[k1y];omega,by rw[k1y];exact Nat.le_of_ble_eq_true hn,fun j e2 hj=>?_⟩
   rw[k1q]at hj
   cases hp:ps[j]? with
   |none=>rw[hp]at hj;cases hj
   |some p=>
    rw[hp]at hj
    obtain rfl:=k0y hj
    refine⟨rfl,fun i u hu=>?_⟩
    cases i with
    |succ i=>simp at hu
    |zero=>
     obtain rfl:p=u:=by simpa using hu
     have:=g5 j (.p p) (by rw[hl,k1q,hp];rfl)
     rw[Nat.mul_one,Nat.add_zero]
     cases this with
     |p h=>exact h
  ·rw[k3z (by omega)]at hc
   exact hs.H.blk c k' hc
 have hx:Ex m w I ι s.H w I ι (s.H.set b (.row t 1 (ps.map fun p=>[p]))):=⟨⟨rfl,rfl,rfl,k1w _,Shape.refl w,fun _ h=>h,fun _ _ _=>rfl,fun _ h=>.inl h,fun c B hc h=>.inr ⟨c,hlv c hc,h⟩⟩,fun _ _=>rfl,by simpa using hm⟩
 exact⟨I,ι,hs.turn hs.fr hsim hx,hx⟩
theorem u2y {m:Nat}{s:St}(i b sz:Nat)(h:Z9 s.fr.l i=some (.ref b 0)):Wk m s ⟨⟨s.fr.n,(i,.elr b sz 0 0) :: s.fr.l⟩,s.H⟩:=fun N w I ι a hs hm=>by
 refine⟨I,ι,hs.turn ⟨hs.fr.1,fun j u hu=>?_⟩ hs.H (Ex.refl hm),Ex.refl hm⟩
 by_cases e:i=j
 ·subst e
  rw[W0]at hu;obtain rfl:=k0y hu
  have:=hs.fr.2 i _ h
  generalize a.tmps.getD i undef=v at this ⊢
  cases this with
  |ref _ _ B hB =>
   have k:=ARep.elr (w:=w) (I:=I) b sz 0 0 B hB
   simpa using k
 ·rw[X1 _ _ e]at hu;exact hs.fr.2 j u hu
end Go.Proofs.YtinfbclgkghgaaaGreat.AL
namespace Go.Proofs.YtinfbclgkghgaaaGreat.AL
open Go Go.Proofs
def q4v (hit:Wr→Bool):List Wr→Option Wr
 |[]=>none
 |x :: r=>match q4v hit r with
  |some y=>some y
  |none=>match hit x with|true=>some x|false=>none
theorem y6i (hit:Wr→Bool)(x:Wr):∀ l,q4v hit (l++[x])=match hit x with|true=>some x|false=>q4v hit l
 |[]=>by cases h:hit x <;> simp[q4v,h]
 |y :: r=>by
  simp only[List.cons_append,q4v,y6i hit x r]
  cases hit x <;> rfl
theorem y6j (hit:Wr→Bool){l:List Wr}{i:Nat}{x:Wr}(h:l[i]?=some x):q4v hit (l.take (i+1))=match hit x with|true=>some x|false=>q4v hit (l.take i):=by
 rw[k2t,h];exact y6i hit x _
theorem v6k (l:List Wr):AFm Tryz.prog 1 q6d [.msl 0 2 0 l.length] [.row Z0 2 (wx l)] (v8 (.clo (.func q1e) [.ref 1 0]) [.row Z0 2 (wx l),.cells q7h [.msl 0 2 0 l.length]]):=by
 refine Q5 1 hT q6e rfl rfl q6f rfl rfl ?_
 refine q8 hT ?_
 refine q8 hT ?_
 refine y9 ?_
 exact z9 [0,1] ⟨rfl,rfl⟩ rfl
abbrev y6k (D:Dev)(a:Int)(L:ABlk):List ABlk:=[q3w D 1 2,.row Z4 4 (cx D.cells),.row Z0 2 (wx D.waits),.cells q4u [i64 a],.cells z0 [.p (.raw (.slice none 0 0))],.cells q0r [i64 0],.cells q7h [.msl 2 2 0 D.waits.length],L]
abbrev w8r (D:Dev)(a:Int)(s:z6)(L:ABlk):List ABlk:=[q3w D 1 2,.row Z4 4 (cx D.cells),.row Z0 2 (wx D.waits),.cells q4u [i64 a],.cells z0 [bA s],.cells q0r [i64 0],.cells q7h [.msl 2 2 0 D.waits.length],L]
theorem v6m (D:Dev)(a:Int)(q:RecK)(l:List AV)(hn:D.waits.length≤1000000)(hit:Wr→Bool)(S:Code→z6→Prop)
 (hy:∀ (i:Nat) (x:Wr),D.waits[i]?=some x→AYm Tryz.prog 8 7 [i64 i,.agg [i64 x.at_,bA x.s]] (y6k D a (.lp q .ready none l)) (fun r H'=>(r=bl true∧hit x=false∧H'=y6k D a (.lp q .ready none l))∨(r=bl false∧hit x=true∧∃ c,S c x.s∧H'=w8r D a x.s (.lp q .done (some c) l)))) :
 AFm Tryz.prog 8 q1e [.yld 7,.ref 6 0] (y6k D a (.lp q .ready none l)) (fun _ H'=>(q4v hit D.waits=none∧H'=y6k D a (.lp q .ready none l))∨(∃ x c,q4v hit D.waits=some x∧S c x.s∧H'=w8r D a x.s (.lp q .done (some c) l))):=by
 refine Q5 8 hT q5c rfl rfl q5d rfl rfl ?_
 refine q8 hT ?_
 refine z3 ?_
 refine y7 (fun n s=>∃ j:Int,j=(n:Int) - 1∧n≤D.waits.length∧q4v hit D.waits=q4v hit (D.waits.take n)∧s=⟨⟨19,[(0,.yld 7),(1,.ref 6 0),(3,i64 j)]⟩,y6k D a (.lp q .ready none l)⟩) D.waits.length ⟨⟨19,_⟩,_⟩ (w8q [0,1,3]) ⟨_,?_,k1w _,by rw[List.take_length],rfl⟩ ?_
 ·exact y8 _ (by omega) (by omega)
 rintro n s ⟨j,hj,hle,hl,rfl⟩
 refine z8 (q8 hT ?_)
 refine z4 (y4 (fun h=>?_) (fun h=>?_))
 ·have h:=k0q h
  cases n with
  |zero=>omega
  |succ n=>
  have hj:j=(n:Int):=by omega
  subst hj
  have hx:=k0x (show n<D.waits.length by omega)
  generalize D.waits[n]=x at hx
  refine z5 ?_
  refine z8 (z3 (q8 hT ?_))
  refine⟨⟨k2w _,by omega⟩,?_⟩
  refine w9 (show (wx D.waits)[0+((n:Nat):Int).toNat]?=some x.pv by rw[Nat.zero_add,k0v];exact y6d hx) ?_
  refine⟨_,hy n x hx,?_⟩
  rintro r H' (⟨rfl,hh,rfl⟩|⟨rfl,hh,c,hT,rfl⟩)
  ·refine z4 ?_
   refine z5 ?_
   refine q9 hT ?_
   refine⟨n,by omega,_,w8q [0,1,3],_,?_,by omega,?_,rfl⟩
   ·exact y8 _ (by omega) (by omega)
   ·rw[hl,y6j hit hx,hh]
  ·refine z4 ?_
   refine y9 ?_
   refine⟨_,_,Wk.refl _ _,.inr ⟨x,c,?_,hT,rfl⟩⟩
   rw[hl,y6j hit hx,hh]
 ·have h:=k0z h
  refine x6 ?_
  have hn0:n=0:=by omega
  subst hn0
  exact⟨_,_,Wk.refl _ _,.inl ⟨hl,rfl⟩⟩
abbrev q4s (a:Int):Wr→Bool:=fun x=>x.at_==a
def Dev.readAt (D:Dev)(a:Int):Int × z6:=match q4v (q4s a) D.waits with
 |some x=>(0,x.s)
 |none=>match D.cells[a.toNat]? with
  |some c=>match c.lost with|true=>(20,[])|false=>(0,c.s)
  |none=>(20,[])
def Dev.read (D:Dev)(a:Int):(z6 × Int) × Dev:=match D.dead with
 |true=>(([],21),D)
 |false=>match D.has a with
  |false=>(([],3),D)
  |true=>(((D.readAt a).2,(D.readAt a).1),D.count)
theorem x1i (D:Dev)(a:Int)(hn:D.waits.length≤1000000)(hs:∀ x∈D.waits,x.s.length≤1000000)(hc:∀ c∈D.cells,c.s.length≤1000000) :
 AFm Tryz.prog 3 q8z [.ref 0 0,i64 a] (Y4 D) (v8 (.tup [bA (D.read a).1.1,i64 (D.read a).1.2]) (Y4 (D.read a).2)):=by
 refine Q5 3 hT z9y rfl rfl z9z rfl rfl ?_
 refine q8 hT ?_
 refine z7 ⟨⟨54,[(0,.ref 0 0),(3,.ref 3 0),(4,.ref 4 0),(5,.ref 5 0)]⟩,[q3w D 1 2,.row Z4 4 (cx D.cells),.row Z0 2 (wx D.waits),.cells q4u [i64 a],.cells z0 [.p (.raw (.slice none 0 0))],.cells q0r [i64 0]]⟩ (D.dead=false∧D.has a=true) (z3 (q8 hT ?_)) ?_
 ·refine x7 (Q7 [0,1,2] (z3m D) rfl rfl rfl) ?_
  refine z4 (y4 (fun h=>?_) (fun h=>?_))
  ·have e:D.read a=(([],21),D):=by unfold Dev.read;rw[h]
   refine q8 hT ?_
   refine u6 (V0 4 [.p (.sl 1 [])] rfl ⟨.inr (.inr (.inr ⟨1,rfl,rfl⟩)),trivial⟩) ?_
   refine y9 ?_
   rw[e]
   exact z9 [0,1,2] ⟨rfl,rfl⟩ rfl
  refine q8 hT ?_
  refine x7 (Q7 [0,1,2] (z7r D a) rfl rfl rfl) ?_
  refine z4 (y4 (fun h1=>?_) (fun h1=>?_))
  ·have e:D.read a=(([],3),D):=by unfold Dev.read;rw[h,(Bool.not_eq_true' _).mp h1]
   refine q8 hT ?_
   refine u6 (V0 4 [.p (.sl 1 [])] rfl ⟨.inr (.inr (.inr ⟨1,rfl,rfl⟩)),trivial⟩) ?_
   refine y9 ?_
   rw[e]
   exact z9 [0,1,2] ⟨rfl,rfl⟩ rfl
  exact z5 ⟨q7 [0,1,2,3,4,5] [0,3,4,5] rfl,h,(Bool.not_eq_false' _).mp h1⟩
 ·rintro⟨h,h1⟩
  have e:D.read a=(((D.readAt a).2,(D.readAt a).1),D.count):=by unfold Dev.read;rw[h,h1]
  rw[e]
  clear e
  have hlt:a.toNat<D.cells.length∧0≤a∧a<(D.cells.length:Int):=by
   have h1:(decide (a≥0)&&decide (a<(D.cells.length:Int)))=true:=h1
   rw[k1v,decide_eq_true_eq,decide_eq_true_eq]at h1
   omega
  have hcg:=k0x hlt.1
  have hcs:=hc _ (k1x hlt.1)
  generalize D.cells[a.toNat]=c at hcg hcs
  have g1:(cx D.cells)[0+a.toNat]?=some c.pv:=by rw[Nat.zero_add];exact y6c hcg
  refine q8 hT ?_
  refine z8 (q8 hT ?_)
  refine x7 (Q7 [2] (v6k D.waits) rfl rfl rfl) ?_
  refine z3 ?_
  refine z6k 7 54 [0,1,2,3,4,5,6,7] [0,3,4,5,27] (fun L (_:Unit)=>y6k D.count a L) (fun L s=>w8r D.count a s L) () (fun _=>q4v (q4s a) D.waits=none) (fun c z=>c=.ret∧∃ x,q4v (q4s a) D.waits=some x∧z=x.s) rfl rfl (fun L _=>⟨rfl,fun _=>rfl⟩) (fun L _=>⟨rfl,fun _=>rfl⟩) rfl ?_ ?_ ?_
  ·refine AFm.mono (v6m D.count a _ _ hn (q4s a) (fun c z=>c=.ret) ?_) ?_
   ·intro i x hx
    refine AYm.mono (x1h (J:=fun L (_:Unit)=>y6k D.count a L) (Z:=fun L s=>w8r D.count a s L) (a:=()) (Rnd:=fun _=>q4s a x=false) (Stp:=fun c z=>c=.ret∧q4s a x=true∧z=x.s) (fun L _=>⟨rfl,fun _=>rfl⟩) (fun L _=>⟨rfl,fun _=>rfl⟩) ?_ ?_ rfl rfl ?_) ?_
    ·exact fun t u ht=>z6j (ks:=[0,3,4,5,27]) rfl ht
    ·show ∀ p∈[28,29],p<54
     decide
    ·intro B l hbl
     have hsx:=hs x (k2x (show D.waits[i]?=some x from hx))
     refine q9 hT ?_
     refine⟨rfl,?_⟩
     refine z3 (q8 hT ?_)
     refine z4 (y4 (fun h2=>?_) (fun h2=>?_))
     ·refine q8 hT ?_
      refine x7 (w7 (z7s x.s hsx) _ rfl rfl) ?_
      refine y9 ?_
      exact⟨x.s,_,⟨rfl,h2,rfl⟩,x1g 7 [] rfl hbl rfl rfl rfl⟩
     ·refine z5 ?_
      exact⟨(),_,h2,x1g 7 [] rfl hbl rfl rfl rfl⟩
    ·rintro r H' (⟨hr,_,hh,hH⟩|⟨hr,c,z,⟨h3,h4,h5⟩,hH⟩)
     ·exact .inl ⟨hr,hh,hH⟩
     ·subst h5;exact .inr ⟨hr,h4,c,h3,hH⟩
   ·rintro r H' (⟨hx,rfl⟩|⟨x,c,hx,rfl,rfl⟩)
    ·exact .inl ⟨(),hx,rfl⟩
    ·exact .inr ⟨_,_,⟨rfl,x,hx,rfl⟩,rfl⟩
  ·intro _ hl
   refine z8 (z8 ?_)
   refine v7 [] [] hT y5 (by rfl) ?_
   refine⟨⟨hlt.2.1,hlt.2.2⟩,?_⟩
   refine w9 g1 ?_
   have e:D.readAt a=match c.lost with|true=>(20,[])|false=>(0,c.s):=by unfold Dev.readAt;rw[hl,hcg]
   refine z4 (y4 (fun h2=>?_) (fun h2=>?_))
   ·have h2:c.lost=true:=h2
    rw[h2]at e
    refine q8 hT ?_
    refine u6 (V0 4 [.p (.sl 1 [])] rfl ⟨.inr (.inr (.inr ⟨1,rfl,rfl⟩)),trivial⟩) ?_
    refine y9 ?_
    rw[e]
    exact z9 [0,1,2] ⟨rfl,rfl⟩ rfl
   ·have h2:c.lost=false:=h2
    rw[h2]at e
    refine z5 ?_
    refine z8 ?_
    refine v7 [9,10] [] hT y5 (by rfl) ?_
    refine⟨⟨hlt.2.1,hlt.2.2⟩,?_⟩
    refine w9 g1 ?_
    refine⟨_,w7 (z7s c.s hcs) _ rfl rfl,?_⟩
    refine y9 ?_
    rw[e]
    exact z9 [0,1,2] ⟨rfl,rfl⟩ rfl
  ·rintro _ z ⟨rfl,x,hx,rfl⟩
   refine y9 ?_
   have e:D.readAt a=(0,x.s):=by unfold Dev.readAt;rw[hx]
   rw[e]
   exact z9 [0,1,2] ⟨rfl,rfl⟩ rfl
end Go.Proofs.YtinfbclgkghgaaaGreat.AL
